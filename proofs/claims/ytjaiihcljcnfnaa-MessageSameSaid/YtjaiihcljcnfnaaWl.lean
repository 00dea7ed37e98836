/- Contracts of functions of this program. Conditions: none. -/
import Derived.Test.YtjaiihcljcnfnaaWj
import Derived.Test.YtjaiihcljcnfnaaVg
import Derived.Test.YtjaiihcljcnfnaaWk
import Derived.Test.YtjaiihcljcnfnaaVp
set_option linter.unusedVariables false
set_option linter.unusedSimpArgs false
/- Messages are read by the program. Conditions: none. A text of this seat's numbers. -/
set_option linter.unusedVariables false
set_option linter.unusedSimpArgs false
set_option maxRecDepth 100000
namespace Go.Crc
open Go.Vm Go.Pack Go.Rec
/-! ### Reader.Bool -/
theorem memWr_two {l i : Nat} {x : Nat × Nat} (h : memWr l i [x] = false) : memWr l i [x, x] = false := by
  simp only [memWr, Bool.or_false] at h ⊢
  rw [h]; rfl
def brF : Ob → List AV → Tr (AV × Bool × Ob)
  | .cells [.slice (.int .u8) b .view, .int .i64 e], [] => .yes (.bool (boolR ⟨b, e⟩).2, true, ofSt (boolR ⟨b, e⟩).1)
  | _, _ => .no
theorem br_ok : Con PR A n_pack_Reader_Bool (objC 0 brF) := by
  refine objC_ok fun x rest v wrote x' hv => ?_
  unfold brF at hv
  split at hv
  · rename_i b e
    cases hv
    refine ⟨rfl, rfl, rfl, rfl, by simp, fun ha _ => ?_⟩
    have h : body PR (cfE [takeE, failE]) cfgM lf0 n_pack_Reader_Bool [.ptr 1 0 0] [[], [.cells [.slice (.int .u8) b .view, .int .i64 e]]] some =
      (bif ((takeS ⟨b, e⟩ 1).2.length : Int) == 0 then some (.bool false, [(1, 0)], [[], [ofSt (takeS ⟨b, e⟩ 1).1]])
      else (at? (takeS ⟨b, e⟩ 1).2 0).bind fun x => bif decide (x > 1) then some (.bool false, [(1, 0), (1, 0)], [[], [ofSt (failS ⟨(takeS ⟨b, e⟩ 1).1.b, (takeS ⟨b, e⟩ 1).1.e⟩ 21)]])
        else (at? (takeS ⟨b, e⟩ 1).2 0).bind fun x => some (.bool (x == 1), [(1, 0)], [[], [ofSt (takeS ⟨b, e⟩ 1).1]])) := by kernel_rfl
    have hS : ∀ {v : AV} {wr : Wr} {H : Stack}, body PR (cfE [takeE, failE]) cfgM lf0 n_pack_Reader_Bool [.ptr 1 0 0] [[], [.cells [.slice (.int .u8) b .view, .int .i64 e]]] some = some (v, wr, H) → SimCall PR A n_pack_Reader_Bool [.ptr 1 0 0] [[], [.cells [.slice (.int .u8) b .view, .int .i64 e]]] (v, wr, H) :=
      fun h => fun_call _ mixed (by kernel_rfl) (by kernel_rfl) (no_loops (by kernel_rfl)) h
    unfold boolR
    cases ht : takeS ⟨b, e⟩ 1 with
    | mk s1 l =>
      rw [ht] at h
      cases l with
      | nil => exact hS h
      | cons x r =>
        have h0 : (((x :: r).length : Int) == 0) = false := by simp; omega
        simp only [h0, cond_false] at h
        rw [show at? (x :: r) 0 = some x from rfl] at h
        simp only [Option.bind_some] at h
        simp only
        cases hx : decide (x > 1) with
        | true => rw [hx] at h; exact SimCall.wr (hS h) fun l i hm => memWr_two hm
        | false => rw [hx] at h; exact hS h
  · cases hv
def brE : Ent PR A := ⟨n_pack_Reader_Bool, _, br_ok⟩
/-! ### num, part -/
def nuF : F2
  | [], [.ptr 0 1 0], [.slice (.int .u8) b .view, .int .i64 e] => .yes (.int .i64 (rNum ⟨b, e⟩).2, false, true, [.ptr 0 1 0], [.slice (.int .u8) (rNum ⟨b, e⟩).1.b .view, .int .i64 (rNum ⟨b, e⟩).1.e])
  | _, _, _ => .no
theorem nu_ok : Con PR A n_message_Decode_1 (obj2C nuF) := by
  refine obj2C_ok fun rest cs ds v w0 w1 cs' ds' hv => ?_
  unfold nuF at hv
  split at hv
  · rename_i b e
    cases hv
    refine ⟨rfl, rfl, rfl, rfl, rfl, fun _ => rfl, (by intro h; cases h), fun _ _ => ?_⟩
    have h : body PR (cfE [numE]) cfgM lf0 n_message_Decode_1 [.ptr 1 0 0] [[], [.cells [.ptr 0 1 0], .cells [.slice (.int .u8) b .view, .int .i64 e]]] some = some (.int .i64 (rNum ⟨b, e⟩).2, [(1, 1)], [[], [.cells [.ptr 0 1 0], .cells [.slice (.int .u8) (rNum ⟨b, e⟩).1.b .view, .int .i64 (rNum ⟨b, e⟩).1.e]]]) := by kernel_rfl
    exact fun_call _ mixed (by kernel_rfl) (by kernel_rfl) (no_loops (by kernel_rfl)) h
  · cases hv
def nuE : Ent PR A := ⟨n_message_Decode_1, _, nu_ok⟩
def ptF : F2
  | [], [.ptr 0 1 0], [.slice (.int .u8) b .view, .int .i64 e] => .yes (.slice (.int .u8) (textR ⟨b, e⟩ 4096).2 .view, false, true, [.ptr 0 1 0], [.slice (.int .u8) (textR ⟨b, e⟩ 4096).1.b .view, .int .i64 (textR ⟨b, e⟩ 4096).1.e])
  | _, _, _ => .no
theorem pt_ok : Con PR A n_message_Decode_2 (obj2C ptF) := by
  refine obj2C_ok fun rest cs ds v w0 w1 cs' ds' hv => ?_
  unfold ptF at hv
  split at hv
  · rename_i b e
    cases hv
    refine ⟨rfl, rfl, rfl, rfl, rfl, fun _ => rfl, (by intro h; cases h), fun _ _ => ?_⟩
    have h : body PR (cfE [textE]) cfgM lf0 n_message_Decode_2 [.ptr 1 0 0] [[], [.cells [.ptr 0 1 0], .cells [.slice (.int .u8) b .view, .int .i64 e]]] some = some (.slice (.int .u8) (textR ⟨b, e⟩ 4096).2 .view, [(1, 1)], [[], [.cells [.ptr 0 1 0], .cells [.slice (.int .u8) (textR ⟨b, e⟩ 4096).1.b .view, .int .i64 (textR ⟨b, e⟩ 4096).1.e]]]) := by kernel_rfl
    exact fun_call _ mixed (by kernel_rfl) (by kernel_rfl) (no_loops (by kernel_rfl)) h
  · cases hv
def ptE : Ent PR A := ⟨n_message_Decode_2, _, pt_ok⟩
/-! ### Decode -/
def deV (m : Msg) (e : Int) : AV := .tuple [msgA m, .int .i64 e]
def deT (z : Bool) (s : St) (m : Msg) (S : Stack) : Option Res :=
  bif !z then some (deV msg0 70, [], S) else bif endR s != 0 then some (deV msg0 70, [], S) else bif !rightM m then some (deV msg0 70, [], S) else some (deV m 0, [], S)
def lenR (p : List Int) (k : Option Res) : Option Res := bif decide (p.length ≤ 140737488355328) then k else none
def de4 (z : Bool) (s : St) (h : Msg) (S : Stack) : Option Res := deT z (boolR (rNum s).1).1 ⟨h.k, h.f, h.t, h.te, 0, (rNum s).2, (boolR (rNum s).1).2, 0, 0, [], [], en0, 0, 0, 0, [], []⟩ S
def de7 (z : Bool) (s : St) (h : Msg) (S : Stack) : Option Res :=
  bif h.k == 7 then deT z (rNum s).1 ⟨h.k, h.f, h.t, h.te, 0, 0, false, 0, 0, [], [], en0, (rNum s).2, 0, 0, [], []⟩ S
  else bif h.k == 10 then deT z (boolR (rNum s).1).1 ⟨h.k, h.f, h.t, h.te, 0, 0, (boolR (rNum s).1).2, 0, 0, [], [], en0, (rNum s).2, 0, 0, [], []⟩ S
  else bif h.k == 8 then (bif (rNum (rNum s).1).2 != 0 then lenR (textR (rNum (rNum s).1).1 4096).2 (deT z (textR (rNum (rNum s).1).1 4096).1 ⟨h.k, h.f, h.t, h.te, 0, 0, false, 0, 0, [], [], en0, (rNum s).2, (rNum (rNum s).1).2, tdT (textR (rNum (rNum s).1).1 4096).2, tdS (textR (rNum (rNum s).1).1 4096).2, tdH (textR (rNum (rNum s).1).1 4096).2⟩ S)
    else deT z (rNum (rNum s).1).1 ⟨h.k, h.f, h.t, h.te, 0, 0, false, 0, 0, [], [], en0, (rNum s).2, (rNum (rNum s).1).2, 0, [], []⟩ S)
  else bif h.k == 9 then lenR (textR (rNum s).1 4096).2 (deT z (textR (rNum s).1 4096).1 ⟨h.k, h.f, h.t, h.te, 0, 0, false, 0, 0, [], [], en0, (rNum s).2, 0, tdT (textR (rNum s).1 4096).2, tdS (textR (rNum s).1 4096).2, tdH (textR (rNum s).1 4096).2⟩ S)
  else deT z s ⟨h.k, h.f, h.t, h.te, 0, 0, false, 0, 0, [], [], en0, 0, 0, 0, [], []⟩ S
def de1 (z : Bool) (s : St) (h : Msg) (S : Stack) : Option Res :=
  bif h.k == 1 then lenR (textR (rNum (rNum s).1).1 4096).2 (bif z then deT (decErr (textR (rNum (rNum s).1).1 4096).2 == 0) (textR (rNum (rNum s).1).1 4096).1 ⟨h.k, h.f, h.t, h.te, (rNum s).2, (rNum (rNum s).1).2, false, decC (textR (rNum (rNum s).1).1 4096).2, decN (textR (rNum (rNum s).1).1 4096).2, decT (textR (rNum (rNum s).1).1 4096).2, decD (textR (rNum (rNum s).1).1 4096).2, en0, 0, 0, 0, [], []⟩ S
    else deT false (textR (rNum (rNum s).1).1 4096).1 ⟨h.k, h.f, h.t, h.te, (rNum s).2, (rNum (rNum s).1).2, false, decC (textR (rNum (rNum s).1).1 4096).2, decN (textR (rNum (rNum s).1).1 4096).2, decT (textR (rNum (rNum s).1).1 4096).2, decD (textR (rNum (rNum s).1).1 4096).2, en0, 0, 0, 0, [], []⟩ S)
  else bif h.k == 2 then deT z (rNum (rNum s).1).1 ⟨h.k, h.f, h.t, h.te, (rNum s).2, (rNum (rNum s).1).2, false, 0, 0, [], [], en0, 0, 0, 0, [], []⟩ S
  else bif h.k == 3 then lenR (textR s 4096).2 (deT z (textR s 4096).1 ⟨h.k, h.f, h.t, h.te, 0, 0, false, 0, 0, [], [], pD (textR s 4096).2, 0, 0, 0, [], []⟩ S)
  else bif h.k == 4 then (bif h.k == 4 then de4 z s h S else de7 z s h S) else (bif h.k == 6 then de4 z s h S else de7 z s h S)
theorem de_body (b : List Int) (S : Stack) : body PR (cfE [newE, cutE, newReaderE, nuE, ptE, brE, decE, edecE, tdE', endE, mrightE]) cfgM lf0 n_message_Decode [.slice (.int .u8) b .view] S some =
    (bif decide (b.length ≤ 140737488355328) then bif decide ((cutB b).length ≤ 140737488355328) then de1 (crcOK b) (h4 (cutB b)).1 (hdM (cutB b)) S else none else none) := by kernel_rfl
theorem lenR_go {s : St} {k : Option Res} : lenR (textR s 4096).2 k = k := by
  have : ((textR s 4096).2.length : Int) ≤ 4096 := text_len' _ (by omega)
  unfold lenR; rw [decide_eq_true (show (textR s 4096).2.length ≤ 140737488355328 by omega), cond_true]
theorem de1_md (z : Bool) (s : St) (h : Msg) (S : Stack) : de1 z s h S = deT (z && (md 4096 pD s h).2.2) (md 4096 pD s h).1 (md 4096 pD s h).2.1 S := by
  unfold de1 de4 de7 md
  simp only [lenR_go]
  cases e1 : h.k == 1 with
  | true => simp only [cond_true]; cases z <;> rfl
  | false =>
  cases e2 : h.k == 2 with
  | true => simp only [cond_true, cond_false, Bool.and_true]
  | false =>
  cases e3 : h.k == 3 with
  | true => simp only [cond_true, cond_false, Bool.and_true]
  | false =>
  cases e4 : h.k == 4 with
  | true => simp only [cond_true, cond_false, Bool.and_true, Bool.true_or]
  | false =>
  cases e6 : h.k == 6 with
  | true => simp only [cond_true, cond_false, Bool.and_true, Bool.false_or]
  | false =>
  cases e7 : h.k == 7 with
  | true => simp only [cond_true, cond_false, Bool.and_true, Bool.false_or]
  | false =>
  cases e10 : h.k == 10 with
  | true => simp only [cond_true, cond_false, Bool.and_true, Bool.false_or]
  | false =>
  cases e8 : h.k == 8 with
  | true =>
    simp only [cond_true, cond_false, Bool.false_or]
    rw [bne]
    cases (rNum (rNum s).1).2 == 0 <;> simp only [cond_true, cond_false, Bool.and_true, Bool.not_true, Bool.not_false]
  | false =>
  cases e9 : h.k == 9 with
  | true => simp only [cond_true, cond_false, Bool.and_true, Bool.false_or]
  | false => simp only [cond_false, Bool.and_true, Bool.false_or]
def mdeF : List AV → Tr AV
  | [.slice (.int .u8) b .view] => .br (decide (b.length ≤ 140737488355328)) (.yes (deV (mD b) (mE b))) .no
  | _ => .no
theorem mde_ok : Con PR A n_message_Decode (pureC mdeF) := by
  refine pure_con0 (cfg := cfgM) [newE, cutE, newReaderE, nuE, ptE, brE, decE, edecE, tdE', endE, mrightE] mixed (by kernel_rfl) (by kernel_rfl) (by kernel_rfl) fun args v hv ha S => ?_
  unfold mdeF at hv
  split at hv
  · rename_i b
    obtain ⟨h1, hv2⟩ := Tr.br_no hv
    cases hv2
    simp only [decide_eq_true_eq] at h1
    have hl : (cutB b).length ≤ b.length := cutB_len b
    rw [de_body, cond_eq (decide_eq_true h1), cond_eq (decide_eq_true (show (cutB b).length ≤ 140737488355328 by omega)), de1_md]
    have ha : dA b = cutB b := rfl
    unfold mD mE mOK pMd deT
    rw [ha]
    cases (crcOK b && (md 4096 pD (h4 (cutB b)).1 (hdM (cutB b))).2.2) with
    | false => rfl
    | true =>
      cases (endR (md 4096 pD (h4 (cutB b)).1 (hdM (cutB b))).1 != 0) with
      | true => rfl
      | false => cases rightM (md 4096 pD (h4 (cutB b)).1 (hdM (cutB b))).2.1 <;> rfl
  · cases hv
def mdeE : Ent PR A := ⟨n_message_Decode, _, mde_ok⟩
end Go.Crc

/- Messages are read by the document. Conditions: none. A text of this seat's numbers. -/
set_option linter.unusedVariables false
set_option linter.unusedSimpArgs false
set_option maxRecDepth 100000
namespace Go.Crc
open Go.Vm Go.Pack Go.Rec
/-! ### ReadBool -/
def rbrF : List AV → Tr AV
  | [.agg [.str b, .int .i64 e]] => .yes (.tuple [rS (boolR ⟨b, e⟩).1, .bool (boolR ⟨b, e⟩).2])
  | _ => .no
/-! ### A reader and a message -/
def stA (s : St) (m : Msg) : AV := .agg (.str s.b :: .int .i64 s.e :: msgC m)
def stOf : List AV → Option (St × Msg)
  | .str b :: .int .i64 e :: r => match msgOf r with | some m => some (⟨b, e⟩, m) | none => none
  | _ => none
theorem stOf_some {cs : List AV} {x : St × Msg} (h : stOf cs = some x) : cs = .str x.1.b :: .int .i64 x.1.e :: msgC x.2 := by
  unfold stOf at h
  split at h
  · split at h
    · rename_i b e r m hm
      cases h
      rw [msgOf_some hm]
    · cases h
  · cases h
def stF (v : St → Msg → AV) : List AV → Tr AV
  | [.agg cs] => match stOf cs with | some x => .yes (v x.1 x.2) | none => .no
  | _ => .no
theorem st_con0 (l : List (Ent PR A)) {cfg : Cfg} {g : Nat} {v : St → Msg → AV} (hn : ((PR.funcs[g]?).map fun fn => fn.name == "runtime.NumGoroutine") = some false) (hb : funB PR g = true) (hl : lpos PR g = [])
    (h : ∀ s m S, body PR (cfE l) cfg lf0 g [stA s m] S some = some (v s m, [], S)) : Con PR A g (pureC (stF v)) := by
  refine pure_con0 (cfg := cfg) l mixed hn hb hl fun args x hv ha S => ?_
  unfold stF at hv
  split at hv
  · split at hv
    · rename_i y hy
      cases hv
      have := stOf_some hy
      subst this
      exact h _ _ S
    · cases hv
  · cases hv
/-! ### fields -/
def hdrM (k f t te : Int) : Msg := ⟨k, f, t, te, 0, 0, false, 0, 0, [], [], en0, 0, 0, 0, [], []⟩
def hdOf : List AV → Option (St × Int × Int × Int × Int)
  | [.str b, .int .i64 e, .int .i64 k, .int .i64 f, .int .i64 t, .int .i64 te, .int .i64 0, .int .i64 0, .bool false, .int .i64 0, .int .i64 0, .slice (.int .i64) [] .view, .str [],
     .int .i64 0, .int .i64 0, .slice (.int .i64) [] .view, .int .i64 0, .int .i64 0, .int .i64 0, .int .i64 0, .int .i64 0, .int .i64 0, .slice (.int .i64) [] .view, .slice (.slice (.int .i64)) [] .view] => some (⟨b, e⟩, k, f, t, te)
  | _ => none
theorem hdOf_some {cs : List AV} {s : St} {k f t te : Int} (h : hdOf cs = some (s, k, f, t, te)) : cs = .str s.b :: .int .i64 s.e :: msgC (hdrM k f t te) := by
  unfold hdOf at h
  split at h
  · cases h; rfl
  · cases h
def lenS (s : St) (k : Option Res) : Option Res := bif decide ((textR s 65536).2.length ≤ 140737488355328) then k else none
theorem lenS_go {s : St} {k : Option Res} : lenS s k = k := by
  have : ((textR s 65536).2.length : Int) ≤ 65536 := text_len' _ (by omega)
  unfold lenS; rw [decide_eq_true (show (textR s 65536).2.length ≤ 140737488355328 by omega), cond_true]
def fiV (x : St × Msg × Bool) (S : Stack) : Option Res := some (stA x.1 x.2.1, [], S)
theorem md_big {L : Int} {D : List Int → En} {s : St} {n : Nat} {f t te : Int} : md L D s (hdrM (Int.ofNat (n + 11)) f t te) = (s, hdrM (Int.ofNat (n + 11)) f t te, true) := by
  have hb : ∀ j : Nat, j ≤ 10 → ((Int.ofNat (n + 11) : Int) == (j : Int)) = false := fun j hj => by
    rw [beq_eq_false_iff_ne]
    simp only [Int.ofNat_eq_natCast]; omega
  have b1 := hb 1 (by omega); have b2 := hb 2 (by omega); have b3 := hb 3 (by omega); have b4 := hb 4 (by omega); have b6 := hb 6 (by omega)
  have b7 := hb 7 (by omega); have b8 := hb 8 (by omega); have b9 := hb 9 (by omega); have b10 := hb 10 (by omega)
  have e : (hdrM (Int.ofNat (n + 11)) f t te).k = Int.ofNat (n + 11) := rfl
  unfold md
  rw [e]
  rw [show ((Int.ofNat (n + 11) : Int) == 1) = false from b1, show ((Int.ofNat (n + 11) : Int) == 2) = false from b2, show ((Int.ofNat (n + 11) : Int) == 3) = false from b3, show ((Int.ofNat (n + 11) : Int) == 4) = false from b4, show ((Int.ofNat (n + 11) : Int) == 6) = false from b6,
    show ((Int.ofNat (n + 11) : Int) == 7) = false from b7, show ((Int.ofNat (n + 11) : Int) == 8) = false from b8, show ((Int.ofNat (n + 11) : Int) == 9) = false from b9, show ((Int.ofNat (n + 11) : Int) == 10) = false from b10]
  rfl
def ffF : List AV → Tr AV
  | [.agg cs] => match hdOf cs with | some (s, k, f, t, te) => .br (decide (0 ≤ k)) (.yes (stA (md 65536 rD s (hdrM k f t te)).1 (md 65536 rD s (hdrM k f t te)).2.1)) .no | none => .no
  | _ => .no
/-! ### Decode -/
end Go.Crc
