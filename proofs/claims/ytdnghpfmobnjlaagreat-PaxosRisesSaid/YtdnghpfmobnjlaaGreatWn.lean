/- Contracts of functions of this program. Conditions: none. -/
import Derived.Test.YtdnghpfmobnjlaaGreatWm
set_option linter.unusedVariables false
set_option linter.unusedSimpArgs false
/- Messages that are small; scripts of calls. Conditions: none. A text of this seat's numbers. -/
set_option linter.unusedVariables false
set_option linter.unusedSimpArgs false
set_option maxRecDepth 100000
namespace Go.Crc
open Go.Vm Go.Pack Go.Rec Go.RowKit
abbrev ROpT : Ty := (.pair (.int .i64) (.pair (.int .i64) (.pair (.pair (.int .i64) (.pair (.int .i64) (.pair (.int .i64) (.pair (.int .i64) (.pair (.int .i64) (.pair (.int .i64) (.pair .bool (.pair (.pair (.pair (.int .i64) (.int .i64)) (.pair (.slice (.int .i64)) .str)) (.pair (.pair (.int .i64) (.pair (.int .i64) (.pair (.slice (.int .i64)) (.pair (.int .i64) (.pair (.int .i64) (.int .i64)))))) (.pair (.int .i64) (.pair (.int .i64) (.pair (.int .i64) (.pair (.slice (.int .i64)) (.slice (.slice (.int .i64)))))))))))))))) .bool)))
abbrev ROp := Int × Int × MsI × Bool
abbrev opM (x : ROp) : Msg := toM x.2.2.1
abbrev opC (x : ROp) : List AV := .int .i64 x.1 :: .int .i64 x.2.1 :: app (msgC (opM x)) [.bool x.2.2.2]
def opsOf : AV → Option (List ROp)
  | .slice (.pair (.int .i64) (.pair (.int .i64) (.pair (.pair (.int .i64) (.pair (.int .i64) (.pair (.int .i64) (.pair (.int .i64) (.pair (.int .i64) (.pair (.int .i64) (.pair .bool (.pair (.pair (.pair (.int .i64) (.int .i64)) (.pair (.slice (.int .i64)) .str)) (.pair (.pair (.int .i64) (.pair (.int .i64) (.pair (.slice (.int .i64)) (.pair (.int .i64) (.pair (.int .i64) (.int .i64)))))) (.pair (.int .i64) (.pair (.int .i64) (.pair (.int .i64) (.pair (.slice (.int .i64)) (.slice (.slice (.int .i64)))))))))))))))) .bool))) l .view => some l
  | _ => none
theorem opsOf_some {a : AV} {l : List ROp} (h : opsOf a = some l) : a = .slice ROpT l .view := by
  unfold opsOf at h
  split at h
  · cases h; rfl
  · cases h
def shN : List (List Int) → Int → Int
  | [], n => n
  | x :: r, n => shN r (IntKind.i64.wrap (n + IntKind.i64.wrap ((x.length : Int) + 1)))
def fw0 (m : Msg) : Int := IntKind.i64.wrap (IntKind.i64.wrap (IntKind.i64.wrap ((m.rd.length : Int) + (m.rt.length : Int)) + (m.e.2.2.1.length : Int)) + (m.cs.length : Int))
def smallM (m : Msg) : Bool := decide (shN m.ch (fw0 m) ≤ 300)
def smlF (vs : List AV) (H : Stack) : Tr (Ex × List AV × Stack × Wr) := match vs, H with
  | [.int .i64 n, .slice (.slice (.int .i64)) sh .view, .int .i64 q, .int .i64 j], [.cells cs] :: S =>
    .br (decide (q = sh.length) && decide (j = 0)) (.yes (.exit 0, [.int .i64 (shN sh n)], [.cells cs] :: S, [])) .no
  | _, _ => .no
def lfSml : Nat → Option LoopSum := lfOf [(58, loopT [3, 27, 28, 29] [3] smlF)]
noncomputable abbrev LSml (N : Nat) := LC PR (cfE (P := PR) (A := A) []) cfgPx lfSml n_law_small 0 58 [3, 27, 28, 29] [3] N
theorem sml_round (n : Int) (sh : List (List Int)) (q j : Int) (cs : List AV) (S : Stack) (wr : Wr) (N : Nat) (k : Ex → List AV → Stack → Wr → Option Res) :
    LSml (N + 1) [.int .i64 n, .slice RowT sh .view, .int .i64 q, .int .i64 j] ([.cells cs] :: S) wr k =
      (bif decide (j < q) then (at? sh j).bind fun x => LSml N [.int .i64 (IntKind.i64.wrap (n + IntKind.i64.wrap ((x.length : Int) + 1))), .slice RowT sh .view, .int .i64 q, .int .i64 (IntKind.i64.wrap (j + 1))] ([.cells cs] :: S) wr k
      else k (.exit 0) [.int .i64 n] ([.cells cs] :: S) wr) := by kernel_rfl
theorem sh_fold (E : Int → Option Res) : ∀ (r : List (List Int)) (j : Nat) (n : Int), foldK (fun _ (x : List Int) n k => k (IntKind.i64.wrap (n + IntKind.i64.wrap ((x.length : Int) + 1)))) E j r n = E (shN r n)
  | [], j, n => rfl
  | x :: r, j, n => sh_fold E r (j + 1) _
theorem sml_loops : ∀ x ∈ funLoops PR n_law_small, ∀ L, lfSml x.1 = some L → LoopOK (ntm PR n_law_small) (fun fr H wr k => code PR (cfE (P := PR) (A := A) []) cfgPx lfSml (cfgPx.live n_law_small) x.2 (2 * x.1) fr H wr k) L := by
  refine one_loop (p := 58) rfl (by kernel_rfl) (loopT_ok (by decide) fun vs H wr ex vs' H' w hv ha hh => ?_)
  unfold smlF at hv
  split at hv
  · rename_i n sh q j cs S
    obtain ⟨hc, hv2⟩ := Tr.br_no hv
    cases hv2
    simp only [Bool.and_eq_true, decide_eq_true_eq] at hc
    obtain ⟨h1, h2⟩ := hc
    subst h2
    simp only [okAVs, okAV] at ha
    have hl : sh.length ≤ maxInt := ha.2.1.1
    refine ⟨sh.length + 1, fun k => ?_⟩
    have := fold_loop (F := fun N j n => LSml N [.int .i64 n, .slice RowT sh .view, .int .i64 q, .int .i64 j] ([.cells cs] :: S) wr k) (xs := sh) (m := q) (step := fun _ (x : List Int) n k => k (IntKind.i64.wrap (n + IntKind.i64.wrap ((x.length : Int) + 1)))) (E := fun n => k (.exit 0) [.int .i64 n] ([.cells cs] :: S) wr) h1 hl (fun N j n => sml_round n sh q j cs S wr N k) sh.length 0 n (by omega)
    rw [List.drop_zero, sh_fold] at this
    exact this
  · cases hv
def smlC : List AV → Tr AV
  | [.agg mc] => match msgOf mc with
    | some m => .yes (.bool (smallM m))
    | none => .no
  | _ => .no
theorem sml_ok : Con PR A n_law_small (pureC smlC) := by
  refine pure_con (cfg := cfgPx) (lf := lfSml) [] mixed (by kernel_rfl) (by kernel_rfl) sml_loops fun args v hv ha S => ?_
  unfold smlC at hv
  split at hv
  · split at hv
    · rename_i m hm
      have := msgOf_some hm
      subst this
      cases hv
      have h : body PR (cfE (P := PR) (A := A) []) cfgPx lfSml n_law_small [msgA m] S some = (bif decide ((m.ch.length : Int) = (m.ch.length : Int)) && decide ((0 : Int) = 0) then some (.bool (smallM m), [], S) else none) := by kernel_rfl
      rw [decide_eq_true rfl, decide_eq_true rfl] at h
      exact h
    · cases hv
  · cases hv
def smlE : Ent PR A := ⟨n_law_small, _, sml_ok⟩
end Go.Crc
/- The law PaxosRises. Conditions: none. A text of this seat's numbers. -/
set_option linter.unusedVariables false
set_option linter.unusedSimpArgs false
set_option maxRecDepth 100000
namespace Go.Crc
open Go.Vm Go.Pack Go.Rec Go.RowKit
noncomputable def ERse : List (Ent PR A) := [stNwE, napE, palvE, smlE, aprE, aacE, ownE, aptE, acrE]
abbrev rseH (a b : Int) (c : List Int) (z : AcS) : List Ob := [.cells [.int .i64 a, .int .i64 b, .slice (.int .u8) c .view], astO z.b z.n z.o, acOj 1 z.id z.sl z.v]
abbrev conOb (v : AcV) : Ob := .cells [.int .i64 v.ct, .slice (.int .i64) v.cs .view, .slice RowT v.ch .view]
abbrev rseZ (x : ROp) (z : AcS) : AcS := bif x.1 == 0 then ptkZ z (opM x) else bif x.1 == 1 then pcrZ z x.2.1 else z
abbrev rseW (x : ROp) : Wr := bif x.1 == 0 then [(0, 5), (0, 2), (0, 1), (0, 4), (0, 3)] else bif x.1 == 1 then [(0, 5), (0, 2), (0, 1), (0, 4), (0, 3)] else [(0, 5), (0, 4), (0, 3)]
def rseS : List ROp → AcS → AcS × Option ROp
  | [], z => (z, none)
  | x :: r, z => bif smallM (opM x) then rseS r (rseZ x z) else (z, some x)
def rseWs : List ROp → Wr
  | [] => []
  | x :: r => bif smallM (opM x) then app (rseWs r) (rseW x) else [(0, 3)]
theorem rseWs_all0 : ∀ l, all0 (rseWs l) = true
  | [] => rfl
  | x :: r => by
    unfold rseWs rseW
    cases smallM (opM x) with
    | false => rfl
    | true =>
      refine all0_app (rseWs_all0 r) ?_
      cases x.1 == 0 <;> cases x.1 == 1 <;> rfl
def rseZ0 (i s : Int) : AcS := ⟨i, s, av0, [], 0, false⟩
def rseOf : List Ob → Option (Int × Int × List Int × Bool)
  | [.cells [.int .i64 a, .int .i64 b, .slice (.int .u8) c .view], .cells [.slice (.int .u8) [] .own, .int .i64 n, .bool o], .cells [.int .i64 i, .int .i64 s, .ptr 0 1 0, .int .i64 p, .int .i64 ac, .int .i64 ct, .slice (.int .i64) [] .view, .slice (.slice (.int .i64)) [] .view]] =>
    some (a, b, c, decide (n = 0) && (!o && (decide (i = a) && (decide (s = b) && (decide (p = 0) && (decide (ac = 0) && decide (ct = 0)))))))
  | _ => none
theorem rseOf_some {l : List Ob} {x : Int × Int × List Int} (h : rseOf l = some (x.1, x.2.1, x.2.2, true)) : l = rseH x.1 x.2.1 x.2.2 (rseZ0 x.1 x.2.1) := by
  unfold rseOf at h
  split at h
  · simp only [Option.some.injEq, Prod.mk.injEq] at h
    obtain ⟨rfl, rfl, rfl, hc⟩ := h
    simp only [Bool.and_eq_true, decide_eq_true_eq, Bool.not_eq_true'] at hc
    obtain ⟨rfl, rfl, rfl, rfl, rfl, rfl, rfl⟩ := hc
    rfl
  · cases h
def rseF (vs : List AV) (H : Stack) : Tr (Ex × List AV × Stack × Wr) := match vs, H with
  | [.ptr 0 2 0, a, .int .i64 m, .int .i64 i], h :: S =>
    match opsOf a, rseOf h with
    | some l, some (a, b, c, ok) => .br (ok && (decide (m = l.length) && decide (i = 0))) (.br (rseS l (rseZ0 a b)).2.isNone
        (.yes (.exit 0, [.undef], rseH a b c (rseS l (rseZ0 a b)).1 :: S, rseWs l))
        (.yes (.ret, [.bool true], app (rseH a b c (rseS l (rseZ0 a b)).1) [.cells (opC ((rseS l (rseZ0 a b)).2.getD default))] :: S, rseWs l))) .no
    | _, _ => .no
  | _, _ => .no
def lfRse : Nat → Option LoopSum := lfOf [(250, loopT [6, 41, 42, 43] [4] rseF)]
noncomputable abbrev LRse (N : Nat) := LC PR (cfE ERse) cfgPx lfRse n_law_PaxosRises 0 250 [6, 41, 42, 43] [4] N
def rseK (z z' : AcS) (no ok : Option Res) : Option Res :=
  bif smC z'.v.cs z'.v.ch then bif decide (z'.v.pr < z.v.pr) then no else bif decide (z'.v.ac < z.v.ac) then no else bif decide (z'.v.ac > z'.v.pr) then no else ok else none
theorem rse_round (l : List ROp) (m i : Int) (z : AcS) (a b : Int) (c : List Int) (S : Stack) (wr : Wr) (N : Nat) (k : Ex → List AV → Stack → Wr → Option Res) :
    LRse (N + 1) [.ptr 0 2 0, .slice ROpT l .view, .int .i64 m, .int .i64 i] (rseH a b c z :: S) wr k =
      (bif decide (i < m) then (at? l i).bind fun x => bif !smallM (opM x) then k .ret [.bool true] (app (rseH a b c z) [.cells (opC x)] :: S) ((0, 3) :: wr)
        else bif smC z.v.cs z.v.ch then
          bif x.1 == 0 then bif goodA z then rseK z (ptkZ z (opM x)) (k .ret [.bool false] (app (rseH a b c (idA z (ptkZ z (opM x)))) [.cells (opC x), conOb z.v, conOb (ptkZ z (opM x)).v] :: S) (app [(0, 5), (0, 2), (0, 1), (0, 4), (0, 3)] wr))
              (LRse N [.ptr 0 2 0, .slice ROpT l .view, .int .i64 m, .int .i64 (IntKind.i64.wrap (i + 1))] (rseH a b c (idA z (ptkZ z (opM x))) :: S) (app [(0, 5), (0, 2), (0, 1), (0, 4), (0, 3)] wr) k) else none
          else bif x.1 == 1 then bif goodA z then rseK z (pcrZ z x.2.1) (k .ret [.bool false] (app (rseH a b c (idA z (pcrZ z x.2.1))) [.cells (opC x), conOb z.v, conOb (pcrZ z x.2.1).v] :: S) (app [(0, 5), (0, 2), (0, 1), (0, 4), (0, 3)] wr))
              (LRse N [.ptr 0 2 0, .slice ROpT l .view, .int .i64 m, .int .i64 (IntKind.i64.wrap (i + 1))] (rseH a b c (idA z (pcrZ z x.2.1)) :: S) (app [(0, 5), (0, 2), (0, 1), (0, 4), (0, 3)] wr) k) else none
          else rseK z z (k .ret [.bool false] (app (rseH a b c z) [.cells (opC x), conOb z.v, conOb z.v] :: S) (app [(0, 5), (0, 4), (0, 3)] wr))
              (LRse N [.ptr 0 2 0, .slice ROpT l .view, .int .i64 m, .int .i64 (IntKind.i64.wrap (i + 1))] (rseH a b c z :: S) (app [(0, 5), (0, 4), (0, 3)] wr) k)
        else none
      else k (.exit 0) [.undef] (rseH a b c z :: S) wr) := by kernel_rfl
theorem rseK_ok {z z' : AcS} (hs : smC z'.v.cs z'.v.ch = true) (h1 : z.v.pr ≤ z'.v.pr) (h2 : z.v.ac ≤ z'.v.ac) (h3 : z'.v.ac ≤ z'.v.pr) (no ok : Option Res) : rseK z z' no ok = ok := by
  unfold rseK
  rw [hs, decide_eq_false (show ¬ z'.v.pr < z.v.pr by omega), decide_eq_false (show ¬ z'.v.ac < z.v.ac by omega), decide_eq_false (show ¬ z'.v.ac > z'.v.pr by omega)]
  rfl
theorem rseZ_syn {z : AcS} {F : List (List Int)} (h : PxSyn z F) (x : ROp) : (∃ F', PxSyn (rseZ x z) F') ∧ z.v.pr ≤ (rseZ x z).v.pr ∧ z.v.ac ≤ (rseZ x z).v.ac ∧ (rseZ x z).id = z.id ∧ (rseZ x z).sl = z.sl := by
  unfold rseZ
  cases x.1 == 0 with
  | true =>
    obtain ⟨h1, h2⟩ := tk_rises h.inv (opM x)
    obtain ⟨h3, h4⟩ := ptkZ_ids z (opM x)
    exact ⟨⟨_, h.tk _⟩, h1, h2, h3, h4⟩
  | false =>
    cases x.1 == 1 with
    | true =>
      obtain ⟨h1, h2⟩ := h.cs x.2.1
      simp only [cond_true, cond_false]
      exact ⟨⟨_, h1⟩, by rw [h2]; exact Int.le_refl _, by rw [h2]; exact Int.le_refl _, rfl, rfl⟩
    | false => exact ⟨⟨_, h⟩, Int.le_refl _, Int.le_refl _, rfl, rfl⟩
theorem idA_tk (z : AcS) (m : Msg) : idA z (ptkZ z m) = ptkZ z m := by
  obtain ⟨h1, h2⟩ := ptkZ_ids z m
  cases h : ptkZ z m with
  | mk i s v b n o =>
    rw [h] at h1 h2
    simp only at h1 h2
    rw [h1, h2]
theorem rse_step {z : AcS} {F : List (List Int)} (h : PxSyn z F) (a b : Int) (c : List Int) (x : ROp) (l : List ROp) (m i' : Int) (S : Stack) (wr : Wr) (N : Nat) (k : Ex → List AV → Stack → Wr → Option Res) :
    (bif smC z.v.cs z.v.ch then
          bif x.1 == 0 then bif goodA z then rseK z (ptkZ z (opM x)) (k .ret [.bool false] (app (rseH a b c (idA z (ptkZ z (opM x)))) [.cells (opC x), conOb z.v, conOb (ptkZ z (opM x)).v] :: S) (app [(0, 5), (0, 2), (0, 1), (0, 4), (0, 3)] wr))
              (LRse N [.ptr 0 2 0, .slice ROpT l .view, .int .i64 m, .int .i64 i'] (rseH a b c (idA z (ptkZ z (opM x))) :: S) (app [(0, 5), (0, 2), (0, 1), (0, 4), (0, 3)] wr) k) else none
          else bif x.1 == 1 then bif goodA z then rseK z (pcrZ z x.2.1) (k .ret [.bool false] (app (rseH a b c (idA z (pcrZ z x.2.1))) [.cells (opC x), conOb z.v, conOb (pcrZ z x.2.1).v] :: S) (app [(0, 5), (0, 2), (0, 1), (0, 4), (0, 3)] wr))
              (LRse N [.ptr 0 2 0, .slice ROpT l .view, .int .i64 m, .int .i64 i'] (rseH a b c (idA z (pcrZ z x.2.1)) :: S) (app [(0, 5), (0, 2), (0, 1), (0, 4), (0, 3)] wr) k) else none
          else rseK z z (k .ret [.bool false] (app (rseH a b c z) [.cells (opC x), conOb z.v, conOb z.v] :: S) (app [(0, 5), (0, 4), (0, 3)] wr))
              (LRse N [.ptr 0 2 0, .slice ROpT l .view, .int .i64 m, .int .i64 i'] (rseH a b c z :: S) (app [(0, 5), (0, 4), (0, 3)] wr) k)
        else none) = LRse N [.ptr 0 2 0, .slice ROpT l .view, .int .i64 m, .int .i64 i'] (rseH a b c (rseZ x z) :: S) (app (rseW x) wr) k := by
  obtain ⟨⟨F', h1⟩, h2, h3, _, _⟩ := rseZ_syn h x
  have hs := gv_sm h1.inv.gv
  have hle := h1.inv.gv.le
  rw [gv_sm h.inv.gv, h.inv.good, idA_tk]
  revert hs h2 h3 hle
  unfold rseZ rseW
  cases x.1 == 0 with
  | true => intro h2 h3 hs hle; simp only [cond_true] at *; rw [rseK_ok hs h2 h3 hle]
  | false =>
    cases x.1 == 1 with
    | true => intro h2 h3 hs hle; simp only [cond_true, cond_false] at *; rw [rseK_ok hs h2 h3 hle]; rfl
    | false => intro h2 h3 hs hle; simp only [cond_true, cond_false] at *; rw [rseK_ok hs h2 h3 hle]
theorem rse_loop (l : List ROp) (m : Int) (hm : m = (l.length : Int)) (hl : l.length ≤ maxInt) (a b : Int) (c : List Int) (S : Stack) (k : Ex → List AV → Stack → Wr → Option Res) :
    ∀ (q j : Nat) (z : AcS) (wr : Wr), j + q = l.length → (∃ F, PxSyn z F) →
      LRse (q + 1) [.ptr 0 2 0, .slice ROpT l .view, .int .i64 m, .int .i64 (j : Int)] (rseH a b c z :: S) wr k =
        (bif (rseS (l.drop j) z).2.isNone then k (.exit 0) [.undef] (rseH a b c (rseS (l.drop j) z).1 :: S) (app (rseWs (l.drop j)) wr)
        else k .ret [.bool true] (app (rseH a b c (rseS (l.drop j) z).1) [.cells (opC ((rseS (l.drop j) z).2.getD default))] :: S) (app (rseWs (l.drop j)) wr)) := by
  intro q
  induction q with
  | zero =>
    intro j z wr hj hz
    have hd : l.drop j = [] := List.drop_of_length_le (by omega)
    rw [rse_round, cond_ne (decide_eq_false (by omega)), hd]
    rfl
  | succ q ih =>
    intro j z wr hj hz
    have hlt : j < l.length := by omega
    have hd : l.drop j = l[j] :: l.drop (j + 1) := List.drop_eq_getElem_cons hlt
    have hx : l[j]? = some l[j] := List.getElem?_eq_getElem hlt
    obtain ⟨F, hF⟩ := hz
    rw [rse_round, cond_eq (decide_eq_true (by omega)), at_some hx, Option.bind_some, rse_step hF, wrap_next hlt hl, hd]
    generalize l[j] = x at hx
    cases hsm : smallM (opM x) with
    | false =>
      have e1 : rseS (x :: l.drop (j + 1)) z = (z, some x) := by simp only [rseS, hsm, cond_false]
      have e2 : rseWs (x :: l.drop (j + 1)) = [(0, 3)] := by simp only [rseWs, hsm, cond_false]
      rw [e1, e2]; rfl
    | true =>
      have e1 : rseS (x :: l.drop (j + 1)) z = rseS (l.drop (j + 1)) (rseZ x z) := by simp only [rseS, hsm, cond_true]
      have e2 : rseWs (x :: l.drop (j + 1)) = app (rseWs (l.drop (j + 1))) (rseW x) := by simp only [rseWs, hsm, cond_true]
      have := ih (j + 1) (rseZ x z) (app (rseW x) wr) (by omega) (rseZ_syn hF x).1
      rw [e1, e2, show app (app (rseWs (l.drop (j + 1))) (rseW x)) wr = app (rseWs (l.drop (j + 1))) (app (rseW x) wr) by simp only [app_eq, List.append_assoc]]
      exact this
theorem rse0_syn (i s : Int) : PxSyn (rseZ0 i s) [] := by
  have h := PxInv.new nil_bytes i s
  have e1 : nwB [] = [] := nwB_nil
  rw [e1] at h
  exact ⟨h, rfl⟩
theorem rse_loops : ∀ x ∈ funLoops PR n_law_PaxosRises, ∀ L, lfRse x.1 = some L → LoopOK (ntm PR n_law_PaxosRises) (fun fr H wr k => code PR (cfE ERse) cfgPx lfRse (cfgPx.live n_law_PaxosRises) x.2 (2 * x.1) fr H wr k) L := by
  refine one_loop (p := 250) rfl (by kernel_rfl) (loopT_ok (by decide) fun vs H wr ex vs' H' w hv ha hh => ?_)
  unfold rseF at hv
  split at hv
  · rename_i a m i h S
    split at hv
    · rename_i l a1 b1 c1 ok h1 h2
      have e1 := opsOf_some h1
      obtain ⟨hc, hv2⟩ := Tr.br_no hv
      clear hv
      simp only [Bool.and_eq_true, decide_eq_true_eq] at hc
      obtain ⟨rfl, hm, rfl⟩ := hc
      have e2 := rseOf_some (x := (a1, b1, c1)) h2
      subst e1; subst e2
      simp only [okAVs, okAV] at ha
      have hl : l.length ≤ maxInt := ha.2.1.1
      refine ⟨l.length + 1, fun k => ?_⟩
      have := rse_loop l m hm hl a1 b1 c1 S k l.length 0 (rseZ0 a1 b1) wr (by omega) ⟨_, rse0_syn _ _⟩
      rw [List.drop_zero] at this
      refine this.trans ?_
      rcases Tr.br_or hv2 with ⟨he, h4⟩ | ⟨he, h4⟩
      · cases h4; rw [he]; rfl
      · cases h4; rw [he]; rfl
    · cases hv
  · cases hv
theorem rse_eq (a b : Int) (c : List Int) (l : List ROp) : body PR (cfE ERse) cfgPx lfRse n_law_PaxosRises [.agg [.int .i64 a, .int .i64 b, .slice (.int .u8) c .view], .slice ROpT l .view] [] some =
    (bif placedB a b then bif decide ((l.length : Int) > 60) then some (.bool true, [], [])
      else bif (decide ((0 : Int) = 0) && (!false && (decide (a = a) && (decide (b = b) && (decide ((0 : Int) = 0) && (decide ((0 : Int) = 0) && decide ((0 : Int) = 0))))))) && (decide ((l.length : Int) = (l.length : Int)) && decide ((0 : Int) = 0)) then
        bif (rseS l (rseZ0 a b)).2.isNone then some (.bool true, outer (app (rseWs l) []), []) else some (.bool true, outer (app (rseWs l) []), []) else none
    else some (.bool true, [], [])) := by kernel_rfl
theorem pax_rises (a b : Int) (c : List Int) (l : List ROp) : body PR (cfE ERse) cfgPx lfRse n_law_PaxosRises [.agg [.int .i64 a, .int .i64 b, .slice (.int .u8) c .view], .slice ROpT l .view] [] some = some (.bool true, [], []) := by
  rw [rse_eq, outer_app0 _ _ (rseWs_all0 l)]
  simp only [decide_true, Bool.not_false, Bool.and_self, cond_true]
  cases placedB a b <;> cases decide ((l.length : Int) > 60) <;> cases (rseS l (rseZ0 a b)).2.isNone <;> rfl
end Go.Crc
