/- Contracts of functions of this program. Conditions: none. -/
import Derived.Test.YtgnfgckieigblaaGreatWh
set_option linter.unusedVariables false
set_option linter.unusedSimpArgs false
/- Store.Read. Conditions: none. A text of this seat's numbers. -/
set_option linter.unusedVariables false
set_option linter.unusedSimpArgs false
set_option maxRecDepth 100000
namespace Go.Crc
open Go.Vm Go.Pack Go.Rec Go.RowKit
def boxR (a : Int) (b : List Int) (H : Stack) : Prop := ∃ (n : Int) (S : Stack), H = [.cells [.int .i64 a], .cells [.slice (.int .u8) [] .own], .cells [.bool false], .cells [.int .i64 n], boxO b] :: S
theorem rg1_R (b : List Int) (c0 c1 c2 c3 : Ob) (j : Nat) (S : Stack) (wr : Wr) : region PR cfF cfgG false (rg 1).toList (fr13 4 j) ([c0, c1, c2, c3, boxO b] :: S) wr (kp [1, 3, 10]) = some (.tuple [.ptr 0 4 0, .int .i64 j, .bool (decide ((j : Int) < (b.length : Int)))], wr, [c0, c1, c2, c3, boxO b] :: S) := by kernel_rfl
theorem rg2_R (b : List Int) (c0 c1 c2 c3 : Ob) (j : Nat) (S : Stack) (wr : Wr) : region PR cfF cfgG false (rg 2).toList (fr13 4 j) ([c0, c1, c2, c3, boxO b] :: S) wr (kp [1, 3, 4, 5, 6]) =
    (bif decide (0 ≤ (j : Int)) && decide ((j : Int) ≤ (b.length : Int)) then bif decide (((b.take b.length).drop (j : Int).toNat).length ≤ 140737488355328) then some (.tuple [.ptr 0 4 0, .int .i64 j, .slice (.int .u8) (fX ((b.take b.length).drop (j : Int).toNat)) .view, .int .i64 (fM ((b.take b.length).drop (j : Int).toNat)), .bool (fOK ((b.take b.length).drop (j : Int).toNat))], wr, [c0, c1, c2, c3, boxO b] :: S) else none else none) := by kernel_rfl
theorem iter_R {b : List Int} (a : Int) (hb : isBytes b) (hl : b.length ≤ 140737488355328) : IterOK PR A n_page_frames_1 [.ptr 0 4 0] (boxR a b) (ysF 0 (scanL b)) := by
  refine frames_iter hb hl (fun H wr j h => ?_) fun H wr j h hj => ?_
  · obtain ⟨n, S, rfl⟩ := h
    exact rg1_R b _ _ _ _ j S wr
  · obtain ⟨n, S, rfl⟩ := h
    refine (rg2_R b _ _ _ _ j S wr).trans (rg2_ok hl hj fun z => some (.tuple [.ptr 0 4 0, .int .i64 j, .slice (.int .u8) (fX z) .view, .int .i64 (fM z), .bool (fOK z)], wr, [.cells [.int .i64 a], .cells [.slice (.int .u8) [] .own], .cells [.bool false], .cells [.int .i64 n], boxO b] :: S))
def rdIs (a : Int) : Nat → List (List Int) → Bool
  | _, [] => false
  | n, x :: r => bif (n : Int) == a then true else rdIs a (n + (frB x).length) r
def rdV (a : Int) : Nat → List (List Int) → List Int
  | _, [] => []
  | n, x :: r => bif (n : Int) == a then x else rdV a (n + (frB x).length) r
def rdK (a : Int) : Nat → List (List Int) → Nat
  | _, [] => 0
  | n, x :: r => bif (n : Int) == a then 0 else rdK a (n + (frB x).length) r + 1
def rdPF (vs : List AV) (H : Stack) : Tr (Ex × List AV × Stack × Wr) := match vs, H with
  | [.func g [] [.ptr 0 4 0], .ptr 0 0 0, .ptr 0 1 0, .ptr 0 2 0, .ptr 0 3 0], [.cells [.int .i64 a], .cells [.slice (.int .u8) [] .own], .cells [.bool false], .cells [.int .i64 0], .cells [.slice (.int .u8) b .view]] :: S =>
    .br (decide (g = n_page_frames_1)) (.br (decide (b.length ≤ 1000000)) (.br (rdIs a 0 (scanL b))
      (.yes (.ret, [.ptr 0 1 0, .ptr 0 2 0], [.cells [.int .i64 a], .cells [.slice (.int .u8) (rdV a 0 (scanL b)) .view], .cells [.bool true], .cells [.int .i64 a], boxO b] :: S, (0, 2) :: (0, 1) :: repApp (rdK a 0 (scanL b)) [(0, 3)]))
      (.yes (.normal, [.ptr 0 1 0, .ptr 0 2 0], [.cells [.int .i64 a], .cells [.slice (.int .u8) [] .own], .cells [.bool false], .cells [.int .i64 (scanN b)], boxO b] :: S, repApp (rdK a 0 (scanL b)) [(0, 3)]))) .no) .no
  | _, _ => .no
def lfRdP : Nat → Option LoopSum := lfOf [(122, loopT [24, 3, 4, 5, 6] [4, 5] rdPF)]
abbrev vsRd (f : AV) : List AV := [f, .ptr 0 0 0, .ptr 0 1 0, .ptr 0 2 0, .ptr 0 3 0]
def rdB (b : List Int) (k : Int) : Bool := decide (0 ≤ k) && (decide (k < (b.length : Int)) && rdIs k 0 (scanL b))
def rdX (b : List Int) (k : Int) : List Int := bif rdB b k then rdV k 0 (scanL b) else []
def stRdF : Ob → List AV → Tr (AV × Bool × Ob)
  | .cells [.slice (.int .u8) b lv, .int .i64 n, .bool o], [.int .i64 k] => .br (lvG lv && decide (b.length ≤ 1000000)) (.yes (.tuple [.slice (.int .u8) (rdX b k) .view, .bool (rdB b k)], false, stOb b lv n o)) .no
  | _, _ => .no
end Go.Crc

/- The document's frames. Conditions: none. A text of this seat's numbers. -/
set_option linter.unusedVariables false
set_option linter.unusedSimpArgs false
set_option maxRecDepth 100000
namespace Go.Crc
open Go.Vm Go.Pack Go.Rec Go.RowKit
def frameF : List AV → Tr AV
  | [.str b] => .br (decide (b.length ≤ 100000000)) (.yes (.str (frB b))) .no
  | _ => .no
theorem frame_ok : Con PR A n_ref08_Frame (pureC frameF) := by
  refine pure_con0 (cfg := cfgG) [rtextE, refPutE] mixed (by kernel_rfl) (by kernel_rfl) (by kernel_rfl) fun args v hv ha S => ?_
  unfold frameF at hv
  split at hv
  · rename_i b
    obtain ⟨h1, hv2⟩ := Tr.br_no hv
    cases hv2
    simp only [decide_eq_true_eq] at h1
    have h : body PR (cfE [rtextE, refPutE]) cfgG lf0 n_ref08_Frame [.str b] S some =
      (bif decide (b.length ≤ 140737488355328) then bif decide ((numS (b.length : Int) ++ b).length + 4 ≤ 140737488355328) then some (.str (crcPut (numS (b.length : Int) ++ b)), [], S) else none else none) := by kernel_rfl
    have hn : numS (b.length : Int) = num b.length := by
      unfold numS
      have : okN (b.length : Int) = true := by unfold okN top; rw [decide_eq_true (by omega), decide_eq_true (by omega)]; rfl
      rw [this]; rfl
    have := num_len (b.length : Int)
    rw [hn, cond_eq (decide_eq_true (by omega)), cond_eq (by simp only [List.length_append, decide_eq_true_eq]; omega)] at h
    exact h
  · cases hv
def frameE : Ent PR A := ⟨n_ref08_Frame, _, frame_ok⟩
/-! ### The first one -/
def fdOK (s : List Int) : Bool := !((fR s).1.e != 0) && (decide ((frB (fR s).2).length ≤ s.length) && (s.take (frB (fR s).2).length == frB (fR s).2))
theorem fR_short (s : List Int) : (fR s).2.length ≤ 65536 := by
  have : ((fR s).2.length : Int) ≤ 65536 := text_len' _ (by omega)
  omega
theorem fdOK_eq {s : List Int} (hs : isBytes s) : fdOK s = fOK s := by
  unfold fdOK fOK fE
  cases he : ((fR s).1.e != 0) with
  | true => rfl
  | false =>
    simp only [bne_eq_false_iff_eq] at he
    obtain ⟨_, e⟩ := text_inv (s := ⟨s, 0⟩) (lim := 65536) hs he
    have e' : s = frP (fR s).2 ++ (fR s).1.b := by unfold frP; rw [List.append_assoc]; exact e
    have hl : s.length = (frP (fR s).2).length + (fR s).1.b.length := by have := congrArg List.length e'; rwa [List.length_append] at this
    have hn : fN s = (((frB (fR s).2).length : Nat) : Int) := by
      unfold fN frB Crc.crcPut
      rw [List.length_append, show (le4 (crcSum (frP (fR s).2))).length = 4 from rfl]
      omega
    simp only [Bool.not_false, Bool.true_and]
    rw [hn, Int.toNat_natCast]
    by_cases h1 : (frB (fR s).2).length ≤ s.length
    · rw [decide_eq_true h1, decide_eq_false (show ¬ (((frB (fR s).2).length : Nat) : Int) > (s.length : Int) by omega)]
      simp only [Bool.true_and, Bool.not_false]
      have hlt : (s.take (frB (fR s).2).length).length = (frB (fR s).2).length := by rw [List.length_take]; omega
      have h4 : (frB (fR s).2).length = (frP (fR s).2).length + 4 := by unfold frB Crc.crcPut; rw [List.length_append]; rfl
      cases hc : crcOK (s.take (frB (fR s).2).length) with
      | true =>
        have hp := crcPut_cut hc
        rw [hlt, h4, Nat.add_sub_cancel, List.take_take, Nat.min_eq_left (by omega), take_pre e', ← h4] at hp
        rw [← hp]
        simp [frB]
      | false =>
        rw [beq_eq_false_iff_ne]
        intro h5
        rw [h5] at hc
        unfold frB at hc
        rw [Crc.crcOK_put] at hc
        cases hc
    · rw [decide_eq_false h1, decide_eq_true (show (((frB (fR s).2).length : Nat) : Int) > (s.length : Int) by omega)]
      rfl
def dfirV (s : List Int) : AV := .tuple [.str (bif fOK s then fX s else []), .bool (fOK s)]
def dfirF : List AV → Tr AV
  | [.str s] => .br (decide (s.length ≤ 100000000)) (.yes (dfirV s)) .no
  | _ => .no
theorem dfir_ok : Con PR A n_ref08_first (pureC dfirF) := by
  refine pure_con0 (cfg := cfgG) [rtE, frameE] mixed (by kernel_rfl) (by kernel_rfl) (by kernel_rfl) fun args v hv ha S => ?_
  unfold dfirF at hv
  split at hv
  · rename_i s
    obtain ⟨h1, hv2⟩ := Tr.br_no hv
    cases hv2
    simp only [okAVs, okAV] at ha
    have hs : isBytes s := ha.1.2
    have h : body PR (cfE [rtE, frameE]) cfgG lf0 n_ref08_first [.str s] S some =
      (bif decide ((fR s).2.length ≤ 100000000) then
        bif (fR s).1.e != 0 then some (.tuple [.str [], .bool false], [], S)
        else bif decide (((frB (fR s).2).length : Int) > (s.length : Int)) then some (.tuple [.str [], .bool false], [], S)
        else bif decide (0 ≤ ((frB (fR s).2).length : Int)) && decide (((frB (fR s).2).length : Int) ≤ (s.length : Int)) then
          bif ((s.take ((frB (fR s).2).length : Int).toNat).drop 0 != frB (fR s).2) then some (.tuple [.str [], .bool false], [], S)
          else some (.tuple [.str (fR s).2, .bool true], [], S)
        else none else none) := by kernel_rfl
    refine h.trans ?_
    have hx := fR_short s
    rw [cond_eq (decide_eq_true (by omega))]
    unfold dfirV fX
    rw [← fdOK_eq hs]
    have hE : fdOK s = true → fE s = true := fun h => by
      rw [fdOK_eq hs] at h
      unfold fOK at h
      rw [Bool.and_eq_true] at h
      exact h.1
    cases hd : fdOK s with
    | true =>
      rw [hE hd]
      unfold fdOK at hd
      simp only [Bool.and_eq_true, Bool.not_eq_true', decide_eq_true_eq] at hd
      obtain ⟨k1, k2, k3⟩ := hd
      rw [k1, decide_eq_false (show ¬ ((frB (fR s).2).length : Int) > (s.length : Int) by omega), cond_false, cond_false, cond_eq (by simp only [Bool.and_eq_true, decide_eq_true_eq]; omega), Int.toNat_natCast, List.drop_zero, bne, k3]
      rfl
    | false =>
      cases he : ((fR s).1.e != 0) with
      | true => rfl
      | false =>
        by_cases h2 : ((frB (fR s).2).length : Int) > (s.length : Int)
        · rw [decide_eq_true h2]; rfl
        · unfold fdOK at hd
          rw [he, decide_eq_true (show (frB (fR s).2).length ≤ s.length by omega)] at hd
          simp only [Bool.not_false, Bool.true_and] at hd
          rw [decide_eq_false h2, cond_false, cond_false, cond_eq (by simp only [Bool.and_eq_true, decide_eq_true_eq]; omega), Int.toNat_natCast, List.drop_zero, bne, hd]
          rfl
  · cases hv
def dfirE : Ent PR A := ⟨n_ref08_first, _, dfir_ok⟩
end Go.Crc

/- The document's scan. Conditions: none. A text of this seat's numbers. -/
set_option linter.unusedVariables false
set_option linter.unusedSimpArgs false
set_option maxRecDepth 100000
namespace Go.Crc
open Go.Vm Go.Pack Go.Rec Go.RowKit
def dX (s : List Int) : List Int := bif fOK s then fX s else []
def dscEnd (s : List Int) : Bool := decide ((catF (scanL s)).length < s.length)
def dscF (vs : List AV) (H : Stack) : Tr (Ex × List AV × Stack × Wr) := match vs, H with
  | [.str s, .slice .str [] .own, .int .i64 0], [] :: S => .br (decide (s.length ≤ 1000000)) (.br (dscEnd s)
      (.yes (.ret, [.slice .str (scanL s) .own, .int .i64 (scanN s), .slice .str (scanL s) .view, .int .i64 (scanN s)], [] :: S, []))
      (.yes (.exit 0, [.undef, .undef, .slice .str (scanL s) .own, .int .i64 (scanN s)], [] :: S, []))) .no
  | _, _ => .no
def lfDs : Nat → Option LoopSum := lfOf [(60, loopT [0, 4, 5] [2, 3, 4, 5] dscF)]
noncomputable abbrev LDs (N : Nat) := LC PR (cfE (P := PR) (A := A) [dfirE, frameE]) cfgG lfDs n_ref08_Scan 0 60 [0, 4, 5] [2, 3, 4, 5] N
def dscZ (s : List Int) (n : Int) : List Int := (s.take s.length).drop n.toNat
theorem ds_round (s : List Int) (out : List (List Int)) (n : Int) (S : Stack) (wr : Wr) (N : Nat) (k : Ex → List AV → Stack → Wr → Option Res) :
    LDs (N + 1) [.str s, .slice .str out .own, .int .i64 n] ([] :: S) wr k =
      (bif decide (n < (s.length : Int)) then bif decide (0 ≤ n) && decide (n ≤ (s.length : Int)) then bif decide ((dscZ s n).length ≤ 100000000) then
        bif !fOK (dscZ s n) then k .ret [.slice .str out .own, .int .i64 n, .slice .str out .view, .int .i64 n] ([] :: S) wr
        else bif decide ((out.length + 1) * 16 ≤ 140737488355328) then bif decide ((dX (dscZ s n)).length ≤ 100000000) then
          LDs N [.str s, .slice .str (out ++ [dX (dscZ s n)]) .own, .int .i64 (IntKind.i64.wrap (n + ((frB (dX (dscZ s n))).length : Int)))] ([] :: S) wr k
        else none else none
      else none else none else k (.exit 0) [.undef, .undef, .slice .str out .own, .int .i64 n] ([] :: S) wr) := by kernel_rfl
theorem ds_loop (s : List Int) (hs : isBytes s) (hl : s.length ≤ 1000000) (S : Stack) (wr : Wr) (k : Ex → List AV → Stack → Wr → Option Res) : ∀ (m at_ : Nat) (out : List (List Int)), s.length - at_ ≤ m → at_ ≤ s.length → out.length ≤ at_ →
    LDs (m + 1) [.str s, .slice .str out .own, .int .i64 (at_ : Int)] ([] :: S) wr k =
      bif decide (at_ + (catF (scanL (s.drop at_))).length < s.length) then k .ret [.slice .str (out ++ scanL (s.drop at_)) .own, .int .i64 ((at_ + (catF (scanL (s.drop at_))).length : Nat) : Int), .slice .str (out ++ scanL (s.drop at_)) .view, .int .i64 ((at_ + (catF (scanL (s.drop at_))).length : Nat) : Int)] ([] :: S) wr
      else k (.exit 0) [.undef, .undef, .slice .str (out ++ scanL (s.drop at_)) .own, .int .i64 ((at_ + (catF (scanL (s.drop at_))).length : Nat) : Int)] ([] :: S) wr := by
  intro m
  induction m with
  | zero =>
    intro at_ out h1 h2 h3
    have hn : scanL (s.drop at_) = [] := by rw [List.drop_of_length_le (by omega)]; rfl
    rw [ds_round, cond_ne (decide_eq_false (by omega)), hn]
    rw [cond_ne (decide_eq_false (show ¬ at_ + (catF []).length < s.length by simp only [catF, List.length_nil]; omega))]
    simp only [catF, List.length_nil, Nat.add_zero, List.append_nil]
  | succ m ih =>
    intro at_ out h1 h2 h3
    by_cases hlt : at_ < s.length
    · have hz : dscZ s (at_ : Int) = s.drop at_ := by unfold dscZ; rw [List.take_of_length_le (Nat.le_refl _), Int.toNat_natCast]
      have hb := drop_bytes hs at_
      rw [ds_round, hz, cond_eq (decide_eq_true (by omega)), cond_eq (by simp only [Bool.and_eq_true, decide_eq_true_eq]; omega), cond_eq (by simp only [List.length_drop, decide_eq_true_eq]; omega), scanL_step hb]
      cases hok : fOK (s.drop at_) with
      | false =>
        simp only [Bool.not_false, cond_true, cond_false]
        rw [cond_eq (decide_eq_true (show at_ + (catF []).length < s.length by simp only [catF, List.length_nil]; omega))]
        simp only [catF, List.length_nil, Nat.add_zero, List.append_nil]
      | true =>
        obtain ⟨g1, g2, g3⟩ := fOK_inv hb hok
        have h4 := frB_ge (fX (s.drop at_))
        have hlen : at_ + (frB (fX (s.drop at_))).length ≤ s.length := by
          have := congrArg List.length g2
          rw [List.length_append, List.length_drop] at this
          omega
        have hdx : dX (s.drop at_) = fX (s.drop at_) := by unfold dX; rw [hok]; rfl
        simp only [Bool.not_true, cond_false, cond_true]
        rw [hdx, g3, Int.toNat_natCast, List.drop_drop]
        rw [cond_eq (decide_eq_true (by omega)), cond_eq (decide_eq_true (by omega)), wrap_i64 (by omega) (by omega)]
        have e : (at_ : Int) + ((frB (fX (s.drop at_))).length : Int) = ((at_ + (frB (fX (s.drop at_))).length : Nat) : Int) := by omega
        rw [e, ih (at_ + (frB (fX (s.drop at_))).length) _ (by omega) hlen (by simp only [List.length_append, List.length_cons, List.length_nil]; omega)]
        simp only [catF, List.length_append, List.append_assoc, List.cons_append, List.nil_append, Nat.add_assoc]
    · have hn : scanL (s.drop at_) = [] := by rw [List.drop_of_length_le (by omega)]; rfl
      rw [ds_round, cond_ne (decide_eq_false (by omega)), hn]
      rw [cond_ne (decide_eq_false (show ¬ at_ + (catF []).length < s.length by simp only [catF, List.length_nil]; omega))]
      simp only [catF, List.length_nil, Nat.add_zero, List.append_nil]
theorem ds_loops : ∀ x ∈ funLoops PR n_ref08_Scan, ∀ L, lfDs x.1 = some L → LoopOK (ntm PR n_ref08_Scan) (fun fr H wr k => code PR (cfE (P := PR) (A := A) [dfirE, frameE]) cfgG lfDs (cfgG.live n_ref08_Scan) x.2 (2 * x.1) fr H wr k) L := by
  refine one_loop (p := 60) rfl (by kernel_rfl) (loopT_ok (by decide) fun vs H wr ex vs' H' w hv ha hh => ?_)
  unfold dscF at hv
  split at hv
  · rename_i s S
    obtain ⟨hl, hv2⟩ := Tr.br_no hv
    clear hv
    simp only [decide_eq_true_eq] at hl
    simp only [okAVs, okAV] at ha
    have hs : isBytes s := ha.1.2
    refine ⟨s.length + 1, fun k => ?_⟩
    have := ds_loop s hs hl S wr k s.length 0 [] (by omega) (Nat.zero_le _) (Nat.zero_le _)
    simp only [List.drop_zero, Nat.zero_add, List.nil_append] at this
    rcases Tr.br_or hv2 with ⟨he, h4⟩ | ⟨he, h4⟩
    · cases h4
      unfold dscEnd at he
      rw [he] at this
      exact this
    · cases h4
      unfold dscEnd at he
      rw [he] at this
      exact this
  · cases hv
def dscV (s : List Int) : AV := .tuple [.slice .str (scanL s) .view, .int .i64 (scanN s)]
def dscC : List AV → Tr AV
  | [.str s] => .br (decide (s.length ≤ 1000000)) (.yes (dscV s)) .no
  | _ => .no
theorem dsc_ok : Con PR A n_ref08_Scan (pureC dscC) := by
  refine pureC_ok fun args v hv ha S => ?_
  unfold dscC at hv
  split at hv
  · rename_i s
    obtain ⟨h1, hv2⟩ := Tr.br_no hv
    cases hv2
    have h : body PR (cfE (P := PR) (A := A) [dfirE, frameE]) cfgG lfDs n_ref08_Scan [.str s] S some = (bif decide (s.length ≤ 1000000) then bif dscEnd s then some (dscV s, [], S) else some (dscV s, [], S) else none) := by kernel_rfl
    refine fun_call _ mixed (by kernel_rfl) (by kernel_rfl) ds_loops (h.trans ?_)
    rw [cond_eq h1]
    cases dscEnd s <;> rfl
  · cases hv
def dscE : Ent PR A := ⟨n_ref08_Scan, _, dsc_ok⟩
end Go.Crc

/- The document's stores: their text. Conditions: none. A text of this seat's numbers. -/
set_option linter.unusedVariables false
set_option linter.unusedSimpArgs false
set_option maxRecDepth 100000
namespace Go.Crc
open Go.Vm Go.Pack Go.Rec Go.RowKit
def smB : List (List Int) → Bool
  | [] => true
  | x :: r => decide (x.length ≤ 65536) && smB r
def smallL (l : List (List Int)) : Bool := smB l && decide (l.length ≤ 20000)
theorem smB_mem : ∀ {l : List (List Int)}, smB l = true → ∀ x ∈ l, x.length ≤ 65536
  | y :: r, h, x, hx => by
    simp only [smB, Bool.and_eq_true, decide_eq_true_eq] at h
    rcases List.mem_cons.1 hx with rfl | hx
    · exact h.1
    · exact smB_mem h.2 x hx
theorem catF_len : ∀ {l : List (List Int)}, smB l = true → (catF l).length ≤ l.length * 65549
  | [], _ => by simp [catF]
  | x :: r, h => by
    simp only [smB, Bool.and_eq_true, decide_eq_true_eq] at h
    have h1 := frB_le h.1
    have h2 := catF_len h.2
    simp only [catF, List.length_append, List.length_cons]
    omega
def txtF (vs : List AV) (H : Stack) : Tr (Ex × List AV × Stack × Wr) := match vs, H with
  | [.int .i64 m, .ptr 0 0 0, .str [], .int .i64 0], [.cells [.slice .str l .view, .int .i64 y, .bool f]] :: S =>
    .br (decide (0 ≤ m) && (decide (m ≤ (l.length : Int)) && smallL l)) (.yes (.exit 0, [.str (catF (l.take m.toNat))], [.cells [.slice .str l .view, .int .i64 y, .bool f]] :: S, [])) .no
  | _, _ => .no
def lfTxP : Nat → Option LoopSum := lfOf [(58, loopT [1, 2, 5, 6] [5] txtF)]
noncomputable abbrev LTxP (N : Nat) := LC PR (cfE (P := PR) (A := A) [frameE]) cfgG lfTxP n_ref08_Text 0 58 [1, 2, 5, 6] [5] N
theorem txt_round (l : List (List Int)) (m y : Int) (f : Bool) (out : List Int) (i : Int) (S : Stack) (wr : Wr) (N : Nat) (k : Ex → List AV → Stack → Wr → Option Res) :
    LTxP (N + 1) [.int .i64 m, .ptr 0 0 0, .str out, .int .i64 i] ([.cells [.slice .str l .view, .int .i64 y, .bool f]] :: S) wr k =
      (bif decide (i < m) then (at? l i).bind fun x => bif decide (x.length ≤ 100000000) then bif decide (out.length + (frB x).length ≤ maxInt) then
        LTxP N [.int .i64 m, .ptr 0 0 0, .str (out ++ frB x), .int .i64 (IntKind.i64.wrap (i + 1))] ([.cells [.slice .str l .view, .int .i64 y, .bool f]] :: S) wr k
      else none else none else k (.exit 0) [.str out] ([.cells [.slice .str l .view, .int .i64 y, .bool f]] :: S) wr) := by kernel_rfl
theorem txt_loop (l : List (List Int)) (hl : smallL l = true) (m : Nat) (hm : m ≤ l.length) (y : Int) (f : Bool) (S : Stack) (wr : Wr) (k : Ex → List AV → Stack → Wr → Option Res) : ∀ (q j : Nat), j + q = m →
    LTxP (q + 1) [.int .i64 (m : Int), .ptr 0 0 0, .str (catF (l.take j)), .int .i64 (j : Int)] ([.cells [.slice .str l .view, .int .i64 y, .bool f]] :: S) wr k = k (.exit 0) [.str (catF (l.take m))] ([.cells [.slice .str l .view, .int .i64 y, .bool f]] :: S) wr
  | 0, j, hj => by
    rw [txt_round, cond_ne (decide_eq_false (by omega)), show j = m by omega]
  | q + 1, j, hj => by
    unfold smallL at hl
    simp only [Bool.and_eq_true, decide_eq_true_eq] at hl
    have hlt : j < l.length := by omega
    have hx := smB_mem hl.1 l[j] (List.getElem_mem hlt)
    have hc := catF_len (l := l.take j) (by
      have : ∀ (l : List (List Int)) (j : Nat), smB l = true → smB (l.take j) = true := by
        intro l
        induction l with
        | nil => intro j _; simp [smB]
        | cons x r ih =>
          intro j h
          cases j with
          | zero => rfl
          | succ j =>
            simp only [smB, Bool.and_eq_true, List.take_succ_cons] at h ⊢
            exact ⟨h.1, ih j h.2⟩
      exact this l j hl.1)
    have hfl := frB_le hx
    rw [List.length_take] at hc
    rw [txt_round, cond_eq (decide_eq_true (by omega)), at_some (List.getElem?_eq_getElem hlt), Option.bind_some, cond_eq (decide_eq_true (by omega)), cond_eq (decide_eq_true (by simp only [maxInt]; omega)), wrap_i64 (by omega) (by omega)]
    have e : catF (l.take j) ++ frB l[j] = catF (l.take (j + 1)) := by
      rw [List.take_succ_eq_append_getElem hlt, catF_app]
      simp [catF]
    rw [e, show (j : Int) + 1 = ((j + 1 : Nat) : Int) by omega]
    exact txt_loop l (by unfold smallL; simp [hl.1, hl.2]) m hm y f S wr k q (j + 1) (by omega)
theorem txt_loops : ∀ x ∈ funLoops PR n_ref08_Text, ∀ L, lfTxP x.1 = some L → LoopOK (ntm PR n_ref08_Text) (fun fr H wr k => code PR (cfE (P := PR) (A := A) [frameE]) cfgG lfTxP (cfgG.live n_ref08_Text) x.2 (2 * x.1) fr H wr k) L := by
  refine one_loop (p := 58) rfl (by kernel_rfl) (loopT_ok (by decide) fun vs H wr ex vs' H' w hv ha hh => ?_)
  unfold txtF at hv
  split at hv
  · rename_i m l y f S
    obtain ⟨hc, hv2⟩ := Tr.br_no hv
    cases hv2
    simp only [Bool.and_eq_true, decide_eq_true_eq] at hc
    obtain ⟨h1, h2, h3⟩ := hc
    refine ⟨m.toNat + 1, fun k => ?_⟩
    have := txt_loop l h3 m.toNat (by omega) y f S wr k m.toNat 0 (by omega)
    rw [natCast_toNat h1] at this
    exact this
  · cases hv
abbrev dSt (l : List (List Int)) (y : Int) (f : Bool) : AV := .agg [.slice .str l .view, .int .i64 y, .bool f]
def txtC : List AV → Tr AV
  | [.agg [.slice .str l .view, .int .i64 y, .bool f], .int .i64 m] => .br (decide (0 ≤ m) && (decide (m ≤ (l.length : Int)) && smallL l)) (.yes (.str (catF (l.take m.toNat)))) .no
  | _ => .no
theorem txt_ok : Con PR A n_ref08_Text (pureC txtC) := by
  refine pureC_ok fun args v hv ha S => ?_
  unfold txtC at hv
  split at hv
  · rename_i l y f m
    obtain ⟨h1, hv2⟩ := Tr.br_no hv
    cases hv2
    have h : body PR (cfE (P := PR) (A := A) [frameE]) cfgG lfTxP n_ref08_Text [dSt l y f, .int .i64 m] S some = (bif decide (0 ≤ m) && (decide (m ≤ (l.length : Int)) && smallL l) then some (.str (catF (l.take m.toNat)), [], S) else none) := by kernel_rfl
    refine fun_call _ mixed (by kernel_rfl) (by kernel_rfl) txt_loops (h.trans ?_)
    rw [cond_eq h1]
  · cases hv
def txtE : Ent PR A := ⟨n_ref08_Text, _, txt_ok⟩
end Go.Crc
