/- Contracts of functions of this program. Conditions: none. -/
import Derived.Test.YtgnfgckieigblaaWk
set_option linter.unusedVariables false
set_option linter.unusedSimpArgs false
/- The law SegmentTwice. Conditions: none. A text of this seat's numbers. -/
set_option linter.unusedVariables false
set_option linter.unusedSimpArgs false
set_option maxRecDepth 100000
namespace Go.Crc
open Go.Vm Go.Pack Go.Rec Go.RowKit
def stF (vs : List AV) (H : Stack) : Tr (Ex × List AV × Stack × Wr) := match vs, H with
  | [.slice (.pair (.pair (.int .i64) (.int .i64)) (.pair (.slice (.int .i64)) .str)) l .view, .int .i64 kk, .ptr 0 0 0, .ptr 0 4 0, .slice (.pair (.pair (.int .i64) (.int .i64)) (.pair (.slice (.int .i64)) .str)) l2 .view, .int .i64 m, .int .i64 i], [.cells [.int .i64 c, .int .i64 n0, .slice (.int .i64) tg .view, .str d], .cells [.ptr 0 2 0, .ptr 0 3 0], .cells [.slice (.int .u8) b .own, .int .i64 n, .bool false], .cells [.ptr 0 2 0, .slice (.pair (.pair (.int .i64) (.int .i64)) (.pair (.slice (.int .i64)) .str)) L .own, .int .i64 t, .int .i64 s, .bool false], .cells [.ptr 0 2 0, .ptr 0 3 0]] :: S =>
    .br (decide (m = l2.length) && (decide (i = 0) && isZ0 ⟨L, t, s, false, b, n, false⟩)) (.br (apAll l2 0 z0).2.1
      (.yes (.exit 0, [.slice RecT l .view, .int .i64 kk, .ptr 0 0 0, .undef, .ptr 0 4 0], H5 ((c, n0), (tg, d)) (apAll l2 0 z0).1 :: S, repApp (apK l2 0 z0) [(0, 3), (0, 2), (0, 5)]))
      (.yes (.ret, [.slice RecT l .view, .int .i64 kk, .ptr 0 0 0, .bool true, .ptr 0 4 0], app (H5 ((c, n0), (tg, d)) (apAll l2 0 z0).1) [recObR (apAll l2 0 z0).2.2] :: S, repApp (apK l2 0 z0) [(0, 3), (0, 2), (0, 5)]))) .no
  | _, _ => .no
def lfSt : Nat → Option LoopSum := lfOf [(122, loopT [0, 1, 5, 7, 39, 40, 41] [0, 1, 5, 6, 7] stF)]
noncomputable def ESt : List (Ent PR A) := [opE, salE, sApE, sLenE, sAlE, sallE, samerE]
noncomputable abbrev LSt (N : Nat) := LC PR (cfE ESt) cfgS lfSt n_law_SegmentTwice 0 122 [0, 1, 5, 7, 39, 40, 41] [0, 1, 5, 6, 7] N
theorem st_round (l l2 : List Rc) (kk m i : Int) (x0 : Rc) (z : SgS) (S : Stack) (wr : Wr) (N : Nat) (k : Ex → List AV → Stack → Wr → Option Res) :
    LSt (N + 1) [.slice RecT l .view, .int .i64 kk, .ptr 0 0 0, .ptr 0 4 0, .slice RecT l2 .view, .int .i64 m, .int .i64 i] (H5 x0 z :: S) wr k =
      (bif decide (i < m) then (at? l2 i).bind fun x => bif goodS z then
        bif apErrR z i x != 0 then k .ret [.slice RecT l .view, .int .i64 kk, .ptr 0 0 0, .bool true, .ptr 0 4 0] (app (H5 x0 (apZR z i x)) [recObR x] :: S) (app [(0, 3), (0, 2), (0, 5)] wr)
        else LSt N [.slice RecT l .view, .int .i64 kk, .ptr 0 0 0, .ptr 0 4 0, .slice RecT l2 .view, .int .i64 m, .int .i64 (IntKind.i64.wrap (i + 1))] (H5 x0 (apZR z i x) :: S) (app [(0, 3), (0, 2), (0, 5)] wr) k
      else none else k (.exit 0) [.slice RecT l .view, .int .i64 kk, .ptr 0 0 0, .undef, .ptr 0 4 0] (H5 x0 z :: S) wr) := by kernel_rfl
theorem st_loops : ∀ x ∈ funLoops PR n_law_SegmentTwice, ∀ L, lfSt x.1 = some L → LoopOK (ntm PR n_law_SegmentTwice) (fun fr H wr k => code PR (cfE ESt) cfgS lfSt (cfgS.live n_law_SegmentTwice) x.2 (2 * x.1) fr H wr k) L := by
  refine one_loop (p := 122) rfl (by kernel_rfl) (loopT_ok (by decide) fun vs H wr ex vs' H' w hv ha hh => ?_)
  unfold stF at hv
  split at hv
  · rename_i l kk l2 m i c n0 tg d b n L t s S
    obtain ⟨hc, hv2⟩ := Tr.br_no hv
    clear hv
    simp only [Bool.and_eq_true, decide_eq_true_eq] at hc
    obtain ⟨h1, h2, h3⟩ := hc
    subst h2
    have hz0 : (⟨L, t, s, false, b, n, false⟩ : SgS) = z0 := isZ0_eq h3 rfl rfl
    simp only [okAVs] at ha
    obtain ⟨hl, hb⟩ := ok_rec ha.2.2.2.2.1
    refine ⟨l2.length + 1, fun k => ?_⟩
    have := ap_fold (F := fun N i z wr => LSt N [.slice RecT l .view, .int .i64 kk, .ptr 0 0 0, .ptr 0 4 0, .slice RecT l2 .view, .int .i64 m, .int .i64 i] (H5 ((c, n0), (tg, d)) z :: S) wr k) (l := l2) (m := m) (R := fun z x wr => k .ret [.slice RecT l .view, .int .i64 kk, .ptr 0 0 0, .bool true, .ptr 0 4 0] (app (H5 ((c, n0), (tg, d)) z) [recObR x] :: S) wr) (E := fun z wr => k (.exit 0) [.slice RecT l .view, .int .i64 kk, .ptr 0 0 0, .undef, .ptr 0 4 0] (H5 ((c, n0), (tg, d)) z :: S) wr) (w1 := [(0, 3), (0, 2), (0, 5)]) h1 hl hb (fun N i z wr => st_round l l2 kk m i ((c, n0), (tg, d)) z S wr N k) l2.length 0 z0 wr (by omega) ⟨_, _, z0_inv⟩
    rw [List.drop_zero] at this
    have hH : H5 ((c, n0), (tg, d)) ⟨L, t, s, false, b, n, false⟩ = H5 ((c, n0), (tg, d)) z0 := by rw [hz0]
    rcases Tr.br_or hv2 with ⟨he, h4⟩ | ⟨he, h4⟩
    · cases h4
      rw [he, ← hH] at this
      exact this
    · cases h4
      rw [he, ← hH] at this
      exact this
  · cases hv
def stT (z : SgS) (l : List Rc) (kk : Int) (o : Rc) (W : Wr) : Option Res :=
  (at? l kk).bind fun x => bif goodS z then bif goodS (apZR z kk x) then (at? l kk).bind fun y =>
    bif apErrR z kk x == 0 then bif (apErrR (apZR z kk x) kk o == 0) == sameRc y o.1.1 o.1.2 o.2.1 o.2.2 then
      bif ((apZR (apZR z kk x) kk o).l.length : Int) == (l.length : Int) then bif goodS (apZR (apZR z kk x) kk o) then some (.bool ((apZR (apZR z kk x) kk o).l.drop (apZR (apZR z kk x) kk o).t.toNat == l), W, []) else none else some (.bool false, W, [])
    else some (.bool false, W, []) else some (.bool false, W, [])
  else none else none
theorem st_eq (l : List Rc) (kk : Int) (o : Rc) : body PR (cfE ESt) cfgS lfSt n_law_SegmentTwice [.slice RecT l .view, .int .i64 kk, recA o] [] some =
    (bif decide ((l.length : Int) > 40) then some (.bool true, [], []) else bif decide (kk < 0) then some (.bool true, [], []) else bif decide (kk ≥ (l.length : Int)) then some (.bool true, [], [])
    else bif decide ((l.length : Int) = (l.length : Int)) && (decide ((0 : Int) = 0) && isZ0 ⟨(sgR (scanL (nwB [])) [] 0).1, (sgR (scanL (nwB [])) [] 0).2.1, ((sgR (scanL (nwB [])) [] 0).1.length : Int), false, nwB [], scanN (([] : List Int).take 65536), false⟩) then
      bif (apAll l 0 z0).2.1 then stT (apAll l 0 z0).1 l kk o (outer (app (repApp (apK l 0 z0) [(0, 3), (0, 2), (0, 5)]) [(0, 4)])) else some (.bool true, outer (app (repApp (apK l 0 z0) [(0, 3), (0, 2), (0, 5)]) [(0, 4)]), [])
    else none) := by kernel_rfl
theorem again {z : SgS} {l : List Rc} (h : Fresh z l) {kk : Int} (h0 : 0 ≤ kk) (h1 : kk < (l.length : Int)) (o : Rc) : apZR z kk o = z ∧ ∃ y, at? l kk = some y ∧ rightRc y = true ∧ apErrR z kk o = bif rightRc o then (bif y == o then 0 else 1) else 1 := by
  obtain ⟨F, hI⟩ := h.inv
  have hg := (goodS_iff.1 hI.good).2.2.2.2.2.2
  rw [h.l] at hg
  have hno : apGo z kk o.1.1 o.1.2 o.2.1 o.2.2 = false := by
    cases hgo : apGo z kk o.1.1 o.1.2 o.2.1 o.2.2 with
    | false => rfl
    | true => have := apGo_len hgo; rw [h.l] at this; omega
  obtain ⟨y, hy, hy2⟩ := at_lt h0 h1
  refine ⟨apZ_no hno, y, hy, all_get hg hy2, ?_⟩
  show apErr z kk _ _ _ _ = _
  unfold apErr
  rw [h.l, h.t, decide_eq_false (show ¬ kk < 0 by omega), decide_eq_true h1]
  have hra : recAt l kk = y := by unfold recAt; rw [hy]
  rw [hra]
  unfold rightRc
  cases rightR o.1.1 o.1.2 o.2.1 o.2.2 <;> rfl
theorem stT_ok {z : SgS} {l : List Rc} (h : Fresh z l) {kk : Int} (h0 : 0 ≤ kk) (h1 : kk < (l.length : Int)) (o : Rc) (W : Wr) : stT z l kk o W = some (.bool true, W, []) := by
  obtain ⟨F, hI⟩ := h.inv
  obtain ⟨x, hx, _⟩ := at_lt h0 h1
  obtain ⟨a1, y1, a2, a3, a4⟩ := again h h0 h1 x
  obtain ⟨b1, y2, b2, b3, b4⟩ := again h h0 h1 o
  rw [hx] at a2 b2
  cases a2
  cases b2
  rw [a3] at a4
  unfold stT
  rw [hx, Option.bind_some, a1, b1, hI.good, Option.bind_some, a4, b4, h.l, h.t]
  have hs : sameRc x o.1.1 o.1.2 o.2.1 o.2.2 = (x == o) := rfl
  rw [hs]
  cases hr : rightRc o with
  | true => cases hxo : (x == o) <;> simp
  | false =>
    have : (x == o) = false := by
      cases hxo : (x == o) with
      | false => rfl
      | true => rw [beq_iff_eq] at hxo; subst hxo; rw [a3] at hr; cases hr
    rw [this]
    simp
theorem seg_twice (l : List Rc) (kk : Int) (o : Rc) (hb : ∀ x ∈ l, isBytes x.2.2) : body PR (cfE ESt) cfgS lfSt n_law_SegmentTwice [.slice RecT l .view, .int .i64 kk, recA o] [] some = some (.bool true, [], []) := by
  rw [st_eq]
  by_cases hl : (l.length : Int) > 40
  · rw [decide_eq_true hl]; rfl
  by_cases h0 : kk < 0
  · rw [decide_eq_false hl, decide_eq_true h0]; rfl
  by_cases h1 : kk ≥ (l.length : Int)
  · rw [decide_eq_false hl, decide_eq_false h0, decide_eq_true h1]; rfl
  rw [decide_eq_false hl, decide_eq_false h0, decide_eq_false h1, outer_app0 _ _ (all0_rep rfl _), chk0]
  cases ha : (apAll l 0 z0).2.1 with
  | false => rfl
  | true =>
    have hf := apAll_fresh l [] z0 z0_fresh hb ha
    rw [List.nil_append] at hf
    have := stT_ok hf (kk := kk) (by omega) (by omega) o (outer [(0, 4)])
    simp only [List.length_nil] at this
    rw [this]
    rfl
end Go.Crc
