/- Contracts of functions of this program. Conditions: none. -/
import Derived.Test.YtgnfgckieigblaaWk
set_option linter.unusedVariables false
set_option linter.unusedSimpArgs false
/- The law SegmentOpens. Conditions: none. A text of this seat's numbers. -/
set_option linter.unusedVariables false
set_option linter.unusedSimpArgs false
set_option maxRecDepth 100000
namespace Go.Crc
open Go.Vm Go.Pack Go.Rec Go.RowKit
def soF (vs : List AV) (H : Stack) : Tr (Ex × List AV × Stack × Wr) := match vs, H with
  | [.slice (.pair (.pair (.int .i64) (.int .i64)) (.pair (.slice (.int .i64)) .str)) l .view, .int .i64 cut, .ptr 0 3 0, .slice (.pair (.pair (.int .i64) (.int .i64)) (.pair (.slice (.int .i64)) .str)) l2 .view, .int .i64 m, .int .i64 i], [.cells [.ptr 0 1 0, .ptr 0 2 0], .cells [.slice (.int .u8) b .own, .int .i64 n, .bool false], .cells [.ptr 0 1 0, .slice (.pair (.pair (.int .i64) (.int .i64)) (.pair (.slice (.int .i64)) .str)) L .own, .int .i64 t, .int .i64 s, .bool false], .cells [.ptr 0 1 0, .ptr 0 2 0]] :: S =>
    .br (decide (m = l2.length) && (decide (i = 0) && isZ0 ⟨L, t, s, false, b, n, false⟩)) (.br (apAll l2 0 z0).2.1
      (.yes (.exit 0, [.slice RecT l .view, .int .i64 cut, .undef, .ptr 0 3 0], H4 (apAll l2 0 z0).1 :: S, repApp (apK l2 0 z0) [(0, 2), (0, 1), (0, 4)]))
      (.yes (.ret, [.slice RecT l .view, .int .i64 cut, .bool true, .ptr 0 3 0], app (H4 (apAll l2 0 z0).1) [recObR (apAll l2 0 z0).2.2] :: S, repApp (apK l2 0 z0) [(0, 2), (0, 1), (0, 4)]))) .no
  | _, _ => .no
def lfSo : Nat → Option LoopSum := lfOf [(122, loopT [0, 1, 5, 27, 28, 29] [0, 1, 4, 5] soF)]
noncomputable def ESo : List (Ent PR A) := [opE, salE, sApE, sTmE, sSyE, stByE, sLenE, sTrE, sSaE, sAlE, sallE]
noncomputable abbrev LSo (N : Nat) := LC PR (cfE ESo) cfgS lfSo n_law_SegmentOpens 0 122 [0, 1, 5, 27, 28, 29] [0, 1, 4, 5] N
theorem so_round (l l2 : List Rc) (cut m i : Int) (z : SgS) (S : Stack) (wr : Wr) (N : Nat) (k : Ex → List AV → Stack → Wr → Option Res) :
    LSo (N + 1) [.slice RecT l .view, .int .i64 cut, .ptr 0 3 0, .slice RecT l2 .view, .int .i64 m, .int .i64 i] (H4 z :: S) wr k =
      (bif decide (i < m) then (at? l2 i).bind fun x => bif goodS z then
        bif apErrR z i x != 0 then k .ret [.slice RecT l .view, .int .i64 cut, .bool true, .ptr 0 3 0] (app (H4 (apZR z i x)) [recObR x] :: S) (app [(0, 2), (0, 1), (0, 4)] wr)
        else LSo N [.slice RecT l .view, .int .i64 cut, .ptr 0 3 0, .slice RecT l2 .view, .int .i64 m, .int .i64 (IntKind.i64.wrap (i + 1))] (H4 (apZR z i x) :: S) (app [(0, 2), (0, 1), (0, 4)] wr) k
      else none else k (.exit 0) [.slice RecT l .view, .int .i64 cut, .undef, .ptr 0 3 0] (H4 z :: S) wr) := by kernel_rfl
theorem so_loops : ∀ x ∈ funLoops PR n_law_SegmentOpens, ∀ L, lfSo x.1 = some L → LoopOK (ntm PR n_law_SegmentOpens) (fun fr H wr k => code PR (cfE ESo) cfgS lfSo (cfgS.live n_law_SegmentOpens) x.2 (2 * x.1) fr H wr k) L := by
  refine one_loop (p := 122) rfl (by kernel_rfl) (loopT_ok (by decide) fun vs H wr ex vs' H' w hv ha hh => ?_)
  unfold soF at hv
  split at hv
  · rename_i l cut l2 m i b n L t s S
    obtain ⟨hc, hv2⟩ := Tr.br_no hv
    clear hv
    simp only [Bool.and_eq_true, decide_eq_true_eq] at hc
    obtain ⟨h1, h2, h3⟩ := hc
    subst h2
    have hz := isZ0_eq h3 rfl rfl
    have hz0 : (⟨L, t, s, false, b, n, false⟩ : SgS) = z0 := hz
    simp only [okAVs] at ha
    obtain ⟨hl, hb⟩ := ok_rec ha.2.2.2.1
    refine ⟨l2.length + 1, fun k => ?_⟩
    have := ap_fold (F := fun N i z wr => LSo N [.slice RecT l .view, .int .i64 cut, .ptr 0 3 0, .slice RecT l2 .view, .int .i64 m, .int .i64 i] (H4 z :: S) wr k) (l := l2) (m := m) (R := fun z x wr => k .ret [.slice RecT l .view, .int .i64 cut, .bool true, .ptr 0 3 0] (app (H4 z) [recObR x] :: S) wr) (E := fun z wr => k (.exit 0) [.slice RecT l .view, .int .i64 cut, .undef, .ptr 0 3 0] (H4 z :: S) wr) (w1 := [(0, 2), (0, 1), (0, 4)]) h1 hl hb (fun N i z wr => so_round l l2 cut m i z S wr N k) l2.length 0 z0 wr (by omega) ⟨_, _, z0_inv⟩
    rw [List.drop_zero] at this
    have hH : H4 ⟨L, t, s, false, b, n, false⟩ = H4 z0 := by rw [hz0]
    rcases Tr.br_or hv2 with ⟨he, h4⟩ | ⟨he, h4⟩
    · cases h4
      rw [he, ← hH] at this
      exact this
    · cases h4
      rw [he, ← hH] at this
      exact this
  · cases hv
/-- what is looked at last. -/
def soT (y z2 : SgS) (m : Int) (W : Wr) : Option Res :=
  bif (y.l.length : Int) == m then bif y.t == z2.t then bif y.s == m then bif goodS y then bif goodS z2 then some (.bool (y.l.drop y.t.toNat == z2.l.drop z2.t.toNat), W, []) else none else none
  else some (.bool false, W, []) else some (.bool false, W, []) else some (.bool false, W, [])
def soB (z z2 : SgS) (l : List Rc) (cut : Int) (W : Wr) : Option Res :=
  bif goodS z then bif decide (z2.b.length ≤ 1000000) && (decide (0 ≤ z2.n) && decide (z2.n ≤ (z2.b.length : Int))) then
    bif decide (cut ≥ 0) then bif (tmErr z cut == 0) == decide (cut ≤ (l.length : Int)) then soT (ofB (nwB (z2.b.take z2.n.toNat)) (scanN ((z2.b.take z2.n.toNat).take 65536)) false) z2 (l.length : Int) W else some (.bool false, W, [])
    else bif (tmErr z cut == 0) == false then soT (ofB (nwB (z2.b.take z2.n.toNat)) (scanN ((z2.b.take z2.n.toNat).take 65536)) false) z2 (l.length : Int) W else some (.bool false, W, [])
  else none else none
theorem so_eq (l : List Rc) (cut : Int) : body PR (cfE ESo) cfgS lfSo n_law_SegmentOpens [.slice RecT l .view, .int .i64 cut] [] some =
    (bif decide ((l.length : Int) > 40) then some (.bool true, [], [])
    else bif decide ((l.length : Int) = (l.length : Int)) && (decide ((0 : Int) = 0) && isZ0 ⟨(sgR (scanL (nwB [])) [] 0).1, (sgR (scanL (nwB [])) [] 0).2.1, ((sgR (scanL (nwB [])) [] 0).1.length : Int), false, nwB [], scanN (([] : List Int).take 65536), false⟩) then
      bif (apAll l 0 z0).2.1 then soB (apAll l 0 z0).1 (syZ (tmZ (apAll l 0 z0).1 cut)) l cut (outer (app (repApp (apK l 0 z0) [(0, 2), (0, 1), (0, 4)]) [(0, 3)])) else some (.bool true, outer (app (repApp (apK l 0 z0) [(0, 2), (0, 1), (0, 4)]) [(0, 3)]), [])
    else none) := by kernel_rfl
theorem trim_fits {z : SgS} {L : List Rc} (h : Fresh z L) (hl : L.length ≤ 40) (u : Int) : (tmErr z u == 0) = (decide (u ≥ 0) && decide (u ≤ (L.length : Int))) := by
  unfold tmErr
  rw [h.l, h.t, h.br, h.o]
  by_cases h0 : u < 0
  · rw [decide_eq_true h0, decide_eq_false (show ¬ u ≥ 0 by omega)]; rfl
  by_cases h1 : u > (L.length : Int)
  · rw [decide_eq_false h0, decide_eq_true h1, decide_eq_false (show ¬ u ≤ (L.length : Int) by omega), Bool.and_false]; rfl
  have hf := frB_le (x := 2 :: num u) (by have := num_len u; simp only [List.length_cons]; omega)
  have hn := num_len u
  have hlen := h.len
  have ha : appOK z.b (2 :: num u) false = true := by
    refine appOK_iff.2 ⟨by simp only [List.length_cons]; omega, ?_⟩
    simp only [List.length_cons] at hf
    omega
  rw [decide_eq_false h0, decide_eq_false h1, decide_eq_true (show u ≥ 0 by omega), decide_eq_true (show u ≤ (L.length : Int) by omega), ha]
  cases decide (u ≤ 0) <;> rfl
theorem reopen {z : SgS} {F : List (List Int)} (h : SgInv z F F.length) (hn : z.n = (z.b.length : Int)) :
    (ofB (nwB (z.b.take z.n.toNat)) (scanN ((z.b.take z.n.toNat).take 65536)) false).l = z.l ∧ (ofB (nwB (z.b.take z.n.toNat)) (scanN ((z.b.take z.n.toNat).take 65536)) false).t = z.t ∧
    (ofB (nwB (z.b.take z.n.toNat)) (scanN ((z.b.take z.n.toNat).take 65536)) false).s = (z.l.length : Int) ∧ goodS (ofB (nwB (z.b.take z.n.toNat)) (scanN ((z.b.take z.n.toNat).take 65536)) false) = true := by
  have e1 : z.b.take z.n.toNat = z.b := by rw [hn, Int.toNat_natCast, List.take_of_length_le (Nat.le_refl _)]
  have hlen := h.st.len
  have e2 : z.b.take 65536 = z.b := List.take_of_length_le hlen
  have hb : isBytes z.b := by rw [h.st.cat]; exact catF_bytes h.st.small
  have hI := SgInv.new hb
  rw [e2, h.st.frames] at hI
  rw [e1, e2]
  refine ⟨hI.l.trans h.l.symm, hI.t.trans h.t.symm, ?_, hI.good⟩
  rw [hI.s, List.take_of_length_le (Nat.le_refl _), ← h.l]
theorem soB_ok {z : SgS} {l : List Rc} (h : Fresh z l) (hl : l.length ≤ 40) (cut : Int) (W : Wr) : soB z (syZ (tmZ z cut)) l cut W = some (.bool true, W, []) := by
  obtain ⟨F, hI⟩ := h.inv
  have ht : ∃ F2, SgInv (tmZ z cut) F2 0 := by
    cases hg : tmGo z cut with
    | true => exact ⟨_, hI.tm hg⟩
    | false => rw [tmZ_no hg]; exact ⟨_, hI⟩
  obtain ⟨F2, h2⟩ := ht
  have ho : (tmZ z cut).o = false := h.o
  have h3 := h2.sy
  rw [ho, cond_false] at h3
  have hn : (syZ (tmZ z cut)).n = ((syZ (tmZ z cut)).b.length : Int) := by
    show syN (tmZ z cut) = _
    unfold syN
    rw [ho]; rfl
  obtain ⟨r1, r2, r3, r4⟩ := reopen h3 hn
  obtain ⟨b1, b2, b3⟩ := h3.st.bounds
  have hll : (syZ (tmZ z cut)).l = l := h.l
  have htr := trim_fits h hl cut
  unfold soB soT
  rw [hI.good, decide_eq_true b1, decide_eq_true b2, decide_eq_true b3, htr, r1, r2, r3, r4, h3.good, hll]
  by_cases h0 : cut ≥ 0
  · rw [decide_eq_true h0]; simp
  · rw [decide_eq_false h0]; simp
theorem seg_opens (l : List Rc) (cut : Int) (hb : ∀ x ∈ l, isBytes x.2.2) : body PR (cfE ESo) cfgS lfSo n_law_SegmentOpens [.slice RecT l .view, .int .i64 cut] [] some = some (.bool true, [], []) := by
  rw [so_eq]
  by_cases hl : (l.length : Int) > 40
  · rw [decide_eq_true hl]; rfl
  rw [decide_eq_false hl, outer_app0 _ _ (all0_rep rfl _), chk0]
  cases ha : (apAll l 0 z0).2.1 with
  | false => rfl
  | true =>
    have hf := apAll_fresh l [] z0 z0_fresh hb ha
    rw [List.nil_append] at hf
    have := soB_ok hf (by omega) cut (outer [(0, 3)])
    simp only [List.length_nil] at this
    rw [this]
    rfl
end Go.Crc
