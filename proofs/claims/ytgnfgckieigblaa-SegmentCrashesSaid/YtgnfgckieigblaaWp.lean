/- Contracts of functions of this program. Conditions: none. -/
import Derived.Test.YtgnfgckieigblaaWk
set_option linter.unusedVariables false
set_option linter.unusedSimpArgs false
/- The law SegmentCrashes. Conditions: none. A text of this seat's numbers. -/
set_option linter.unusedVariables false
set_option linter.unusedSimpArgs false
set_option maxRecDepth 100000
namespace Go.Crc
open Go.Vm Go.Pack Go.Rec Go.RowKit
abbrev dZO (z : SgS) (x : SOp) : SgS := dZ z x.1 x.2.1 x.2.2.1.1.1 x.2.2.1.1.2 x.2.2.1.2.1 x.2.2.1.2.2 x.2.2.2
def dZs : List SOp → SgS → SgS
  | [], z => z
  | x :: r, z => dZs r (dZO z x)
def seF (vs : List AV) (H : Stack) : Tr (Ex × List AV × Stack × Wr) := match vs, H with
  | [.int .i64 kp, .ptr 0 3 0, .slice (.pair (.int .i64) (.pair (.int .i64) (.pair (.pair (.pair (.int .i64) (.int .i64)) (.pair (.slice (.int .i64)) .str)) .bool))) l .view, .int .i64 m, .int .i64 i], [.cells [.ptr 0 1 0, .ptr 0 2 0], .cells [.slice (.int .u8) b .own, .int .i64 n, .bool false], .cells [.ptr 0 1 0, .slice (.pair (.pair (.int .i64) (.int .i64)) (.pair (.slice (.int .i64)) .str)) L .own, .int .i64 t, .int .i64 s, .bool false], .cells [.ptr 0 1 0, .ptr 0 2 0]] :: S =>
    .br (decide (m = l.length) && (decide (i = 0) && isZ0 ⟨L, t, s, false, b, n, false⟩)) (.yes (.exit 0, [.int .i64 kp, .ptr 0 3 0], H4 (dZs l z0) :: S, repApp l.length [(0, 2), (0, 1), (0, 4)])) .no
  | _, _ => .no
def seC (z : SgS) (was : List Rc) (cut : Int) : Nat → Nat → Bool
  | 0, _ => true
  | q + 1, j => (gtE z (cut + (j : Int)) == 0 && (match at? was (j : Int) with | some y => gtR z (cut + (j : Int)) == y | none => false)) && seC z was cut q (j + 1)
def se2F (vs : List AV) (H : Stack) : Tr (Ex × List AV × Stack × Wr) := match vs, H with
  | [.ptr 0 3 0, .int .i64 cut, .slice (.pair (.pair (.int .i64) (.int .i64)) (.pair (.slice (.int .i64)) .str)) was .view, .int .i64 n0], [.cells [.ptr 0 1 0, .ptr 0 2 0], .cells [.slice (.int .u8) b .own, .int .i64 n, .bool o], .cells [.ptr 0 1 0, .slice (.pair (.pair (.int .i64) (.int .i64)) (.pair (.slice (.int .i64)) .str)) L .own, .int .i64 t, .int .i64 s, .bool br], .cells [.ptr 0 1 0, .ptr 0 2 0]] :: S =>
    .br (decide (n0 = cut) && (decide (0 ≤ cut) && (decide (cut ≤ 100000) && (goodS ⟨L, t, s, br, b, n, o⟩ && seC ⟨L, t, s, br, b, n, o⟩ was cut ((L.length : Int) - cut).toNat 0)))) (.yes (.exit 2, [.undef], H4 ⟨L, t, s, br, b, n, o⟩ :: S, repApp ((L.length : Int) - cut).toNat [(0, 4)])) .no
  | _, _ => .no
def lfSe2 : Nat → Option LoopSum := lfOf [(122, loopT [1, 5, 31, 32, 33] [1, 5] seF), (4090, loopT [5, 11, 12, 13] [4] se2F)]
noncomputable def ESe : List (Ent PR A) := [opE, salE, sfewE, sDoE, sSaE, sLenE, sTrE, sAlE, sCrE, sGtE, samerE]
noncomputable abbrev LSe (N : Nat) := LC PR (cfE ESe) cfgS lfSe2 n_law_SegmentCrashes 0 122 [1, 5, 31, 32, 33] [1, 5] N
noncomputable abbrev LSe2 (N : Nat) := LC PR (cfE ESe) cfgS lfSe2 n_law_SegmentCrashes 1 4090 [5, 11, 12, 13] [4] N
theorem se_round (l : List SOp) (kp m i : Int) (z : SgS) (S : Stack) (wr : Wr) (N : Nat) (k : Ex → List AV → Stack → Wr → Option Res) :
    LSe (N + 1) [.int .i64 kp, .ptr 0 3 0, .slice SOpT l .view, .int .i64 m, .int .i64 i] (H4 z :: S) wr k =
      (bif decide (i < m) then (at? l i).bind fun x => bif goodS z then
        LSe N [.int .i64 kp, .ptr 0 3 0, .slice SOpT l .view, .int .i64 m, .int .i64 (IntKind.i64.wrap (i + 1))] (H4 (dZO z x) :: S) (app [(0, 2), (0, 1), (0, 4)] wr) k
      else none else k (.exit 0) [.int .i64 kp, .ptr 0 3 0] (H4 z :: S) wr) := by kernel_rfl
theorem se2_round (was : List Rc) (cut n : Int) (z : SgS) (S : Stack) (wr : Wr) (N : Nat) (k : Ex → List AV → Stack → Wr → Option Res) :
    LSe2 (N + 1) [.ptr 0 3 0, .int .i64 cut, .slice RecT was .view, .int .i64 n] (H4 z :: S) wr k =
      (bif decide (n < (z.l.length : Int)) then bif goodS z then
        bif gtE z n != 0 then k .ret [.bool false] (app (H4 z) [recObR (gtR z n)] :: S) (app [(0, 4)] wr)
        else (at? was (IntKind.i64.wrap (n - cut))).bind fun y => bif !(gtR z n == y) then k .ret [.bool false] (app (H4 z) [recObR (gtR z n)] :: S) (app [(0, 4)] wr)
        else LSe2 N [.ptr 0 3 0, .int .i64 cut, .slice RecT was .view, .int .i64 (IntKind.i64.wrap (n + 1))] (H4 z :: S) (app [(0, 4)] wr) k
      else none else k (.exit 2) [.undef] (H4 z :: S) wr) := by kernel_rfl
theorem op_bytes {l : List SOp} (h : okAV (.slice SOpT l .view)) : l.length ≤ maxInt ∧ ∀ x ∈ l, isBytes x.2.2.1.2.2 := by
  simp only [okAV] at h
  exact ⟨h.1, fun x hx => (h.2 x hx).2.2.1.2.2.2⟩
theorem dZs_keeps : ∀ {l : List SOp} {z : SgS}, Keeps1 z → (∀ x ∈ l, isBytes x.2.2.1.2.2) → Keeps1 (dZs l z)
  | [], _, h, _ => h
  | x :: r, z, h, hb => dZs_keeps (l := r) (h.step (hb x (by simp))) fun y hy => hb y (by simp [hy])
theorem se_loop (l : List SOp) (kp m : Int) (hm : m = (l.length : Int)) (hl : l.length ≤ maxInt) (hb : ∀ x ∈ l, isBytes x.2.2.1.2.2) (S : Stack) (k : Ex → List AV → Stack → Wr → Option Res) : ∀ (q j : Nat) (z : SgS) (wr : Wr), j + q = l.length → Keeps1 z →
    LSe (q + 1) [.int .i64 kp, .ptr 0 3 0, .slice SOpT l .view, .int .i64 m, .int .i64 (j : Int)] (H4 z :: S) wr k = k (.exit 0) [.int .i64 kp, .ptr 0 3 0] (H4 (dZs (l.drop j) z) :: S) (app (repApp q [(0, 2), (0, 1), (0, 4)]) wr) := by
  intro q
  induction q with
  | zero =>
    intro j z wr hj hz
    have hd : l.drop j = [] := List.drop_of_length_le (by omega)
    rw [se_round, cond_ne (decide_eq_false (by omega)), hd]
    rfl
  | succ q ih =>
    intro j z wr hj hz
    have hlt : j < l.length := by omega
    have hd : l.drop j = l[j] :: l.drop (j + 1) := List.drop_eq_getElem_cons hlt
    have hx : l[j]? = some l[j] := List.getElem?_eq_getElem hlt
    have hbx := hb l[j] (List.getElem_mem hlt)
    rw [se_round, cond_eq (decide_eq_true (by omega)), at_some hx, Option.bind_some, hz.good, cond_true, wrap_next hlt hl, hd]
    generalize l[j] = x at hx hbx
    have hi := ih (j + 1) (dZO z x) (app [(0, 2), (0, 1), (0, 4)] wr) (by omega) (hz.step hbx)
    rw [rep_more]
    exact hi
theorem se2_loop (was : List Rc) (cut : Int) (h0 : 0 ≤ cut) (h1 : cut ≤ 100000) (z : SgS) (hg : goodS z = true) (S : Stack) (k : Ex → List AV → Stack → Wr → Option Res) : ∀ (q j : Nat) (wr : Wr), (z.l.length : Int) - cut - (j : Int) ≤ (q : Int) → (q = 0 ∨ (z.l.length : Int) = cut + ((j + q : Nat) : Int)) → seC z was cut q j = true →
    LSe2 (q + 1) [.ptr 0 3 0, .int .i64 cut, .slice RecT was .view, .int .i64 (cut + (j : Int))] (H4 z :: S) wr k = k (.exit 2) [.undef] (H4 z :: S) (app (repApp q [(0, 4)]) wr) := by
  have hgl := (goodS_iff.1 hg).1
  intro q
  induction q with
  | zero =>
    intro j wr hj _ _
    rw [se2_round, cond_ne (decide_eq_false (by omega))]
    rfl
  | succ q ih =>
    intro j wr hj hq hc
    have hq' : (z.l.length : Int) = cut + ((j + (q + 1) : Nat) : Int) := by rcases hq with hq | hq; cases hq; exact hq
    simp only [seC, Bool.and_eq_true] at hc
    obtain ⟨⟨c1, c2⟩, c3⟩ := hc
    have hi := ih (j + 1) (app [(0, 4)] wr) (by omega) (.inr (by omega)) c3
    have e1 : IntKind.i64.wrap (cut + (j : Int) - cut) = (j : Int) := by rw [wrap_i64 (by omega) (by omega)]; omega
    have e2 : IntKind.i64.wrap (cut + (j : Int) + 1) = cut + ((j + 1 : Nat) : Int) := by rw [wrap_i64 (by omega) (by omega)]; omega
    rw [se2_round, cond_eq (decide_eq_true (by omega)), hg, cond_true, bne, c1, Bool.not_true, cond_false, e1, e2]
    cases hy : at? was (j : Int) with
    | none => rw [hy] at c2; cases c2
    | some y =>
      rw [hy] at c2
      have c2' : (gtR z (cut + (j : Int)) == y) = true := c2
      rw [Option.bind_some, c2', Bool.not_true, cond_false, rep_more]
      exact hi
theorem se_loops2 : ∀ x ∈ funLoops PR n_law_SegmentCrashes, ∀ L, lfSe2 x.1 = some L → LoopOK (ntm PR n_law_SegmentCrashes) (fun fr H wr k => code PR (cfE ESe) cfgS lfSe2 (cfgS.live n_law_SegmentCrashes) x.2 (2 * x.1) fr H wr k) L := by
  refine all_loops (ps := [122, 4090]) (by kernel_rfl) fun j p hj L hL => ?_
  match j, hj with
  | 0, hj =>
    cases hj
    cases hL
    refine loopT_ok (by decide) fun vs H wr ex vs' H' w hv ha hh => ?_
    unfold seF at hv
    split at hv
    · rename_i kp l m i b n L t s S
      obtain ⟨hc, hv2⟩ := Tr.br_no hv
      cases hv2
      simp only [Bool.and_eq_true, decide_eq_true_eq] at hc
      obtain ⟨h1, h2, h3⟩ := hc
      subst h2
      have hz0 : (⟨L, t, s, false, b, n, false⟩ : SgS) = ⟨[], 0, 0, false, [], 0, false⟩ := isZ0_eq h3 rfl rfl
      simp only [SgS.mk.injEq] at hz0
      obtain ⟨rfl, rfl, rfl, _, rfl, rfl, _⟩ := hz0
      simp only [okAVs] at ha
      obtain ⟨hl, hb⟩ := op_bytes ha.2.2.1
      refine ⟨l.length + 1, fun k => ?_⟩
      have := se_loop l kp m h1 hl hb S k l.length 0 z0 wr (by omega) ⟨_, _, z0_inv⟩
      rw [List.drop_zero] at this
      exact this
    · cases hv
  | 1, hj =>
    cases hj
    cases hL
    refine loopT_ok (by decide) fun vs H wr ex vs' H' w hv ha hh => ?_
    unfold se2F at hv
    split at hv
    · rename_i cut was n0 b n o L t s br S
      obtain ⟨hc, hv2⟩ := Tr.br_no hv
      cases hv2
      simp only [Bool.and_eq_true, decide_eq_true_eq] at hc
      obtain ⟨h1, h2, h3, h4, h5⟩ := hc
      subst h1
      refine ⟨((L.length : Int) - n0).toNat + 1, fun k => ?_⟩
      have := se2_loop was n0 h2 h3 ⟨L, t, s, br, b, n, o⟩ h4 S k ((L.length : Int) - n0).toNat 0 wr (by simp only; omega) (by simp only; omega) h5
      rw [show n0 + ((0 : Nat) : Int) = n0 by omega] at this
      exact this
    · cases hv
/-- behind a crash. -/
def seT (z z2 : SgS) (w : Wr) : Option Res :=
  bif goodS z then bif goodS z then
    bif decide ((z2.l.length : Int) < z.s) then some (.bool false, outer w, []) else bif decide ((z2.l.length : Int) > (z.l.length : Int)) then some (.bool false, outer w, []) else bif decide (z2.t > z.t) then some (.bool false, outer w, [])
    else bif z2.s != (z2.l.length : Int) then some (.bool false, outer w, [])
    else bif decide (z.t = z.t) && (decide (0 ≤ z.t) && (decide (z.t ≤ 100000) && (goodS z2 && seC z2 (z.l.drop z.t.toNat) z.t ((z2.l.length : Int) - z.t).toNat 0))) then some (.bool true, outer (app (repApp ((z2.l.length : Int) - z.t).toNat [(0, 4)]) ((0, 2) :: (0, 1) :: w)), []) else none
  else none else none
theorem se_eq (l : List SOp) (kp : Int) : body PR (cfE ESe) cfgS lfSe2 n_law_SegmentCrashes [.slice SOpT l .view, .int .i64 kp] [] some =
    (bif !sfewV l then some (.bool true, [], [])
    else bif decide ((l.length : Int) = (l.length : Int)) && (decide ((0 : Int) = 0) && isZ0 ⟨(sgR (scanL (nwB [])) [] 0).1, (sgR (scanL (nwB [])) [] 0).2.1, ((sgR (scanL (nwB [])) [] 0).1.length : Int), false, nwB [], scanN (([] : List Int).take 65536), false⟩) then
      seT (dZs l z0) (csZ (dZs l z0) kp) (app (repApp l.length [(0, 2), (0, 1), (0, 4)]) [(0, 3)])
    else none) := by kernel_rfl
theorem sgR_pre (F G : List (List Int)) : (∃ R, (sgR (F ++ G) [] 0).1 = (sgR F [] 0).1 ++ R) ∧ (sgR F [] 0).2.1 ≤ (sgR (F ++ G) [] 0).2.1 := by
  have key : ∀ (G : List (List Int)) (L : List Rc) (t : Int), (∃ R, (sgR G L t).1 = L ++ R) ∧ t ≤ (sgR G L t).2.1 := by
    intro G
    induction G with
    | nil => intro L t; exact ⟨⟨[], by simp [sgR]⟩, Int.le_refl _⟩
    | cons f r ih =>
      intro L t
      simp only [sgR]
      cases sgOK L.length t f with
      | false => exact ⟨⟨[], by simp⟩, Int.le_refl _⟩
      | true =>
        obtain ⟨⟨R, hR⟩, ht⟩ := ih (sgL L f) (sgT L.length t f)
        have hge := sgT_ge (L := L) (t := t) f
        refine ⟨?_, by simp only [cond_true]; omega⟩
        simp only [cond_true]
        rw [hR]
        cases f with
        | nil => exact ⟨R, rfl⟩
        | cons x q =>
          simp only [sgL]
          cases (x == 1 && decErr q == 0) with
          | true => exact ⟨[decR q] ++ R, by simp⟩
          | false => exact ⟨R, rfl⟩
  rw [sgR_app]
  cases (sgR F [] 0).2.2 with
  | true => exact ⟨⟨[], by simp⟩, Int.le_refl _⟩
  | false => exact key G _ _
theorem seC_ok {z : SgS} {L R : List Rc} {cut : Int} (hL : L = z.l ++ R) (ht : z.t ≤ cut) (h0 : 0 ≤ cut) : ∀ (q j : Nat), (cut + ((j + q : Nat) : Int) ≤ (z.l.length : Int)) → seC z (L.drop cut.toNat) cut q j = true
  | 0, _, _ => rfl
  | q + 1, j, hq => by
    have hlt : (cut + (j : Int)) < (z.l.length : Int) := by omega
    simp only [seC]
    rw [seC_ok hL ht h0 q (j + 1) (by omega), Bool.and_true]
    obtain ⟨x, hx, hx2⟩ := at_lt (L := z.l) (k := cut + (j : Int)) (by omega) hlt
    have hE : gtE z (cut + (j : Int)) = 0 := by
      unfold gtE
      rw [decide_eq_false (show ¬ cut + (j : Int) < 0 by omega), decide_eq_false (show ¬ cut + (j : Int) ≥ (z.l.length : Int) by omega), decide_eq_false (show ¬ cut + (j : Int) < z.t by omega)]
      rfl
    have hra : recAt z.l (cut + (j : Int)) = x := by unfold recAt; rw [hx]
    have hy : at? (L.drop cut.toNat) (j : Int) = some x := by
      refine at_some ?_
      rw [List.getElem?_drop, hL, List.getElem?_append_left (by omega), ← hx2]
      congr 1
      omega
    unfold gtR
    rw [hE, hy, hra]
    simp
theorem seT_ok {z : SgS} {F : List (List Int)} {y : Nat} (h : SgInv z F y) (kp : Int) {w : Wr} (hw : outer w = []) : seT z (csZ z kp) w = some (.bool true, [], []) := by
  have h2 := h.cs kp
  have hN : y ≤ dcN F (y : Int) kp := by unfold dcN; omega
  have hNl := h2.st.le
  rw [List.length_take] at hNl
  generalize dcN F (y : Int) kp = N at h2 hN hNl
  obtain ⟨⟨R, hR⟩, ht⟩ := sgR_pre (F.take N) (F.drop N)
  rw [List.take_append_drop, ← h.l, ← h2.l] at hR
  rw [List.take_append_drop, ← h.t, ← h2.t] at ht
  obtain ⟨⟨R2, hR2⟩, _⟩ := sgR_pre (F.take y) ((F.take N).drop y)
  have e : F.take y ++ (F.take N).drop y = F.take N := by
    have := List.take_append_drop y (F.take N)
    rwa [List.take_take, Nat.min_eq_left hN] at this
  rw [e, ← h2.l] at hR2
  have hs := h.s
  have hs2 := h2.s
  rw [List.take_take, Nat.min_self, ← h2.l] at hs2
  have l1 := congrArg List.length hR
  have l2 := congrArg List.length hR2
  rw [List.length_append] at l1 l2
  obtain ⟨g1, g2, g3, g4, g5, g6, g7⟩ := goodS_iff.1 h.good
  have hC : seC (csZ z kp) (z.l.drop z.t.toNat) z.t (((csZ z kp).l.length : Int) - z.t).toNat 0 = true := by
    by_cases hle : z.t ≤ ((csZ z kp).l.length : Int)
    · exact seC_ok hR ht g2 _ 0 (by omega)
    · rw [show (((csZ z kp).l.length : Int) - z.t).toNat = 0 by omega]; rfl
  unfold seT
  rw [h.good, h2.good, hC, decide_eq_false (show ¬ ((csZ z kp).l.length : Int) < z.s by omega), decide_eq_false (show ¬ ((csZ z kp).l.length : Int) > (z.l.length : Int) by omega), decide_eq_false (show ¬ (csZ z kp).t > z.t by omega), hs2, decide_eq_true g2, decide_eq_true (show z.t ≤ 100000 by omega), outer_app0 _ _ (all0_rep rfl _)]
  simp [outer, hw]
theorem seg_crashes (l : List SOp) (kp : Int) (hb : ∀ x ∈ l, isBytes x.2.2.1.2.2) : body PR (cfE ESe) cfgS lfSe2 n_law_SegmentCrashes [.slice SOpT l .view, .int .i64 kp] [] some = some (.bool true, [], []) := by
  rw [se_eq, chk0]
  obtain ⟨F, y, hI⟩ := dZs_keeps (l := l) ⟨_, _, z0_inv⟩ hb
  rw [seT_ok hI kp (by rw [outer_app0 _ _ (all0_rep rfl _)]; rfl)]
  cases sfewV l <;> rfl
theorem sz_sops {l : List SOp} (h : Sz (.slice SOpT) l) : ∀ x ∈ l, isBytes x.2.2.1.2.2 := fun x hx => (h.2 x hx).2.2.1.2.2.2
end Go.Crc
