/- Contracts of functions of this program. Conditions: none. -/
import Derived.Test.YtgnfgckieigblaaWk
set_option linter.unusedVariables false
set_option linter.unusedSimpArgs false
/- The law SegmentTrims. Conditions: none. A text of this seat's numbers. -/
set_option linter.unusedVariables false
set_option linter.unusedSimpArgs false
set_option maxRecDepth 100000
namespace Go.Crc
open Go.Vm Go.Pack Go.Rec Go.RowKit
def smLF (vs : List AV) (H : Stack) : Tr (Ex × List AV × Stack × Wr) := match vs, H with
  | [.slice (.pair (.pair (.int .i64) (.int .i64)) (.pair (.slice (.int .i64)) .str)) l .view, .int .i64 one, .int .i64 two, .ptr 0 3 0, .slice (.pair (.pair (.int .i64) (.int .i64)) (.pair (.slice (.int .i64)) .str)) l2 .view, .int .i64 m, .int .i64 i], [.cells [.ptr 0 1 0, .ptr 0 2 0], .cells [.slice (.int .u8) b .own, .int .i64 n, .bool false], .cells [.ptr 0 1 0, .slice (.pair (.pair (.int .i64) (.int .i64)) (.pair (.slice (.int .i64)) .str)) L .own, .int .i64 t, .int .i64 s, .bool false], .cells [.ptr 0 1 0, .ptr 0 2 0]] :: S =>
    .br (decide (m = l2.length) && (decide (i = 0) && isZ0 ⟨L, t, s, false, b, n, false⟩)) (.br (apAll l2 0 z0).2.1
      (.yes (.exit 0, [.slice RecT l .view, .int .i64 one, .int .i64 two, .undef, .ptr 0 3 0], H4 (apAll l2 0 z0).1 :: S, repApp (apK l2 0 z0) [(0, 2), (0, 1), (0, 4)]))
      (.yes (.ret, [.slice RecT l .view, .int .i64 one, .int .i64 two, .bool true, .ptr 0 3 0], app (H4 (apAll l2 0 z0).1) [recObR (apAll l2 0 z0).2.2] :: S, repApp (apK l2 0 z0) [(0, 2), (0, 1), (0, 4)]))) .no
  | _, _ => .no
def trB (z : SgS) (cut : Int) : Nat → List Rc → Bool
  | _, [] => true
  | j, x :: r => ((bif decide ((j : Int) < cut) then gtE z (j : Int) == 92 else true) && (bif decide ((j : Int) ≥ cut) then (gtE z (j : Int) == 0) && (gtR z (j : Int) == x) else true)) && trB z cut (j + 1) r
def sm2F (vs : List AV) (H : Stack) : Tr (Ex × List AV × Stack × Wr) := match vs, H with
  | [.slice (.pair (.pair (.int .i64) (.int .i64)) (.pair (.slice (.int .i64)) .str)) l .view, .ptr 0 3 0, .int .i64 cut, .slice (.pair (.pair (.int .i64) (.int .i64)) (.pair (.slice (.int .i64)) .str)) l2 .view, .int .i64 m, .int .i64 i], [.cells [.ptr 0 1 0, .ptr 0 2 0], .cells [.slice (.int .u8) b .own, .int .i64 n, .bool o], .cells [.ptr 0 1 0, .slice (.pair (.pair (.int .i64) (.int .i64)) (.pair (.slice (.int .i64)) .str)) L .own, .int .i64 t, .int .i64 s, .bool br], .cells [.ptr 0 1 0, .ptr 0 2 0]] :: S =>
    .br (decide (m = l2.length) && (decide (i = 0) && (goodS ⟨L, t, s, br, b, n, o⟩ && trB ⟨L, t, s, br, b, n, o⟩ cut 0 l2))) (.yes (.exit 2, [.slice RecT l .view, .undef, .ptr 0 3 0, .int .i64 cut], H4 ⟨L, t, s, br, b, n, o⟩ :: S, repApp l2.length [(0, 5), (0, 4)])) .no
  | _, _ => .no
def lfSm2 : Nat → Option LoopSum := lfOf [(122, loopT [0, 1, 2, 7, 51, 52, 53] [0, 1, 2, 6, 7] smLF), (2042, loopT [0, 7, 11, 77, 78, 79] [0, 6, 7, 11] sm2F)]
noncomputable def ESm2 : List (Ent PR A) := [opE, salE, sApE, sTmE, sGtE, sTrE, sLenE, samerE]
noncomputable abbrev LSm (N : Nat) := LC PR (cfE ESm2) cfgS lfSm2 n_law_SegmentTrims 0 122 [0, 1, 2, 7, 51, 52, 53] [0, 1, 2, 6, 7] N
noncomputable abbrev LSm2 (N : Nat) := LC PR (cfE ESm2) cfgS lfSm2 n_law_SegmentTrims 1 2042 [0, 7, 11, 77, 78, 79] [0, 6, 7, 11] N
theorem smr_round (l l2 : List Rc) (one two m i : Int) (z : SgS) (S : Stack) (wr : Wr) (N : Nat) (k : Ex → List AV → Stack → Wr → Option Res) :
    LSm (N + 1) [.slice RecT l .view, .int .i64 one, .int .i64 two, .ptr 0 3 0, .slice RecT l2 .view, .int .i64 m, .int .i64 i] (H4 z :: S) wr k =
      (bif decide (i < m) then (at? l2 i).bind fun x => bif goodS z then
        bif apErrR z i x != 0 then k .ret [.slice RecT l .view, .int .i64 one, .int .i64 two, .bool true, .ptr 0 3 0] (app (H4 (apZR z i x)) [recObR x] :: S) (app [(0, 2), (0, 1), (0, 4)] wr)
        else LSm N [.slice RecT l .view, .int .i64 one, .int .i64 two, .ptr 0 3 0, .slice RecT l2 .view, .int .i64 m, .int .i64 (IntKind.i64.wrap (i + 1))] (H4 (apZR z i x) :: S) (app [(0, 2), (0, 1), (0, 4)] wr) k
      else none else k (.exit 0) [.slice RecT l .view, .int .i64 one, .int .i64 two, .undef, .ptr 0 3 0] (H4 z :: S) wr) := by kernel_rfl
def smN (z : SgS) (x : Rc) (cut i : Int) (no ok : Option Res) : Option Res :=
  bif decide (i ≥ cut) then bif gtE z i != 0 then no else bif !(gtR z i == x) then no else ok else ok
theorem sm2_round (l l2 : List Rc) (cut m i : Int) (z : SgS) (S : Stack) (wr : Wr) (N : Nat) (k : Ex → List AV → Stack → Wr → Option Res) :
    LSm2 (N + 1) [.slice RecT l .view, .ptr 0 3 0, .int .i64 cut, .slice RecT l2 .view, .int .i64 m, .int .i64 i] (H4 z :: S) wr k =
      (bif decide (i < m) then (at? l2 i).bind fun x => bif goodS z then
        bif decide (i < cut) then bif gtE z i != 92 then k .ret [.slice RecT l .view, .bool false, .ptr 0 3 0, .int .i64 cut] (app (H4 z) [recObR x, recObR (gtR z i)] :: S) (app [(0, 5), (0, 4)] wr)
          else smN z x cut i (k .ret [.slice RecT l .view, .bool false, .ptr 0 3 0, .int .i64 cut] (app (H4 z) [recObR x, recObR (gtR z i)] :: S) (app [(0, 5), (0, 4)] wr)) (LSm2 N [.slice RecT l .view, .ptr 0 3 0, .int .i64 cut, .slice RecT l2 .view, .int .i64 m, .int .i64 (IntKind.i64.wrap (i + 1))] (H4 z :: S) (app [(0, 5), (0, 4)] wr) k)
        else smN z x cut i (k .ret [.slice RecT l .view, .bool false, .ptr 0 3 0, .int .i64 cut] (app (H4 z) [recObR x, recObR (gtR z i)] :: S) (app [(0, 5), (0, 4)] wr)) (LSm2 N [.slice RecT l .view, .ptr 0 3 0, .int .i64 cut, .slice RecT l2 .view, .int .i64 m, .int .i64 (IntKind.i64.wrap (i + 1))] (H4 z :: S) (app [(0, 5), (0, 4)] wr) k)
      else none else k (.exit 2) [.slice RecT l .view, .undef, .ptr 0 3 0, .int .i64 cut] (H4 z :: S) wr) := by kernel_rfl
theorem sm2_loop (l l2 : List Rc) (cut m : Int) (hm : m = (l2.length : Int)) (hl : l2.length ≤ maxInt) (z : SgS) (hg : goodS z = true) (S : Stack) (k : Ex → List AV → Stack → Wr → Option Res) : ∀ (q j : Nat) (wr : Wr), j + q = l2.length → trB z cut j (l2.drop j) = true →
    LSm2 (q + 1) [.slice RecT l .view, .ptr 0 3 0, .int .i64 cut, .slice RecT l2 .view, .int .i64 m, .int .i64 (j : Int)] (H4 z :: S) wr k = k (.exit 2) [.slice RecT l .view, .undef, .ptr 0 3 0, .int .i64 cut] (H4 z :: S) (app (repApp q [(0, 5), (0, 4)]) wr) := by
  intro q
  induction q with
  | zero =>
    intro j wr hj ht
    rw [sm2_round, cond_ne (decide_eq_false (by omega))]
    rfl
  | succ q ih =>
    intro j wr hj ht
    have hlt : j < l2.length := by omega
    have hd : l2.drop j = l2[j] :: l2.drop (j + 1) := List.drop_eq_getElem_cons hlt
    have hx : l2[j]? = some l2[j] := List.getElem?_eq_getElem hlt
    rw [hd] at ht
    rw [sm2_round, cond_eq (decide_eq_true (by omega)), at_some hx, Option.bind_some, hg, cond_true, wrap_next hlt hl]
    generalize l2[j] = x at hx ht
    simp only [trB, Bool.and_eq_true] at ht
    obtain ⟨⟨t1, t2⟩, t3⟩ := ht
    have hi := ih (j + 1) (app [(0, 5), (0, 4)] wr) (by omega) t3
    have hn : ∀ no, smN z x cut (j : Int) no (LSm2 (q + 1) [.slice RecT l .view, .ptr 0 3 0, .int .i64 cut, .slice RecT l2 .view, .int .i64 m, .int .i64 ((j + 1 : Nat) : Int)] (H4 z :: S) (app [(0, 5), (0, 4)] wr) k) = LSm2 (q + 1) [.slice RecT l .view, .ptr 0 3 0, .int .i64 cut, .slice RecT l2 .view, .int .i64 m, .int .i64 ((j + 1 : Nat) : Int)] (H4 z :: S) (app [(0, 5), (0, 4)] wr) k := by
      intro no
      unfold smN
      cases hc : decide ((j : Int) ≥ cut) with
      | false => rfl
      | true =>
        rw [hc] at t2
        simp only [cond_true, Bool.and_eq_true] at t2
        rw [bne, t2.1, t2.2]
        rfl
    rw [rep_more]
    cases hc : decide ((j : Int) < cut) with
    | false =>
      rw [cond_false, hn]
      exact hi
    | true =>
      rw [hc, cond_true] at t1
      rw [cond_true, bne, t1, Bool.not_true, cond_false, hn]
      exact hi
theorem sm_loops2 : ∀ x ∈ funLoops PR n_law_SegmentTrims, ∀ L, lfSm2 x.1 = some L → LoopOK (ntm PR n_law_SegmentTrims) (fun fr H wr k => code PR (cfE ESm2) cfgS lfSm2 (cfgS.live n_law_SegmentTrims) x.2 (2 * x.1) fr H wr k) L := by
  refine all_loops (ps := [122, 2042]) (by kernel_rfl) fun j p hj L hL => ?_
  match j, hj with
  | 0, hj =>
    cases hj
    cases hL
    refine loopT_ok (by decide) fun vs H wr ex vs' H' w hv ha hh => ?_
    unfold smLF at hv
    split at hv
    · rename_i l one two l2 m i b n L t s S
      obtain ⟨hc, hv2⟩ := Tr.br_no hv
      clear hv
      simp only [Bool.and_eq_true, decide_eq_true_eq] at hc
      obtain ⟨h1, h2, h3⟩ := hc
      subst h2
      have hz0 : (⟨L, t, s, false, b, n, false⟩ : SgS) = z0 := isZ0_eq h3 rfl rfl
      simp only [okAVs] at ha
      obtain ⟨hl, hb⟩ := ok_rec ha.2.2.2.2.1
      refine ⟨l2.length + 1, fun k => ?_⟩
      have := ap_fold (F := fun N i z wr => LSm N [.slice RecT l .view, .int .i64 one, .int .i64 two, .ptr 0 3 0, .slice RecT l2 .view, .int .i64 m, .int .i64 i] (H4 z :: S) wr k) (l := l2) (m := m) (R := fun z x wr => k .ret [.slice RecT l .view, .int .i64 one, .int .i64 two, .bool true, .ptr 0 3 0] (app (H4 z) [recObR x] :: S) wr) (E := fun z wr => k (.exit 0) [.slice RecT l .view, .int .i64 one, .int .i64 two, .undef, .ptr 0 3 0] (H4 z :: S) wr) (w1 := [(0, 2), (0, 1), (0, 4)]) h1 hl hb (fun N i z wr => smr_round l l2 one two m i z S wr N k) l2.length 0 z0 wr (by omega) ⟨_, _, z0_inv⟩
      rw [List.drop_zero] at this
      have hH : H4 ⟨L, t, s, false, b, n, false⟩ = H4 z0 := by rw [hz0]
      rcases Tr.br_or hv2 with ⟨he, h4⟩ | ⟨he, h4⟩
      · cases h4
        rw [he, ← hH] at this
        exact this
      · cases h4
        rw [he, ← hH] at this
        exact this
    · cases hv
  | 1, hj =>
    cases hj
    cases hL
    refine loopT_ok (by decide) fun vs H wr ex vs' H' w hv ha hh => ?_
    unfold sm2F at hv
    split at hv
    · rename_i l cut l2 m i b n o L t s br S
      obtain ⟨hc, hv2⟩ := Tr.br_no hv
      cases hv2
      simp only [Bool.and_eq_true, decide_eq_true_eq] at hc
      obtain ⟨h1, h2, h3, h4⟩ := hc
      subst h2
      simp only [okAVs] at ha
      obtain ⟨hl, hb⟩ := ok_rec ha.2.2.2.1
      refine ⟨l2.length + 1, fun k => ?_⟩
      have := sm2_loop l l2 cut m h1 hl ⟨L, t, s, br, b, n, o⟩ h3 S k l2.length 0 wr (by omega) (by rw [List.drop_zero]; exact h4)
      exact this
    · cases hv
def maxI (a b : Int) : Int := if b > a then b else a
def smT (z : SgS) (l : List Rc) (one two : Int) (W : Wr) : Option Res :=
  bif goodS z then bif goodS (tmZ z one) then
    bif decide ((l.length : Int) = (l.length : Int)) && (decide ((0 : Int) = 0) && (goodS (tmZ (tmZ z one) two) && trB (tmZ (tmZ z one) two) (maxI one two) 0 l)) then
      bif (tmZ (tmZ z one) two).t == maxI one two then some (.bool (((tmZ (tmZ z one) two).l.length : Int) == (l.length : Int)), W, []) else some (.bool false, W, [])
    else none
  else none else none
theorem sm_eq (l : List Rc) (one two : Int) : body PR (cfE ESm2) cfgS lfSm2 n_law_SegmentTrims [.slice RecT l .view, .int .i64 one, .int .i64 two] [] some =
    (bif decide ((l.length : Int) > 40) then some (.bool true, [], []) else bif decide (one < 0) then some (.bool true, [], []) else bif decide (two < 0) then some (.bool true, [], []) else bif decide (one > (l.length : Int)) then some (.bool true, [], []) else bif decide (two > (l.length : Int)) then some (.bool true, [], [])
    else bif decide ((l.length : Int) = (l.length : Int)) && (decide ((0 : Int) = 0) && isZ0 ⟨(sgR (scanL (nwB [])) [] 0).1, (sgR (scanL (nwB [])) [] 0).2.1, ((sgR (scanL (nwB [])) [] 0).1.length : Int), false, nwB [], scanN (([] : List Int).take 65536), false⟩) then
      bif (apAll l 0 z0).2.1 then smT (apAll l 0 z0).1 l one two (outer (app (repApp l.length [(0, 5), (0, 4)]) ((0, 2) :: (0, 1) :: (0, 2) :: (0, 1) :: app (repApp (apK l 0 z0) [(0, 2), (0, 1), (0, 4)]) [(0, 3)]))) else some (.bool true, outer (app (repApp (apK l 0 z0) [(0, 2), (0, 1), (0, 4)]) [(0, 3)]), [])
    else none) := by kernel_rfl
structure Part (z : SgS) (L : List Rc) (t : Int) (q : Nat) : Prop where
  inv : Keeps1 z
  l : z.l = L
  t : z.t = t
  br : z.br = false
  o : z.o = false
  len : z.b.length ≤ q
theorem Fresh.part {z : SgS} {L : List Rc} (h : Fresh z L) : Part z L 0 (1220 * L.length) := ⟨by obtain ⟨F, h⟩ := h.inv; exact ⟨_, _, h⟩, h.l, h.t, h.br, h.o, h.len⟩
theorem Part.tm {z : SgS} {L : List Rc} {t : Int} {q : Nat} (h : Part z L t q) (hq : q ≤ 60000) {u : Int} (h0 : 0 ≤ u) (h1 : u ≤ (L.length : Int)) : Part (tmZ z u) L (maxI t u) (q + 40) := by
  have hn := num_len u
  have hf := frB_le (x := 2 :: num u) (by simp only [List.length_cons]; omega)
  simp only [List.length_cons] at hf
  have hlen := h.len
  have hgo : tmGo z u = decide (u > t) := by
    unfold tmGo
    rw [h.l, h.t, h.br, h.o, decide_eq_false (show ¬ u < 0 by omega), decide_eq_false (show ¬ u > (L.length : Int) by omega), appOK_iff.2 ⟨by simp only [List.length_cons]; omega, by omega⟩]
    by_cases hu : u ≤ t
    · rw [decide_eq_true hu, decide_eq_false (show ¬ u > t by omega)]; rfl
    · rw [decide_eq_false hu, decide_eq_true (show u > t by omega)]; rfl
  refine ⟨h.inv.tm u, h.l, ?_, h.br, h.o, ?_⟩
  · show (bif tmGo z u then u else z.t) = _
    rw [hgo, h.t]
    unfold maxI
    by_cases hu : u > t
    · rw [decide_eq_true hu, if_pos hu]; rfl
    · rw [decide_eq_false hu, if_neg hu]; rfl
  · show (bif tmGo z u then z.b ++ frB (2 :: num u) else z.b).length ≤ _
    cases tmGo z u with
    | true => simp only [cond_true, List.length_append]; omega
    | false => simp only [cond_false]; omega
theorem trB_ok {z : SgS} {L : List Rc} {cut : Int} (hl : z.l = L) (ht : z.t = cut) (h0 : 0 ≤ cut) : ∀ (r : List Rc) (j : Nat), L.drop j = r → trB z cut j r = true
  | [], _, _ => rfl
  | x :: r, j, h => by
    have hx : L[j]? = some x := by
      have := congrArg (fun l => l[0]?) h
      simpa using this
    have hlt : j < L.length := (List.getElem?_eq_some_iff.1 hx).1
    have hr : L.drop (j + 1) = r := by
      have := congrArg List.tail h
      simpa [List.tail_drop] using this
    simp only [trB]
    rw [trB_ok hl ht h0 r (j + 1) hr, Bool.and_true]
    have hra : recAt L (j : Int) = x := by unfold recAt; rw [at_some hx]
    have hE : gtE z (j : Int) = bif decide ((j : Int) < cut) then 92 else 0 := by
      unfold gtE
      rw [hl, ht, decide_eq_false (show ¬ (j : Int) < 0 by omega), decide_eq_false (show ¬ (j : Int) ≥ (L.length : Int) by omega)]
      rfl
    unfold gtR
    rw [hE, hl, hra]
    by_cases hc : (j : Int) < cut
    · rw [decide_eq_true hc, decide_eq_false (show ¬ (j : Int) ≥ cut by omega)]; rfl
    · rw [decide_eq_false hc, decide_eq_true (show (j : Int) ≥ cut by omega)]
      simp
theorem smT_ok {z : SgS} {l : List Rc} (h : Fresh z l) (hl : l.length ≤ 40) {one two : Int} (a0 : 0 ≤ one) (a1 : one ≤ (l.length : Int)) (b0 : 0 ≤ two) (b1 : two ≤ (l.length : Int)) (W : Wr) : smT z l one two W = some (.bool true, W, []) := by
  have p0 := h.part
  have p1 := p0.tm (by omega) a0 a1
  have p2 := p1.tm (by omega) b0 b1
  have e : maxI (maxI 0 one) two = maxI one two := by
    unfold maxI
    repeat' split
    all_goals omega
  have e0 : 0 ≤ maxI one two := by unfold maxI; split <;> omega
  have ht : (tmZ (tmZ z one) two).t = maxI one two := p2.t.trans e
  unfold smT
  rw [p0.inv.good, p1.inv.good, p2.inv.good, trB_ok p2.l ht e0 l 0 rfl, ht, p2.l]
  simp
theorem seg_trims (l : List Rc) (one two : Int) (hb : ∀ x ∈ l, isBytes x.2.2) : body PR (cfE ESm2) cfgS lfSm2 n_law_SegmentTrims [.slice RecT l .view, .int .i64 one, .int .i64 two] [] some = some (.bool true, [], []) := by
  rw [sm_eq]
  by_cases hl : (l.length : Int) > 40
  · rw [decide_eq_true hl]; rfl
  by_cases a0 : one < 0
  · rw [decide_eq_false hl, decide_eq_true a0]; rfl
  by_cases b0 : two < 0
  · rw [decide_eq_false hl, decide_eq_false a0, decide_eq_true b0]; rfl
  by_cases a1 : one > (l.length : Int)
  · rw [decide_eq_false hl, decide_eq_false a0, decide_eq_false b0, decide_eq_true a1]; rfl
  by_cases b1 : two > (l.length : Int)
  · rw [decide_eq_false hl, decide_eq_false a0, decide_eq_false b0, decide_eq_false a1, decide_eq_true b1]; rfl
  rw [decide_eq_false hl, decide_eq_false a0, decide_eq_false b0, decide_eq_false a1, decide_eq_false b1, outer_app0 _ _ (all0_rep rfl _), outer_app0 _ _ (all0_rep rfl _), chk0]
  have hw : outer ((0, 2) :: (0, 1) :: (0, 2) :: (0, 1) :: app (repApp (apK l 0 z0) [(0, 2), (0, 1), (0, 4)]) [(0, 3)]) = [] := by
    show outer (app (repApp (apK l 0 z0) [(0, 2), (0, 1), (0, 4)]) [(0, 3)]) = []
    rw [outer_app0 _ _ (all0_rep rfl _)]; rfl
  rw [hw]
  cases ha : (apAll l 0 z0).2.1 with
  | false => rfl
  | true =>
    have hf := apAll_fresh l [] z0 z0_fresh hb ha
    rw [List.nil_append] at hf
    have := smT_ok hf (by omega) (one := one) (two := two) (by omega) (by omega) (by omega) (by omega) []
    simp only [List.length_nil] at this
    rw [this]
    rfl
end Go.Crc
