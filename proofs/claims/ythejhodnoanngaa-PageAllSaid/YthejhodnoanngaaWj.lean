/- Contracts of functions of this program. Conditions: none. -/
import Derived.Test.YthejhodnoanngaaWh
set_option linter.unusedVariables false
set_option linter.unusedSimpArgs false
/- The law PageReads. Conditions: none. A text of this seat's numbers. -/
set_option linter.unusedVariables false
set_option linter.unusedSimpArgs false
set_option maxRecDepth 100000
namespace Go.Crc
open Go.Vm Go.Pack Go.Rec Go.RowKit
/-! ### Rows that are appended -/
def apAll : List (List Int) → List Int → Bool
  | [], _ => true
  | x :: r, b => appOK b x false && apAll r (b ++ frB x)
def apB : List (List Int) → List Int → List Int
  | [], b => b
  | x :: r, b => bif appOK b x false then apB r (b ++ frB x) else b
def apP : List (List Int) → List Int → List Int
  | [], _ => []
  | x :: r, b => bif appOK b x false then (b.length : Int) :: apP r (b ++ frB x) else []
def apK : List (List Int) → List Int → Nat
  | [], _ => 0
  | x :: r, b => bif appOK b x false then apK r (b ++ frB x) + 1 else 0
def rdOK1 (b : List Int) (p : Int) (x : List Int) : Bool := (rdB b p == decide (p < (b.length : Int))) && (!rdB b p || rdX b p == x)
def rdAll (b : List Int) : List Int → List (List Int) → Bool
  | p :: r, x :: t => rdOK1 b p x && rdAll b r t
  | _, _ => true
theorem appOK_iff {b x : List Int} : appOK b x false = true ↔ x.length ≤ 65536 ∧ b.length + (frB x).length ≤ 65536 := by
  unfold appOK
  simp only [Bool.not_false, Bool.true_and, Bool.and_eq_true, decide_eq_true_eq]
def pr1F (vs : List AV) (H : Stack) : Tr (Ex × List AV × Stack × Wr) := match vs, H with
  | [.slice (.slice (.int .u8)) l .view, .int .i64 kp, .ptr 0 0 0, .slice (.int .i64) [] .own, .slice (.slice (.int .u8)) l2 .view, .int .i64 m, .int .i64 i], [.cells [.slice (.int .u8) b .own, .int .i64 n, .bool false]] :: S =>
    .br (decide (m = l2.length) && (decide (i = 0) && (decide (b.length ≤ 65536) && decide (l2.length ≤ 60)))) (.br (apAll l2 b)
      (.yes (.exit 0, [.slice TRow l .view, .int .i64 kp, .undef, .ptr 0 0 0, .slice (.int .i64) (apP l2 b) .own], [stOb (apB l2 b) .own n false] :: S, repApp (apK l2 b) [(0, 0)]))
      (.yes (.ret, [.slice TRow l .view, .int .i64 kp, .bool true, .ptr 0 0 0, .slice (.int .i64) (apP l2 b) .own], [stOb (apB l2 b) .own n false] :: S, repApp (apK l2 b) [(0, 0)]))) .no
  | _, _ => .no
def pr2F (vs : List AV) (H : Stack) : Tr (Ex × List AV × Stack × Wr) := match vs, H with
  | [.slice (.slice (.int .u8)) l .view, .ptr 0 0 0, .slice (.int .i64) ps .view, .int .i64 m, .int .i64 i], [.cells [.slice (.int .u8) b .full, .int .i64 n, .bool false]] :: S =>
    .br (decide (m = ps.length) && (decide (i = 0) && (decide (b.length ≤ 65536) && (decide (ps.length ≤ l.length) && decide (ps.length ≤ 60))))) (.br (rdAll b ps l) (.yes (.exit 2, [.undef], [stOb b .full n false] :: S, [])) (.yes (.ret, [.bool false], [stOb b .full n false] :: S, []))) .no
  | _, _ => .no
def lfPr : Nat → Option LoopSum := lfOf [(250, loopT [0, 1, 5, 6, 28, 29, 30] [0, 1, 4, 5, 6] pr1F), (1018, loopT [0, 5, 55, 56, 57] [4] pr2F)]
noncomputable def EPr : List (Ent PR A) := [aliveE, stNwE, stApE, stCrE, stRdE, stLenE]
noncomputable abbrev LPr1 (N : Nat) := LC PR (cfE EPr) cfgG lfPr n_law_PageReads 0 250 [0, 1, 5, 6, 28, 29, 30] [0, 1, 4, 5, 6] N
noncomputable abbrev LPr2 (N : Nat) := LC PR (cfE EPr) cfgG lfPr n_law_PageReads 1 1018 [0, 5, 55, 56, 57] [4] N
theorem pr1_round (l l2 : List (List Int)) (kp : Int) (b at_ : List Int) (m i n : Int) (S : Stack) (wr : Wr) (N : Nat) (k : Ex → List AV → Stack → Wr → Option Res) :
    LPr1 (N + 1) [.slice TRow l .view, .int .i64 kp, .ptr 0 0 0, .slice (.int .i64) at_ .own, .slice TRow l2 .view, .int .i64 m, .int .i64 i] ([stOb b .own n false] :: S) wr k =
      (bif decide (i < m) then (at? l2 i).bind fun x => bif decide (b.length ≤ 1000000) then bif appOK b x false then bif decide ((at_.length + 1) * 8 ≤ 140737488355328) then
          LPr1 N [.slice TRow l .view, .int .i64 kp, .ptr 0 0 0, .slice (.int .i64) (at_ ++ [(b.length : Int)]) .own, .slice TRow l2 .view, .int .i64 m, .int .i64 (IntKind.i64.wrap (i + 1))] ([stOb (b ++ frB x) .own n false] :: S) ((0, 0) :: wr) k
        else none else k .ret [.slice TRow l .view, .int .i64 kp, .bool true, .ptr 0 0 0, .slice (.int .i64) at_ .own] ([stOb b .own n false] :: S) wr else none
      else k (.exit 0) [.slice TRow l .view, .int .i64 kp, .undef, .ptr 0 0 0, .slice (.int .i64) at_ .own] ([stOb b .own n false] :: S) wr) := by kernel_rfl
theorem pr2_round (l : List (List Int)) (b ps : List Int) (m i n : Int) (S : Stack) (wr : Wr) (N : Nat) (k : Ex → List AV → Stack → Wr → Option Res) :
    LPr2 (N + 1) [.slice TRow l .view, .ptr 0 0 0, .slice (.int .i64) ps .view, .int .i64 m, .int .i64 i] ([stOb b .full n false] :: S) wr k =
      (bif decide (i < m) then (at? ps i).bind fun p => bif decide (b.length ≤ 1000000) then bif !(rdB b p == decide (p < (b.length : Int))) then k .ret [.bool false] ([stOb b .full n false] :: S) wr
        else bif rdB b p then (at? l i).bind fun x => bif (rdX b p != x) then k .ret [.bool false] ([stOb b .full n false] :: S) wr
          else LPr2 N [.slice TRow l .view, .ptr 0 0 0, .slice (.int .i64) ps .view, .int .i64 m, .int .i64 (IntKind.i64.wrap (i + 1))] ([stOb b .full n false] :: S) wr k
        else LPr2 N [.slice TRow l .view, .ptr 0 0 0, .slice (.int .i64) ps .view, .int .i64 m, .int .i64 (IntKind.i64.wrap (i + 1))] ([stOb b .full n false] :: S) wr k
      else none else k (.exit 2) [.undef] ([stOb b .full n false] :: S) wr) := by kernel_rfl
theorem page_reads0 (l : List (List Int)) (kp : Int) : body PR (cfE EPr) cfgG lfPr n_law_PageReads [.slice TRow l .view, .int .i64 kp] [] some =
    (bif decide ((l.length : Int) > 60) then some (.bool true, [], [])
    else bif decide ((l.length : Int) = (l.length : Int)) && (decide ((0 : Int) = 0) && (decide ((nwB []).length ≤ 65536) && decide (l.length ≤ 60))) then
      bif apAll l (nwB []) then
        bif decide ((apB l (nwB [])).length ≤ 1000000) && (decide (0 ≤ scanN (([] : List Int).take 65536)) && decide (scanN (([] : List Int).take 65536) ≤ ((apB l (nwB [])).length : Int))) then
          bif decide (((apP l (nwB [])).length : Int) = ((apP l (nwB [])).length : Int)) && (decide ((0 : Int) = 0) && (decide ((crB (apB l (nwB [])) (scanN (([] : List Int).take 65536)) kp).length ≤ 65536) && (decide ((apP l (nwB [])).length ≤ l.length) && decide ((apP l (nwB [])).length ≤ 60)))) then
            bif rdAll (crB (apB l (nwB [])) (scanN (([] : List Int).take 65536)) kp) (apP l (nwB [])) l then some (.bool true, outer (app (repApp (apK l (nwB [])) [(0, 0)]) []), [])
            else some (.bool false, outer (app (repApp (apK l (nwB [])) [(0, 0)]) []), [])
          else none else none
      else some (.bool true, outer (app (repApp (apK l (nwB [])) [(0, 0)]) []), [])
    else none) := by kernel_rfl
theorem pr1_loop (l l2 : List (List Int)) (kp m n : Int) (hm : m = (l2.length : Int)) (hl : l2.length ≤ 60) (S : Stack) (k : Ex → List AV → Stack → Wr → Option Res) : ∀ (q j : Nat) (b at_ : List Int) (wr : Wr), j + q = l2.length → b.length ≤ 65536 → at_.length ≤ j →
    LPr1 (q + 1) [.slice TRow l .view, .int .i64 kp, .ptr 0 0 0, .slice (.int .i64) at_ .own, .slice TRow l2 .view, .int .i64 m, .int .i64 (j : Int)] ([stOb b .own n false] :: S) wr k =
      bif apAll (l2.drop j) b then k (.exit 0) [.slice TRow l .view, .int .i64 kp, .undef, .ptr 0 0 0, .slice (.int .i64) (at_ ++ apP (l2.drop j) b) .own] ([stOb (apB (l2.drop j) b) .own n false] :: S) (app (repApp (apK (l2.drop j) b) [(0, 0)]) wr)
      else k .ret [.slice TRow l .view, .int .i64 kp, .bool true, .ptr 0 0 0, .slice (.int .i64) (at_ ++ apP (l2.drop j) b) .own] ([stOb (apB (l2.drop j) b) .own n false] :: S) (app (repApp (apK (l2.drop j) b) [(0, 0)]) wr) := by
  intro q
  induction q with
  | zero =>
    intro j b at_ wr hj hb ha
    have hd : l2.drop j = [] := List.drop_of_length_le (by omega)
    rw [pr1_round, cond_ne (decide_eq_false (by omega)), hd]
    simp only [apAll, apP, apB, apK, repApp, app, cond_true, List.append_nil]
  | succ q ih =>
    intro j b at_ wr hj hb ha
    have hlt : j < l2.length := by omega
    have hw : IntKind.i64.wrap ((j : Int) + 1) = ((j + 1 : Nat) : Int) := by rw [wrap_i64 (by omega) (by omega)]; omega
    have hd : l2.drop j = l2[j] :: l2.drop (j + 1) := List.drop_eq_getElem_cons hlt
    rw [pr1_round, cond_eq (decide_eq_true (by omega)), at_some (List.getElem?_eq_getElem hlt), Option.bind_some, cond_eq (decide_eq_true (by omega)), hw, hd]
    simp only [apAll, apP, apB, apK]
    generalize l2[j] = x
    rcases Bool.eq_false_or_eq_true (appOK b x false) with ho | ho
    · obtain ⟨h1, h2⟩ := appOK_iff.1 ho
      have hi := ih (j + 1) (b ++ frB x) (at_ ++ [(b.length : Int)]) ((0, 0) :: wr) (by omega) (by rw [List.length_append]; omega) (by simp only [List.length_append, List.length_cons, List.length_nil]; omega)
      have hc : decide ((at_.length + 1) * 8 ≤ 140737488355328) = true := decide_eq_true (by omega)
      simp only [ho, hc, cond_true, Bool.true_and, rep_more]
      simp only [List.append_assoc, List.cons_append, List.nil_append] at hi
      exact hi
    · simp only [ho, cond_false, Bool.false_and, List.append_nil, repApp, app]
theorem pr2_loop (l : List (List Int)) (b ps : List Int) (m n : Int) (hm : m = (ps.length : Int)) (hp : ps.length ≤ l.length) (hl : ps.length ≤ 60) (hb : b.length ≤ 65536) (S : Stack) (wr : Wr) (k : Ex → List AV → Stack → Wr → Option Res) : ∀ (q j : Nat), j + q = ps.length →
    LPr2 (q + 1) [.slice TRow l .view, .ptr 0 0 0, .slice (.int .i64) ps .view, .int .i64 m, .int .i64 (j : Int)] ([stOb b .full n false] :: S) wr k =
      bif rdAll b (ps.drop j) (l.drop j) then k (.exit 2) [.undef] ([stOb b .full n false] :: S) wr else k .ret [.bool false] ([stOb b .full n false] :: S) wr := by
  intro q
  induction q with
  | zero =>
    intro j hj
    have hd : ps.drop j = [] := List.drop_of_length_le (by omega)
    rw [pr2_round, cond_ne (decide_eq_false (by omega)), hd]
    simp only [rdAll, cond_true]
  | succ q ih =>
    intro j hj
    have hlt : j < ps.length := by omega
    have hlt2 : j < l.length := by omega
    have hw : IntKind.i64.wrap ((j : Int) + 1) = ((j + 1 : Nat) : Int) := by rw [wrap_i64 (by omega) (by omega)]; omega
    have hd : ps.drop j = ps[j] :: ps.drop (j + 1) := List.drop_eq_getElem_cons hlt
    have hd2 : l.drop j = l[j] :: l.drop (j + 1) := List.drop_eq_getElem_cons hlt2
    have hi := ih (j + 1) (by omega)
    rw [pr2_round, cond_eq (decide_eq_true (by omega)), at_some (List.getElem?_eq_getElem hlt), Option.bind_some, cond_eq (decide_eq_true (by omega)), hw, hd, hd2, at_some (List.getElem?_eq_getElem hlt2), Option.bind_some, hi]
    simp only [rdAll, rdOK1]
    generalize ps[j] = p
    generalize l[j] = x
    cases (rdB b p == decide (p < (b.length : Int))) with
    | false => rfl
    | true =>
      cases rdB b p with
      | false => rfl
      | true =>
        rw [bne]
        cases (rdX b p == x) <;> rfl
theorem pr_loops : ∀ x ∈ funLoops PR n_law_PageReads, ∀ L, lfPr x.1 = some L → LoopOK (ntm PR n_law_PageReads) (fun fr H wr k => code PR (cfE EPr) cfgG lfPr (cfgG.live n_law_PageReads) x.2 (2 * x.1) fr H wr k) L := by
  refine all_loops (ps := [250, 1018]) (by kernel_rfl) fun j p hj L hL => ?_
  match j, hj with
  | 0, hj =>
    cases hj
    cases hL
    refine loopT_ok (by decide) fun vs H wr ex vs' H' w hv ha hh => ?_
    unfold pr1F at hv
    split at hv
    · rename_i l kp l2 m i b n S
      obtain ⟨hc, hv2⟩ := Tr.br_no hv
      clear hv
      simp only [Bool.and_eq_true, decide_eq_true_eq] at hc
      obtain ⟨h1, h2, h3, h4⟩ := hc
      subst h2
      refine ⟨l2.length + 1, fun k => ?_⟩
      have := pr1_loop l l2 kp m n h1 h4 S k l2.length 0 b [] wr (by omega) h3 (Nat.zero_le _)
      rw [List.drop_zero, List.nil_append] at this
      rcases Tr.br_or hv2 with ⟨he, h5⟩ | ⟨he, h5⟩
      · cases h5; rw [he] at this; exact this
      · cases h5; rw [he] at this; exact this
    · cases hv
  | 1, hj =>
    cases hj
    cases hL
    refine loopT_ok (by decide) fun vs H wr ex vs' H' w hv ha hh => ?_
    unfold pr2F at hv
    split at hv
    · rename_i l ps m i b n S
      obtain ⟨hc, hv2⟩ := Tr.br_no hv
      clear hv
      simp only [Bool.and_eq_true, decide_eq_true_eq] at hc
      obtain ⟨h1, h2, h3, h4, h5⟩ := hc
      subst h2
      refine ⟨ps.length + 1, fun k => ?_⟩
      have := pr2_loop l b ps m n h1 h4 h5 h3 S wr k ps.length 0 (by omega)
      rw [List.drop_zero, List.drop_zero] at this
      rcases Tr.br_or hv2 with ⟨he, h6⟩ | ⟨he, h6⟩
      · cases h6; rw [he] at this; exact this
      · cases h6; rw [he] at this; exact this
    · cases hv
/-! ### What is read -/
def psL : Nat → List (List Int) → List Int
  | _, [] => []
  | n, x :: r => (n : Int) :: psL (n + (frB x).length) r
theorem ap_all : ∀ (l : List (List Int)) (b : List Int), apAll l b = true → apB l b = b ++ catF l ∧ apP l b = psL b.length l
  | [], b, h => by simp [apB, apP, catF, psL]
  | x :: r, b, h => by
    simp only [apAll, Bool.and_eq_true] at h
    obtain ⟨h1, h2⟩ := h
    obtain ⟨k1, k2⟩ := ap_all r _ h2
    simp only [apB, apP, h1, cond_true, k1, k2, catF, psL, List.append_assoc, List.length_append, and_self]
theorem ap_small : ∀ (l : List (List Int)) (b : List Int), apAll l b = true → ∀ x ∈ l, x.length ≤ 65536
  | y :: r, b, h, x, hx => by
    simp only [apAll, Bool.and_eq_true] at h
    rcases List.mem_cons.1 hx with rfl | hx
    · exact (appOK_iff.1 h.1).1
    · exact ap_small r _ h.2 x hx
theorem apB_le : ∀ (l : List (List Int)) (b : List Int), b.length ≤ 65536 → (apB l b).length ≤ 65536
  | [], b, h => h
  | x :: r, b, h => by
    simp only [apB]
    rcases Bool.eq_false_or_eq_true (appOK b x false) with ho | ho
    · rw [ho]
      exact apB_le r _ (by rw [List.length_append]; exact (appOK_iff.1 ho).2)
    · rw [ho]; exact h
theorem apP_le : ∀ (l : List (List Int)) (b : List Int), (apP l b).length ≤ l.length
  | [], b => Nat.le_refl _
  | x :: r, b => by
    simp only [apP]
    have := apP_le r (b ++ frB x)
    cases appOK b x false <;> simp only [cond_true, cond_false, List.length_cons, List.length_nil] <;> omega
theorem rd_at : ∀ (pre : List (List Int)) (x : List Int) (t : List (List Int)) (n : Nat), rdIs ((n + (catF pre).length : Nat) : Int) n (pre ++ x :: t) = true ∧ rdV ((n + (catF pre).length : Nat) : Int) n (pre ++ x :: t) = x
  | [], x, t, n => by simp [rdIs, rdV, catF]
  | y :: pre, x, t, n => by
    have h4 := frB_ge y
    have hne : ((n : Int) == ((n + (catF (y :: pre)).length : Nat) : Int)) = false := by
      rw [beq_eq_false_iff_ne]
      simp only [catF, List.length_append]
      omega
    have ih := rd_at pre x t (n + (frB y).length)
    have e : n + (frB y).length + (catF pre).length = n + (catF (y :: pre)).length := by simp only [catF, List.length_append]; omega
    rw [e] at ih
    simp only [List.cons_append, rdIs, rdV, hne, cond_false]
    exact ih
theorem rd_one {l pre r : List (List Int)} {x : List Int} {w : Nat} (hs : smallF l) (he : l = pre ++ x :: r) : rdOK1 (catF (l.take w)) ((catF pre).length : Int) x = true := by
  unfold rdOK1
  by_cases hlt : (catF pre).length < (catF (l.take w)).length
  · have hw : pre.length < w := by
      rcases Nat.lt_or_ge pre.length w with h | h
      · exact h
      · exfalso
        have : pre = l.take w ++ pre.drop w := by
          have h1 : l.take w = pre.take w := by rw [he, List.take_append_of_le_length h]
          rw [h1, List.take_append_drop]
        rw [this, catF_app, List.length_append] at hlt
        omega
    obtain ⟨v, rfl⟩ : ∃ v, w = pre.length + (v + 1) := ⟨w - pre.length - 1, by omega⟩
    have ht : l.take (pre.length + (v + 1)) = pre ++ x :: r.take v := by
      rw [he, List.take_length_add_append, List.take_succ_cons]
    have hsc : scanL (catF (l.take (pre.length + (v + 1)))) = pre ++ x :: r.take v := by
      rw [scan_cat fun y hy => hs y (List.mem_of_mem_take hy), ht]
    have hr := rd_at pre x (r.take v) 0
    rw [Nat.zero_add] at hr
    have hB : rdB (catF (l.take (pre.length + (v + 1)))) ((catF pre).length : Int) = true := by
      unfold rdB
      rw [hsc, hr.1, decide_eq_true (by omega), decide_eq_true (by omega)]; rfl
    unfold rdX
    rw [hB, hsc, hr.2, decide_eq_true (by omega)]
    simp
  · have hB : rdB (catF (l.take w)) ((catF pre).length : Int) = false := by
      unfold rdB
      rw [decide_eq_false (show ¬ ((catF pre).length : Int) < ((catF (l.take w)).length : Int) by omega)]
      simp
    rw [hB, decide_eq_false (by omega)]
    rfl
theorem rd_all {l : List (List Int)} {w : Nat} (hs : smallF l) : ∀ (suf pre : List (List Int)), l = pre ++ suf → rdAll (catF (l.take w)) (psL (catF pre).length suf) suf = true
  | [], pre, he => rfl
  | x :: r, pre, he => by
    simp only [psL, rdAll]
    rw [rd_one hs he, Bool.true_and]
    have := rd_all (w := w) hs r (pre ++ [x]) (by rw [he]; simp)
    rw [catF_app, List.length_append] at this
    simp only [catF, List.append_nil] at this
    exact this
theorem cr_cat {l : List (List Int)} (hs : smallF l) (n k : Int) : ∃ w, crB (catF l) n k = catF (l.take w) ∧ scanN (crT (catF l) n k) = ((catF (l.take w)).length : Int) := by
  refine ⟨wholeF l (crN (catF l) n k).toNat, ?_, ?_⟩
  · unfold crB crT scanN
    rw [scan_whole l _ hs, Int.toNat_natCast]
    have : catF l = catF (l.take (wholeF l (crN (catF l) n k).toNat)) ++ catF (l.drop (wholeF l (crN (catF l) n k).toNat)) := by rw [← catF_app, List.take_append_drop]
    exact take_pre this
  · unfold crT scanN
    rw [scan_whole l _ hs]
theorem nwB_nil : nwB [] = [] := by simp [nwB]
theorem scanN_nil : scanN (([] : List Int).take 65536) = 0 := rfl
theorem page_reads (l : List (List Int)) (kp : Int) (hb : ∀ x ∈ l, isBytes x) : body PR (cfE EPr) cfgG lfPr n_law_PageReads [.slice TRow l .view, .int .i64 kp] [] some = some (.bool true, [], []) := by
  rw [page_reads0, outer_app0 _ _ (all0_rep rfl _), nwB_nil, scanN_nil]
  by_cases h1 : (l.length : Int) > 60
  · rw [decide_eq_true h1]; rfl
  have hB := apB_le l [] (Nat.zero_le _)
  have hP := apP_le l []
  rw [decide_eq_false h1, cond_false, cond_eq (by simp only [Bool.and_eq_true, decide_eq_true_eq, List.length_nil, true_and]; omega)]
  rcases Bool.eq_false_or_eq_true (apAll l []) with ha | ha
  · obtain ⟨e1, e2⟩ := ap_all l [] ha
    have hs : smallF l := fun x hx => ⟨ap_small l [] ha x hx, hb x hx⟩
    rw [List.nil_append] at e1
    obtain ⟨w, c1, c2⟩ := cr_cat hs 0 kp
    have hlen : (catF (l.take w)).length ≤ (catF l).length := by
      have : catF l = catF (l.take w) ++ catF (l.drop w) := by rw [← catF_app, List.take_append_drop]
      rw [this, List.length_append]; omega
    rw [e1] at hB
    have hr := rd_all (w := w) hs l [] rfl
    rw [e2] at hP
    rw [ha, cond_true, e1, e2, c1, cond_eq (by simp only [Bool.and_eq_true, decide_eq_true_eq]; omega), cond_eq (by simp only [Bool.and_eq_true, decide_eq_true_eq, true_and]; omega)]
    have hr' : rdAll (catF (l.take w)) (psL ([] : List Int).length l) l = true := hr
    rw [hr']
    rfl
  · rw [ha]; rfl
theorem sz_bytes {b : List Int} (h : Sz (.slice (.int .u8)) b) : isBytes b := fun x hx => by
  have := h.2 x hx
  simpa [Sz, IntKind.min, IntKind.max, IntKind.signed, IntKind.bits] using this
theorem sz_rows {l : List (List Int)} (h : Sz (.slice (.slice (.int .u8))) l) : ∀ b ∈ l, isBytes b := fun b hb => sz_bytes (h.2 b hb)
end Go.Crc
