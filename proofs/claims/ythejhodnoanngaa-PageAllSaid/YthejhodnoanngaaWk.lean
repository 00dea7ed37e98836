/- Contracts of functions of this program. Conditions: none. -/
import Derived.Test.YthejhodnoanngaaWj
set_option linter.unusedVariables false
set_option linter.unusedSimpArgs false
/- The law PageTorn. Conditions: none. A text of this seat's numbers. -/
set_option linter.unusedVariables false
set_option linter.unusedSimpArgs false
set_option maxRecDepth 100000
namespace Go.Crc
open Go.Vm Go.Pack Go.Rec Go.RowKit
def ptS (la : Nat) : Nat → List (List Int) → List Int → Int → Int
  | _, [], _, n => n
  | j, x :: r, d, n => bif (j : Int) == (la : Int) then (bif appOK d x false then ptS la (j + 1) r (d ++ frB x) d.length else d.length) else (bif appOK d x false then ptS la (j + 1) r (d ++ frB x) n else n)
def ptK (la : Nat) : Nat → List (List Int) → List Int → Nat
  | _, [], _ => 0
  | j, x :: r, d => bif (j : Int) == (la : Int) then (bif appOK d x false then ptK la (j + 1) r (d ++ frB x) + 1 + 1 else 1) else (bif appOK d x false then ptK la (j + 1) r (d ++ frB x) + 1 else 0)
def pt1F (vs : List AV) (H : Stack) : Tr (Ex × List AV × Stack × Wr) := match vs, H with
  | [.slice (.slice (.int .u8)) a .view, .slice (.slice (.int .u8)) b .view, .int .i64 kp, .ptr 0 0 0, .slice (.slice (.int .u8)) c .own, .int .i64 m, .int .i64 i], [.cells [.slice (.int .u8) d .own, .int .i64 n, .bool false]] :: S =>
    .br (decide (m = c.length) && (decide (i = 0) && (decide (d.length ≤ 65536) && decide (c.length ≤ 60)))) (.br (apAll c d)
      (.yes (.exit 0, [.slice TRow a .view, .slice TRow b .view, .int .i64 kp, .undef, .ptr 0 0 0], [stOb (apB c d) .own (ptS a.length 0 c d n) false] :: S, repApp (ptK a.length 0 c d) [(0, 0)]))
      (.yes (.ret, [.slice TRow a .view, .slice TRow b .view, .int .i64 kp, .bool true, .ptr 0 0 0], [stOb (apB c d) .own (ptS a.length 0 c d n) false] :: S, repApp (ptK a.length 0 c d) [(0, 0)]))) .no
  | _, _ => .no
def pt2F (vs : List AV) (H : Stack) : Tr (Ex × List AV × Stack × Wr) := match vs, H with
  | [.slice (.slice (.int .u8)) a .view, .ptr 0 0 0, .int .i64 n, .int .i64 left,   .slice (.slice (.int .u8)) b .view, .int .i64 m, .int .i64 i], [o] :: S =>
    .br (decide (m = b.length) && (decide (i = 0) && (decide (n = 0) && (decide (0 ≤ left) && (decide (left ≤ 100000) && (decide (b.length ≤ 60) && smB b)))))) (.yes (.exit 2, [.slice TRow a .view, .ptr 0 0 0, .int .i64 ((wholeF b left.toNat : Nat) : Int)], [o] :: S, [])) .no
  | _, _ => .no
def lfPt : Nat → Option LoopSum := lfOf [(122, loopT [0, 1, 2, 7, 44, 45, 46] [0, 1, 2, 6, 7] pt1F), (2042, loopT [0, 7, 12, 13, 76, 77, 78] [0, 7, 12] pt2F)]
noncomputable def EPt : List (Ent PR A) := [aliveE, stNwE, stApE, stCrE, stSyncE, stFrE, frameE]
noncomputable abbrev LPt1 (N : Nat) := LC PR (cfE EPt) cfgG lfPt n_law_PageTorn 0 122 [0, 1, 2, 7, 44, 45, 46] [0, 1, 2, 6, 7] N
noncomputable abbrev LPt2 (N : Nat) := LC PR (cfE EPt) cfgG lfPt n_law_PageTorn 1 2042 [0, 7, 12, 13, 76, 77, 78] [0, 7, 12] N
theorem pt1_round (a b c : List (List Int)) (kp : Int) (d : List Int) (m i n : Int) (S : Stack) (wr : Wr) (N : Nat) (k : Ex → List AV → Stack → Wr → Option Res) :
    LPt1 (N + 1) [.slice TRow a .view, .slice TRow b .view, .int .i64 kp, .ptr 0 0 0, .slice TRow c .own, .int .i64 m, .int .i64 i] ([stOb d .own n false] :: S) wr k =
      (bif decide (i < m) then (at? c i).bind fun x => bif i == (a.length : Int) then
          bif decide (d.length ≤ 1000000) then bif appOK d x false then
            LPt1 N [.slice TRow a .view, .slice TRow b .view, .int .i64 kp, .ptr 0 0 0, .slice TRow c .own, .int .i64 m, .int .i64 (IntKind.i64.wrap (i + 1))] ([stOb (d ++ frB x) .own d.length false] :: S) ((0, 0) :: (0, 0) :: wr) k
          else k .ret [.slice TRow a .view, .slice TRow b .view, .int .i64 kp, .bool true, .ptr 0 0 0] ([stOb d .own d.length false] :: S) ((0, 0) :: wr) else none
        else bif decide (d.length ≤ 1000000) then bif appOK d x false then
            LPt1 N [.slice TRow a .view, .slice TRow b .view, .int .i64 kp, .ptr 0 0 0, .slice TRow c .own, .int .i64 m, .int .i64 (IntKind.i64.wrap (i + 1))] ([stOb (d ++ frB x) .own n false] :: S) ((0, 0) :: wr) k
          else k .ret [.slice TRow a .view, .slice TRow b .view, .int .i64 kp, .bool true, .ptr 0 0 0] ([stOb d .own n false] :: S) wr else none
      else k (.exit 0) [.slice TRow a .view, .slice TRow b .view, .int .i64 kp, .undef, .ptr 0 0 0] ([stOb d .own n false] :: S) wr) := by kernel_rfl
theorem pt2_round (a b : List (List Int)) (n left m i : Int) (o : Ob) (S : Stack) (wr : Wr) (N : Nat) (k : Ex → List AV → Stack → Wr → Option Res) :
    LPt2 (N + 1) [.slice TRow a .view, .ptr 0 0 0, .int .i64 n, .int .i64 left, .slice TRow b .view, .int .i64 m, .int .i64 i] ([o] :: S) wr k =
      (bif decide (i < m) then (at? b i).bind fun x => bif decide (x.length ≤ 100000000) then bif decide (IntKind.i64.wrap (left - ((frB x).length : Int)) < 0) then k (.exit 2) [.slice TRow a .view, .ptr 0 0 0, .int .i64 n] ([o] :: S) wr
        else LPt2 N [.slice TRow a .view, .ptr 0 0 0, .int .i64 (IntKind.i64.wrap (n + 1)), .int .i64 (IntKind.i64.wrap (left - ((frB x).length : Int))), .slice TRow b .view, .int .i64 m, .int .i64 (IntKind.i64.wrap (i + 1))] ([o] :: S) wr k
      else none else k (.exit 2) [.slice TRow a .view, .ptr 0 0 0, .int .i64 n] ([o] :: S) wr) := by kernel_rfl
theorem pt1_loop (a b c : List (List Int)) (kp m : Int) (hm : m = (c.length : Int)) (hl : c.length ≤ 60) (S : Stack) (k : Ex → List AV → Stack → Wr → Option Res) : ∀ (q j : Nat) (d : List Int) (n : Int) (wr : Wr), j + q = c.length → d.length ≤ 65536 →
    LPt1 (q + 1) [.slice TRow a .view, .slice TRow b .view, .int .i64 kp, .ptr 0 0 0, .slice TRow c .own, .int .i64 m, .int .i64 (j : Int)] ([stOb d .own n false] :: S) wr k =
      bif apAll (c.drop j) d then k (.exit 0) [.slice TRow a .view, .slice TRow b .view, .int .i64 kp, .undef, .ptr 0 0 0] ([stOb (apB (c.drop j) d) .own (ptS a.length j (c.drop j) d n) false] :: S) (app (repApp (ptK a.length j (c.drop j) d) [(0, 0)]) wr)
      else k .ret [.slice TRow a .view, .slice TRow b .view, .int .i64 kp, .bool true, .ptr 0 0 0] ([stOb (apB (c.drop j) d) .own (ptS a.length j (c.drop j) d n) false] :: S) (app (repApp (ptK a.length j (c.drop j) d) [(0, 0)]) wr) := by
  intro q
  induction q with
  | zero =>
    intro j d n wr hj hb
    have hd : c.drop j = [] := List.drop_of_length_le (by omega)
    rw [pt1_round, cond_ne (decide_eq_false (by omega)), hd]
    simp only [apAll, apB, ptS, ptK, repApp, app, cond_true]
  | succ q ih =>
    intro j d n wr hj hb
    have hlt : j < c.length := by omega
    have hw : IntKind.i64.wrap ((j : Int) + 1) = ((j + 1 : Nat) : Int) := by rw [wrap_i64 (by omega) (by omega)]; omega
    have hd : c.drop j = c[j] :: c.drop (j + 1) := List.drop_eq_getElem_cons hlt
    have hdl : decide (d.length ≤ 1000000) = true := decide_eq_true (by omega)
    rw [pt1_round, cond_eq (decide_eq_true (by omega)), at_some (List.getElem?_eq_getElem hlt), Option.bind_some, hdl, hw, hd]
    simp only [apAll, apB, ptS, ptK]
    generalize c[j] = x
    rcases Bool.eq_false_or_eq_true (appOK d x false) with ho | ho
    · obtain ⟨h1, h2⟩ := appOK_iff.1 ho
      rcases Bool.eq_false_or_eq_true ((j : Int) == (a.length : Int)) with he | he
      · have hi := ih (j + 1) (d ++ frB x) d.length ((0, 0) :: (0, 0) :: wr) (by omega) (by rw [List.length_append]; omega)
        simp only [ho, he, cond_true, Bool.true_and, rep_more]
        exact hi
      · have hi := ih (j + 1) (d ++ frB x) n ((0, 0) :: wr) (by omega) (by rw [List.length_append]; omega)
        simp only [ho, he, cond_true, cond_false, Bool.true_and, rep_more]
        exact hi
    · rcases Bool.eq_false_or_eq_true ((j : Int) == (a.length : Int)) with he | he
      · simp only [ho, he, cond_false, cond_true, Bool.false_and, repApp, app]
      · simp only [ho, he, cond_false, cond_true, Bool.false_and, repApp, app]
theorem pt2_loop (a b : List (List Int)) (m : Int) (hm : m = (b.length : Int)) (hl : b.length ≤ 60) (hs : smB b = true) (o : Ob) (S : Stack) (wr : Wr) (k : Ex → List AV → Stack → Wr → Option Res) : ∀ (q j n left : Nat), j + q = b.length → n ≤ j → left ≤ 100000 →
    LPt2 (q + 1) [.slice TRow a .view, .ptr 0 0 0, .int .i64 (n : Int), .int .i64 (left : Int), .slice TRow b .view, .int .i64 m, .int .i64 (j : Int)] ([o] :: S) wr k = k (.exit 2) [.slice TRow a .view, .ptr 0 0 0, .int .i64 ((n + wholeF (b.drop j) left : Nat) : Int)] ([o] :: S) wr := by
  intro q
  induction q with
  | zero =>
    intro j n left hj hn hf
    have hd : b.drop j = [] := List.drop_of_length_le (by omega)
    rw [pt2_round, cond_ne (decide_eq_false (by omega)), hd]
    simp only [wholeF, Nat.add_zero]
  | succ q ih =>
    intro j n left hj hn hf
    have hlt : j < b.length := by omega
    have hw : IntKind.i64.wrap ((j : Int) + 1) = ((j + 1 : Nat) : Int) := by rw [wrap_i64 (by omega) (by omega)]; omega
    have hw2 : IntKind.i64.wrap ((n : Int) + 1) = ((n + 1 : Nat) : Int) := by rw [wrap_i64 (by omega) (by omega)]; omega
    have hd : b.drop j = b[j] :: b.drop (j + 1) := List.drop_eq_getElem_cons hlt
    have hx := smB_mem hs b[j] (List.getElem_mem hlt)
    rw [pt2_round, cond_eq (decide_eq_true (by omega)), at_some (List.getElem?_eq_getElem hlt), Option.bind_some, hw, hw2, hd]
    generalize b[j] = x at hx
    have hfl := frB_le hx
    rw [cond_eq (decide_eq_true (by omega)), wrap_i64 (n := (left : Int) - _) (by omega) (by omega)]
    simp only [wholeF]
    by_cases h1 : (frB x).length ≤ left
    · have hi := ih (j + 1) (n + 1) (left - (frB x).length) (by omega) (by omega) (by omega)
      have e : (left : Int) - ((frB x).length : Int) = ((left - (frB x).length : Nat) : Int) := by omega
      have e2 : n + 1 + wholeF (b.drop (j + 1)) (left - (frB x).length) = n + (wholeF (b.drop (j + 1)) (left - (frB x).length) + 1) := by omega
      rw [e2] at hi
      rw [cond_ne (decide_eq_false (by omega)), decide_eq_true h1, cond_true, e]
      exact hi
    · rw [cond_eq (decide_eq_true (by omega)), decide_eq_false h1, cond_false, Nat.add_zero]
theorem pt_loops : ∀ x ∈ funLoops PR n_law_PageTorn, ∀ L, lfPt x.1 = some L → LoopOK (ntm PR n_law_PageTorn) (fun fr H wr k => code PR (cfE EPt) cfgG lfPt (cfgG.live n_law_PageTorn) x.2 (2 * x.1) fr H wr k) L := by
  refine all_loops (ps := [122, 2042]) (by kernel_rfl) fun j p hj L hL => ?_
  match j, hj with
  | 0, hj =>
    cases hj
    cases hL
    refine loopT_ok (by decide) fun vs H wr ex vs' H' w hv ha hh => ?_
    unfold pt1F at hv
    split at hv
    · rename_i a b kp c m i d n S
      obtain ⟨hc, hv2⟩ := Tr.br_no hv
      clear hv
      simp only [Bool.and_eq_true, decide_eq_true_eq] at hc
      obtain ⟨h1, h2, h3, h4⟩ := hc
      subst h2
      refine ⟨c.length + 1, fun k => ?_⟩
      have := pt1_loop a b c kp m h1 h4 S k c.length 0 d n wr (by omega) h3
      rw [List.drop_zero] at this
      rcases Tr.br_or hv2 with ⟨he, h5⟩ | ⟨he, h5⟩
      · cases h5; rw [he] at this; exact this
      · cases h5; rw [he] at this; exact this
    · cases hv
  | 1, hj =>
    cases hj
    cases hL
    refine loopT_ok (by decide) fun vs H wr ex vs' H' w hv ha hh => ?_
    unfold pt2F at hv
    split at hv
    · rename_i a n left b m i o S
      obtain ⟨hc, hv2⟩ := Tr.br_no hv
      cases hv2
      simp only [Bool.and_eq_true, decide_eq_true_eq] at hc
      obtain ⟨h1, h2, h3, h4, h5, h6, h7⟩ := hc
      subst h2 h3
      refine ⟨b.length + 1, fun k => ?_⟩
      have := pt2_loop a b m h1 h6 h7 o S wr k b.length 0 0 left.toNat (by omega) (Nat.le_refl _) (by omega)
      rw [List.drop_zero, natCast_toNat h4, Nat.zero_add] at this
      exact this
    · cases hv
def ptT (a b : List (List Int)) (kp : Int) (B : List Int) (n : Int) (W : Wr) : Option Res :=
  bif decide (B.length ≤ 1000000) && (decide (0 ≤ n) && decide (n ≤ (B.length : Int))) then
    bif decide ((b.length : Int) = (b.length : Int)) && (decide ((0 : Int) = 0) && (decide ((0 : Int) = 0) && (decide (0 ≤ kp) && (decide (kp ≤ 100000) && (decide (b.length ≤ 60) && smB b))))) then
      bif decide ((crB B n kp).length ≤ 1000000) then some (.bool (((scanL (crB B n kp)).length : Int) == IntKind.i64.wrap ((a.length : Int) + ((wholeF b kp.toNat : Nat) : Int))), W, [])
      else none else none else none
theorem page_torn0 (a b : List (List Int)) (kp : Int) : body PR (cfE EPt) cfgG lfPt n_law_PageTorn [.slice TRow a .view, .slice TRow b .view, .int .i64 kp] [] some =
    (bif decide (IntKind.i64.wrap ((a.length : Int) + (b.length : Int)) > 60) then some (.bool true, [], []) else bif decide (kp < 0) then some (.bool true, [], []) else bif decide (kp > 100000) then some (.bool true, [], [])
    else bif decide ((0 + a.length) * 24 ≤ 140737488355328) then bif decide ((([] ++ a).length + b.length) * 24 ≤ 140737488355328) then
      bif decide ((([] ++ a ++ b).length : Int) = (([] ++ a ++ b).length : Int)) && (decide ((0 : Int) = 0) && (decide ((nwB []).length ≤ 65536) && decide (([] ++ a ++ b).length ≤ 60))) then
        bif apAll ([] ++ a ++ b) (nwB []) then
          bif (b.length : Int) == 0 then ptT a b kp (apB ([] ++ a ++ b) (nwB [])) ((apB ([] ++ a ++ b) (nwB [])).length : Int) (outer (app (repApp (ptK a.length 0 ([] ++ a ++ b) (nwB [])) [(0, 0)]) []))
          else ptT a b kp (apB ([] ++ a ++ b) (nwB [])) (ptS a.length 0 ([] ++ a ++ b) (nwB []) (scanN (([] : List Int).take 65536))) (outer (app (repApp (ptK a.length 0 ([] ++ a ++ b) (nwB [])) [(0, 0)]) []))
        else some (.bool true, outer (app (repApp (ptK a.length 0 ([] ++ a ++ b) (nwB [])) [(0, 0)]) []), [])
      else none else none else none) := by kernel_rfl
theorem ptS_after {la : Nat} : ∀ (r : List (List Int)) (j : Nat) (d : List Int) (n : Int), la < j → ptS la j r d n = n
  | [], j, d, n, h => rfl
  | x :: r, j, d, n, h => by
    have e : ((j : Int) == (la : Int)) = false := by rw [beq_eq_false_iff_ne]; omega
    simp only [ptS, e, cond_false]
    rw [ptS_after r (j + 1) _ n (by omega)]
    cases appOK d x false <;> rfl
theorem ptS_at {la : Nat} {b : List (List Int)} (hb : b ≠ []) : ∀ (a : List (List Int)) (j : Nat) (d : List Int) (n : Int), la = j + a.length → apAll (a ++ b) d = true → ptS la j (a ++ b) d n = ((d.length + (catF a).length : Nat) : Int)
  | [], j, d, n, h, ha => by
    cases b with
    | nil => exact absurd rfl hb
    | cons x r =>
      simp only [List.length_nil, Nat.add_zero] at h
      subst h
      simp only [List.nil_append, ptS, beq_self_eq_true, cond_true, catF, List.length_nil, Nat.add_zero]
      rw [ptS_after r (la + 1) _ _ (by omega)]
      cases appOK d x false <;> rfl
  | y :: a, j, d, n, h, ha => by
    simp only [List.length_cons] at h
    have e : ((j : Int) == (la : Int)) = false := by rw [beq_eq_false_iff_ne]; omega
    simp only [List.cons_append, apAll, Bool.and_eq_true] at ha
    simp only [List.cons_append, ptS, e, cond_false, ha.1, cond_true]
    rw [ptS_at hb a (j + 1) _ n (by omega) ha.2]
    simp only [catF, List.length_append, Nat.add_assoc]
theorem torn_end {a b : List (List Int)} (hs : smallF (a ++ b)) {kp : Int} (h0 : 0 ≤ kp) : scanL (crB (catF (a ++ b)) ((catF a).length : Int) kp) = a ++ b.take (wholeF b kp.toNat) ∧ (crB (catF (a ++ b)) ((catF a).length : Int) kp).length ≤ (catF (a ++ b)).length := by
  have hsa : smallF a := fun x hx => hs x (by simp [hx])
  have hsb : smallF b := fun x hx => hs x (by simp [hx])
  have ht : crT (catF (a ++ b)) ((catF a).length : Int) kp = catF a ++ (catF b).take kp.toNat := by
    unfold crT crN
    rw [catF_app, List.length_append]
    have e : (((catF a).length : Int) + min (max kp 0) ((((catF a).length + (catF b).length : Nat) : Int) - ((catF a).length : Int))).toNat = (catF a).length + min kp.toNat (catF b).length := by omega
    rw [e, List.take_length_add_append]
    congr 1
    rcases Nat.le_total kp.toNat (catF b).length with h | h
    · rw [Nat.min_eq_left h]
    · rw [Nat.min_eq_right h, List.take_of_length_le (Nat.le_refl _), List.take_of_length_le h]
  have hsc : scanL (crT (catF (a ++ b)) ((catF a).length : Int) kp) = a ++ b.take (wholeF b kp.toNat) := by
    rw [ht, scan_app hsa (take_bytes (catF_bytes hsb) _), scan_whole b _ hsb]
  have hpre : catF (a ++ b) = catF (a ++ b.take (wholeF b kp.toNat)) ++ catF (b.drop (wholeF b kp.toNat)) := by
    rw [← catF_app, List.append_assoc, List.take_append_drop]
  have hB : crB (catF (a ++ b)) ((catF a).length : Int) kp = catF (a ++ b.take (wholeF b kp.toNat)) := by
    unfold crB scanN
    rw [hsc, Int.toNat_natCast]
    exact take_pre hpre
  refine ⟨?_, ?_⟩
  · rw [hB]
    refine scan_cat fun x hx => ?_
    rcases List.mem_append.1 hx with h | h
    · exact hsa x h
    · exact hsb x (List.mem_of_mem_take h)
  · rw [hB, hpre, List.length_append]; omega
theorem smB_of : ∀ {l : List (List Int)}, (∀ x ∈ l, x.length ≤ 65536) → smB l = true
  | [], _ => rfl
  | x :: r, h => by
    simp only [smB, Bool.and_eq_true, decide_eq_true_eq]
    exact ⟨h x (by simp), smB_of fun y hy => h y (by simp [hy])⟩
theorem torn_T {a b : List (List Int)} {kp n : Int} (hs : smallF (a ++ b)) (hl : (a ++ b).length ≤ 60) (hB : (catF (a ++ b)).length ≤ 65536) (h0 : 0 ≤ kp) (h1 : kp ≤ 100000) (hn : n = ((catF a).length : Int)) : ptT a b kp (catF (a ++ b)) n [] = some (.bool true, [], []) := by
  subst hn
  obtain ⟨e1, e2⟩ := torn_end hs h0
  have hle : (catF a).length ≤ (catF (a ++ b)).length := by rw [catF_app, List.length_append]; omega
  have hw := wholeF_le b kp.toNat
  rw [List.length_append] at hl
  unfold ptT
  rw [cond_eq (by simp only [Bool.and_eq_true, decide_eq_true_eq]; omega)]
  have hsm : smB b = true := smB_of fun x hx => (hs x (by simp [hx])).1
  rw [hsm, cond_eq (by simp only [Bool.and_eq_true, decide_eq_true_eq, true_and, and_true]; omega), cond_eq (decide_eq_true (by omega)), e1, wrap_i64 (by omega) (by omega)]
  have : ((a ++ b.take (wholeF b kp.toNat)).length : Int) = (a.length : Int) + ((wholeF b kp.toNat : Nat) : Int) := by
    rw [List.length_append, List.length_take]; omega
  rw [this, beq_self_eq_true]
theorem page_torn (a b : List (List Int)) (kp : Int) (ha : ∀ x ∈ a, isBytes x) (hb : ∀ x ∈ b, isBytes x) (hla : a.length * 8 ≤ 140737488355328) (hlb : b.length * 8 ≤ 140737488355328) : body PR (cfE EPt) cfgG lfPt n_law_PageTorn [.slice TRow a .view, .slice TRow b .view, .int .i64 kp] [] some = some (.bool true, [], []) := by
  rw [page_torn0, outer_app0 _ _ (all0_rep rfl _), nwB_nil, scanN_nil, List.nil_append, wrap_i64 (by omega) (by omega)]
  by_cases h1 : (a.length : Int) + (b.length : Int) > 60
  · rw [decide_eq_true h1]; rfl
  by_cases h2 : kp < 0
  · rw [decide_eq_false h1, decide_eq_true h2]; rfl
  by_cases h3 : kp > 100000
  · rw [decide_eq_false h1, decide_eq_false h2, decide_eq_true h3]; rfl
  have hB := apB_le (a ++ b) [] (Nat.zero_le _)
  rw [decide_eq_false h1, decide_eq_false h2, decide_eq_false h3, cond_false, cond_false, cond_false, cond_eq (decide_eq_true (by omega)), cond_eq (decide_eq_true (by omega)), cond_eq (by simp only [Bool.and_eq_true, decide_eq_true_eq, List.length_nil, List.length_append, true_and]; omega)]
  rcases Bool.eq_false_or_eq_true (apAll (a ++ b) []) with hA | hA
  · obtain ⟨e1, e2⟩ := ap_all (a ++ b) [] hA
    rw [List.nil_append] at e1
    have hs : smallF (a ++ b) := fun x hx => ⟨ap_small _ [] hA x hx, by
      rcases List.mem_append.1 hx with h | h
      · exact ha x h
      · exact hb x h⟩
    rw [e1] at hB
    have hl : (a ++ b).length ≤ 60 := by rw [List.length_append]; omega
    rw [hA, cond_true, e1]
    by_cases hne : b = []
    · subst hne
      have hT := torn_T (kp := kp) (n := ((catF (a ++ [])).length : Int)) hs hl hB (by omega) (by omega) (by rw [List.append_nil])
      exact hT
    · have hbl : ((b.length : Int) == 0) = false := by
        rw [beq_eq_false_iff_ne]
        have := List.length_pos_iff.2 hne
        omega
      rw [hbl, cond_false]
      refine torn_T hs hl hB (by omega) (by omega) ?_
      rw [ptS_at hne a 0 [] 0 (by omega) hA]
      simp
  · rw [hA]; rfl
theorem sz_rowsl {l : List (List Int)} (h : Sz (.slice (.slice (.int .u8))) l) : l.length * 8 ≤ 140737488355328 := by
  have h1 := h.1
  have h2 : Ty.bts TRow = 24 := rfl
  have h3 : reachBytes ≤ 140737488355328 := by decide
  rw [h2] at h1
  omega
end Go.Crc
