/- Contracts of functions of this program. Conditions: none. -/
import Derived.Test.YtjaiihcljcnfnaaGreatWh
import Derived.Test.YtjaiihcljcnfnaaGreatWf
set_option linter.unusedVariables false
set_option linter.unusedSimpArgs false
/- Configurations as the document says: which may be, written, read, the same. Conditions: none. A text of this seat's numbers. -/
set_option linter.unusedVariables false
set_option linter.unusedSimpArgs false
set_option maxRecDepth 100000
namespace Go.Crc
open Go.Vm Go.Pack Go.Rec
/-! ### Has -/
def lfHr : Nat → Option LoopSum := lfOf [(26, loopT [0, 1, 5] [4] fun vs H => match vs, H with
  | [.slice (.int .i64) a .view, .int .i64 n, .int .i64 i], [] :: S => .br (decide (i = 0)) (.br (inB6 a n) (.yes (.ret, [.bool true], [] :: S, [])) (.yes (.exit 0, [.undef], [] :: S, []))) .no
  | _, _ => .no)]
theorem hr_loops : ∀ x ∈ funLoops PR n_ref06_Has, ∀ L, lfHr x.1 = some L → LoopOK (ntm PR n_ref06_Has) (fun fr H wr k => code PR (cfE (P := PR) (A := A) []) cfgT lfHr (cfgT.live n_ref06_Has) x.2 (2 * x.1) fr H wr k) L := by
  refine one_loop (p := 26) rfl (by kernel_rfl) (loopT_ok (by decide) fun vs H wr ex vs' H' w hv ha hh => ?_)
  split at hv
  · rename_i a n i S
    obtain ⟨hc, hv2⟩ := Tr.br_no hv
    clear hv
    simp only [decide_eq_true_eq] at hc
    subst hc
    have hmax : a.length ≤ maxInt := by simp only [okAVs, okAV] at ha; exact ha.1.1
    refine ⟨a.length + 1, fun k => ?_⟩
    have := any_loop (F := fun N i => LC PR (cfE (P := PR) (A := A) []) cfgT lfHr n_ref06_Has 0 26 [0, 1, 5] [4] N [.slice (.int .i64) a .view, .int .i64 n, .int .i64 i] ([] :: S) wr k)
      (xs := a) (p := fun x => x == n) (R := k .ret [.bool true] ([] :: S) wr) (E := k (.exit 0) [.undef] ([] :: S) wr) rfl hmax (fun N i => by kernel_rfl) a.length 0 (by omega)
    rw [List.drop_zero] at this
    rcases Tr.br_or hv2 with ⟨he, h4⟩ | ⟨he, h4⟩
    · cases h4; unfold inB6 at he; rw [he] at this; exact this
    · cases h4; unfold inB6 at he; rw [he] at this; exact this
  · cases hv
def hrF : List AV → Tr AV
  | [.slice (.int .i64) a .view, .int .i64 n] => .yes (.bool (inB6 a n))
  | _ => .no
theorem hr_ok : Con PR A n_ref06_Has (pureC hrF) := by
  refine pure_con (cfg := cfgT) (lf := lfHr) [] mixed (by kernel_rfl) (by kernel_rfl) hr_loops fun args v hv ha S => ?_
  unfold hrF at hv
  split at hv
  · rename_i a n
    cases hv
    have h : body PR (cfE (P := PR) (A := A) []) cfgT lfHr n_ref06_Has [.slice (.int .i64) a .view, .int .i64 n] S some = (bif inB6 a n then some (.bool true, [], S) else some (.bool false, [], S)) := by kernel_rfl
    rw [h]
    cases inB6 a n <;> rfl
  · cases hv
def hrE : Ent PR A := ⟨n_ref06_Has, _, hr_ok⟩
/-! ### unlike -/
def lfUx : Nat → Option LoopSum := lfOf [(26, loopT [0, 3] [2] fun vs H => match vs, H with
  | [.slice (.int .i64) a .view, .int .i64 i], [] :: S => .br (decide (i = 0)) (.br (unlX [] a) (.yes (.exit 0, [.undef], [] :: S, [])) (.yes (.ret, [.bool false], [] :: S, []))) .no
  | _, _ => .no)]
noncomputable abbrev LUx (N : Nat) := LC PR (cfE [hrE]) cfgT lfUx n_ref06_unlike 0 26 [0, 3] [2] N
theorem ux_round (a : List Int) (i : Int) (S : Stack) (wr : Wr) (N : Nat) (k : Ex → List AV → Stack → Wr → Option Res) :
    LUx (N + 1) [.slice (.int .i64) a .view, .int .i64 i] ([] :: S) wr k =
      (bif decide (i < (a.length : Int)) then (at? a i).bind fun x => bif decide (x < 0) then k .ret [.bool false] ([] :: S) wr else (at? a i).bind fun x => bif decide (x > 15) then k .ret [.bool false] ([] :: S) wr
        else bif decide (0 ≤ i) && decide (i ≤ (a.length : Int)) then (at? a i).bind fun x => bif inB6 ((a.take i.toNat).drop 0) x then k .ret [.bool false] ([] :: S) wr else LUx N [.slice (.int .i64) a .view, .int .i64 (IntKind.i64.wrap (i + 1))] ([] :: S) wr k
        else none else k (.exit 0) [.undef] ([] :: S) wr) := by kernel_rfl
theorem ux_loop (a : List Int) (hl : a.length ≤ maxInt) (S : Stack) (wr : Wr) (k : Ex → List AV → Stack → Wr → Option Res) : ∀ (q j : Nat), j + q = a.length →
    LUx (q + 1) [.slice (.int .i64) a .view, .int .i64 (j : Int)] ([] :: S) wr k = bif unlX (a.take j) (a.drop j) then k (.exit 0) [.undef] ([] :: S) wr else k .ret [.bool false] ([] :: S) wr
  | 0, j, hj => by
    rw [ux_round, cond_ne (decide_eq_false (by omega)), List.drop_of_length_le (by omega)]
    rfl
  | q + 1, j, hj => by
    have hlt : j < a.length := by omega
    have hat := at_some (List.getElem?_eq_getElem hlt)
    have hi := ux_loop a hl S wr k q (j + 1) (by omega)
    rw [ux_round, cond_eq (decide_eq_true (by omega)), hat]
    simp only [Option.bind_some]
    rw [decide_eq_true (show (0 : Int) ≤ (j : Int) by omega), decide_eq_true (show (j : Int) ≤ (a.length : Int) by omega), Bool.and_self, cond_true, Int.toNat_natCast, List.drop_zero, List.drop_eq_getElem_cons hlt, wrap_next hlt hl]
    rw [List.take_succ_eq_append_getElem hlt] at hi
    simp only [unlX]
    rw [hi]
    cases decide (a[j] < 0) with
    | true => rfl
    | false =>
      cases decide (a[j] > 15) with
      | true => rfl
      | false => cases inB6 (a.take j) a[j] <;> rfl
theorem ux_ok : Con PR A n_ref06_unlike (pureC unF) := by
  refine pureC_ok fun args v hv ha S => ?_
  unfold unF at hv
  split at hv
  · rename_i a
    cases hv
    have h : body PR (cfE [hrE]) cfgT lfUx n_ref06_unlike [.slice (.int .i64) a .view] S some = (bif unlX [] a then some (.bool true, [], S) else some (.bool false, [], S)) := by kernel_rfl
    refine fun_call _ mixed (by kernel_rfl) (by kernel_rfl) ?_ (h.trans ?_)
    · refine one_loop (p := 26) rfl (by kernel_rfl) (loopT_ok (by decide) fun vs H wr ex vs' H' w hv ha hh => ?_)
      split at hv
      · rename_i a i S
        obtain ⟨hc, hv2⟩ := Tr.br_no hv
        clear hv
        simp only [decide_eq_true_eq] at hc
        subst hc
        have hmax : a.length ≤ maxInt := by simp only [okAVs, okAV] at ha; exact ha.1.1
        refine ⟨a.length + 1, fun k => ?_⟩
        have := ux_loop a hmax S wr k a.length 0 (by omega)
        rw [List.drop_zero, List.take_zero] at this
        rcases Tr.br_or hv2 with ⟨he, h4⟩ | ⟨he, h4⟩
        · cases h4; rw [he] at this; exact this
        · cases h4; rw [he] at this; exact this
      · cases hv
    · rw [unlX_unl]
      cases unl a <;> rfl
  · cases hv
def uxE : Ent PR A := ⟨n_ref06_unlike, _, ux_ok⟩
/-! ### Right -/
def lfT6 : Nat → Option LoopSum := lfOf [(58, loopT [1, 3] [1, 2] fun vs H => match vs, H with
  | [.ptr 0 0 0, .int .i64 i], [.cells [.int .i64 t, .slice (.int .i64) s .view, .slice (.slice (.int .i64)) sh .view]] :: S => .br (decide (i = 0)) (.br (sh.any badRow) (.yes (.ret, [.ptr 0 0 0, .bool false], [.cells [.int .i64 t, .slice (.int .i64) s .view, .slice (.slice (.int .i64)) sh .view]] :: S, [])) (.yes (.exit 0, [.ptr 0 0 0, .undef], [.cells [.int .i64 t, .slice (.int .i64) s .view, .slice (.slice (.int .i64)) sh .view]] :: S, []))) .no
  | _, _ => .no)]
noncomputable abbrev LT6 (N : Nat) := LC PR (cfE [uxE]) cfgT lfT6 n_ref06_Right 0 58 [1, 3] [1, 2] N
theorem t6_round (t : Int) (s : List Int) (sh : List (List Int)) (i : Int) (S : Stack) (wr : Wr) (N : Nat) (k : Ex → List AV → Stack → Wr → Option Res) :
    LT6 (N + 1) [.ptr 0 0 0, .int .i64 i] ([.cells [.int .i64 t, .slice (.int .i64) s .view, .slice (.slice (.int .i64)) sh .view]] :: S) wr k =
      (bif decide (i < (sh.length : Int)) then (at? sh i).bind fun x => bif decide ((x.length : Int) < 1) then k .ret [.ptr 0 0 0, .bool false] ([.cells [.int .i64 t, .slice (.int .i64) s .view, .slice (.slice (.int .i64)) sh .view]] :: S) wr
        else (at? sh i).bind fun x => bif decide ((x.length : Int) > 3) then k .ret [.ptr 0 0 0, .bool false] ([.cells [.int .i64 t, .slice (.int .i64) s .view, .slice (.slice (.int .i64)) sh .view]] :: S) wr
        else (at? sh i).bind fun x => bif !unl x then k .ret [.ptr 0 0 0, .bool false] ([.cells [.int .i64 t, .slice (.int .i64) s .view, .slice (.slice (.int .i64)) sh .view]] :: S) wr
        else LT6 N [.ptr 0 0 0, .int .i64 (IntKind.i64.wrap (i + 1))] ([.cells [.int .i64 t, .slice (.int .i64) s .view, .slice (.slice (.int .i64)) sh .view]] :: S) wr k
      else k (.exit 0) [.ptr 0 0 0, .undef] ([.cells [.int .i64 t, .slice (.int .i64) s .view, .slice (.slice (.int .i64)) sh .view]] :: S) wr) := by kernel_rfl
theorem bind_thrice {α : Type} (o : Option α) (a b c : α → Bool) (R G : Option Res) :
    (o.bind fun x => bif a x then R else o.bind fun x => bif b x then R else o.bind fun x => bif c x then R else G) = o.bind fun x => bif a x || (b x || c x) then R else G := by
  cases o with
  | none => rfl
  | some x =>
    show (bif a x then R else bif b x then R else bif c x then R else G) = bif a x || (b x || c x) then R else G
    cases a x <;> cases b x <;> rfl
theorem t6_loops : ∀ x ∈ funLoops PR n_ref06_Right, ∀ L, lfT6 x.1 = some L → LoopOK (ntm PR n_ref06_Right) (fun fr H wr k => code PR (cfE [uxE]) cfgT lfT6 (cfgT.live n_ref06_Right) x.2 (2 * x.1) fr H wr k) L := by
  refine one_loop (p := 58) rfl (by kernel_rfl) (loopT_ok (by decide) fun vs H wr ex vs' H' w hv ha hh => ?_)
  split at hv
  · rename_i i t s sh S
    obtain ⟨hc, hv2⟩ := Tr.br_no hv
    clear hv
    simp only [decide_eq_true_eq] at hc
    subst hc
    have hmax : sh.length ≤ maxInt := by
      have := hh 0 0 _ rfl
      simp only [okAVs, okAV] at this
      exact this.2.2.1.1
    refine ⟨sh.length + 1, fun k => ?_⟩
    have := any_loop (F := fun N i => LT6 N [.ptr 0 0 0, .int .i64 i] ([.cells [.int .i64 t, .slice (.int .i64) s .view, .slice (.slice (.int .i64)) sh .view]] :: S) wr k)
      (xs := sh) (p := badRow) (R := k .ret [.ptr 0 0 0, .bool false] ([.cells [.int .i64 t, .slice (.int .i64) s .view, .slice (.slice (.int .i64)) sh .view]] :: S) wr) (E := k (.exit 0) [.ptr 0 0 0, .undef] ([.cells [.int .i64 t, .slice (.int .i64) s .view, .slice (.slice (.int .i64)) sh .view]] :: S) wr) rfl hmax (fun N i => by rw [t6_round, bind_thrice]; rfl) sh.length 0 (by omega)
    rw [List.drop_zero] at this
    rcases Tr.br_or hv2 with ⟨he, h4⟩ | ⟨he, h4⟩
    · cases h4; rw [he] at this; exact this
    · cases h4; rw [he] at this; exact this
  · cases hv
theorem len_odd (s : List Int) : (((s.length : Int) == 1) || (((s.length : Int) == 3) || (((s.length : Int) == 5) || ((s.length : Int) == 7)))) = !((s.length : Int).tmod 2 == 0 || decide ((s.length : Int) > 7)) := by
  have hm : (s.length : Int).tmod 2 = ((s.length % 2 : Nat) : Int) := by
    rw [Int.tmod_eq_emod_of_nonneg (by omega)]; omega
  rw [hm, Bool.eq_iff_iff]
  simp only [Bool.or_eq_true, beq_iff_eq, Bool.not_eq_true', Bool.or_eq_false_iff, beq_eq_false_iff_ne, ne_eq, decide_eq_false_iff_not]
  omega
theorem t6_ok : Con PR A n_ref06_Right (pureC trF) := by
  refine pure_con (cfg := cfgT) (lf := lfT6) [uxE] mixed (by kernel_rfl) (by kernel_rfl) t6_loops fun args v hv ha S => ?_
  unfold trF at hv
  split at hv
  · rename_i t s sh
    cases hv
    have h : body PR (cfE [uxE]) cfgT lfT6 n_ref06_Right [conA t s sh] S some =
      (bif decide (t < 1) then some (.bool false, [], S) else bif decide (t > 64) then some (.bool false, [], S) else bif decide ((sh.length : Int) < 1) then some (.bool false, [], S) else bif decide ((sh.length : Int) > 8) then some (.bool false, [], S)
      else bif sh.any badRow then some (.bool false, [], S)
      else bif (s.length : Int) == 1 then some (.bool (unl s), [], S) else bif (s.length : Int) == 3 then some (.bool (unl s), [], S) else bif (s.length : Int) == 5 then some (.bool (unl s), [], S) else bif (s.length : Int) == 7 then some (.bool (unl s), [], S) else some (.bool false, [], S)) := by kernel_rfl
    refine h.trans ?_
    have ho := len_odd s
    unfold termR
    cases decide (t < 1) with
    | true => rfl
    | false =>
    cases decide (t > 64) with
    | true => rfl
    | false =>
    cases decide ((sh.length : Int) < 1) with
    | true => cases (s.length : Int).tmod 2 == 0 <;> cases decide ((s.length : Int) > 7) <;> rfl
    | false =>
    cases decide ((sh.length : Int) > 8) with
    | true => cases (s.length : Int).tmod 2 == 0 <;> cases decide ((s.length : Int) > 7) <;> rfl
    | false =>
    cases sh.any badRow with
    | true => cases (s.length : Int).tmod 2 == 0 <;> cases decide ((s.length : Int) > 7) <;> cases unl s <;> rfl
    | false =>
      revert ho
      cases (s.length : Int) == 1 <;> cases (s.length : Int) == 3 <;> cases (s.length : Int) == 5 <;> cases (s.length : Int) == 7 <;> cases (s.length : Int).tmod 2 == 0 <;> cases decide ((s.length : Int) > 7) <;> cases unl s <;> first | (intro h; cases h; done) | (intro _; rfl)
  · cases hv
def t6E : Ent PR A := ⟨n_ref06_Right, _, t6_ok⟩
/-! ### Written -/
def lfRw : Nat → Option LoopSum := lfOf [(58, loopT [0, 3, 4] [3] fun vs H => match vs, H with
  | [.slice (.int .i64) a .view, .str o, .int .i64 i], [] :: S => .br (decide (i = 0) && decide (o.length + 9 * a.length ≤ 140737488355328)) (.yes (.exit 0, [.str (o ++ (a.map numS).flatten)], [] :: S, [])) .no
  | _, _ => .no)]
theorem rw_loops : ∀ x ∈ funLoops PR n_ref06_row, ∀ L, lfRw x.1 = some L → LoopOK (ntm PR n_ref06_row) (fun fr H wr k => code PR (cfE [rnumE]) cfgT lfRw (cfgT.live n_ref06_row) x.2 (2 * x.1) fr H wr k) L := by
  refine one_loop (p := 58) rfl (by kernel_rfl) (loopT_ok (by decide) fun vs H wr ex vs' H' w hv ha hh => ?_)
  split at hv
  · rename_i a o i S
    obtain ⟨hc, hv2⟩ := Tr.br_no hv
    clear hv
    simp only [Bool.and_eq_true, decide_eq_true_eq] at hc
    obtain ⟨rfl, hl⟩ := hc
    cases hv2
    refine ⟨a.length + 1, fun k => ?_⟩
    have := fold_loop (F := fun N i o => LC PR (cfE [rnumE]) cfgT lfRw n_ref06_row 0 58 [0, 3, 4] [3] N [.slice (.int .i64) a .view, .str o, .int .i64 i] ([] :: S) wr k)
      (xs := a) (step := enStep) (E := fun o => k (.exit 0) [.str o] ([] :: S) wr) rfl (by simp only [maxInt]; omega) (fun N i n => by kernel_rfl) a.length 0 o (by omega)
    rw [List.drop_zero, en_fold _ a 0 o hl] at this
    exact this
  · cases hv
def rwF : List AV → Tr AV
  | [.slice (.int .i64) a .view] => .br (decide (a.length ≤ 1000)) (.yes (.str (rowS a))) .no
  | _ => .no
theorem rw_ok : Con PR A n_ref06_row (pureC rwF) := by
  refine pure_con (cfg := cfgT) (lf := lfRw) [rnumE] mixed (by kernel_rfl) (by kernel_rfl) rw_loops fun args v hv ha S => ?_
  unfold rwF at hv
  split at hv
  · rename_i a
    obtain ⟨hc, hv2⟩ := Tr.br_no hv
    cases hv2
    simp only [decide_eq_true_eq] at hc
    have h : body PR (cfE [rnumE]) cfgT lfRw n_ref06_row [.slice (.int .i64) a .view] S some =
      (bif true && decide ((numS (a.length : Int)).length + 9 * a.length ≤ 140737488355328) then some (.str (numS (a.length : Int) ++ (a.map numS).flatten), [], S) else none) := by kernel_rfl
    have := numS_len9 a.length
    rw [h, decide_eq_true (show (numS (a.length : Int)).length + 9 * a.length ≤ 140737488355328 by omega)]
    rfl
  · cases hv
def rwE : Ent PR A := ⟨n_ref06_row, _, rw_ok⟩
def lfTo6 : Nat → Option LoopSum := lfOf [(122, loopT [1, 4, 5] [4] fun vs H => match vs, H with
  | [.ptr 0 0 0, .str o, .int .i64 i], [.cells [.int .i64 t, .slice (.int .i64) s .view, .slice (.slice (.int .i64)) sh .view]] :: S => .br (decide (i = 0) && (decide (sh.length ≤ 8) && (decide (o.length ≤ 1000) && !(sh.any badRow)))) (.yes (.exit 0, [.str (o ++ rowsS sh)], [.cells [.int .i64 t, .slice (.int .i64) s .view, .slice (.slice (.int .i64)) sh .view]] :: S, [])) .no
  | _, _ => .no)]
def toStep6 (i : Int) (x : List Int) (o : List Int) (k : List Int → Option Res) : Option Res :=
  bif decide (x.length ≤ 1000) then bif decide (o.length + (rowS x).length ≤ 9223372036854775807) then k (o ++ rowS x) else none else none
theorem to6_fold (E : List Int → Option Res) : ∀ (sh : List (List Int)) (j : Nat) (o : List Int), (∀ x ∈ sh, badRow x = false) → o.length + 36 * sh.length ≤ 100000 → foldK toStep6 E j sh o = E (o ++ rowsS sh)
  | [], j, o, _, _ => by simp only [foldK, rowsS, List.append_nil]
  | x :: r, j, o, hb, hl => by
    obtain ⟨h1, h2, h3⟩ := badRow_iff.1 (hb x (by simp))
    have k2 := rowS_len x
    simp only [List.length_cons] at hl
    rw [show foldK toStep6 E j (x :: r) o = (bif decide (x.length ≤ 1000) then bif decide (o.length + (rowS x).length ≤ 9223372036854775807) then foldK toStep6 E (j + 1) r (o ++ rowS x) else none else none) from rfl,
      cond_eq (decide_eq_true (by omega)), cond_eq (decide_eq_true (by omega)), to6_fold E r (j + 1) _ (fun y hy => hb y (by simp [hy])) (by rw [List.length_append]; omega), rowsS, List.append_assoc]
theorem to6_loops : ∀ x ∈ funLoops PR n_ref06_Encode, ∀ L, lfTo6 x.1 = some L → LoopOK (ntm PR n_ref06_Encode) (fun fr H wr k => code PR (cfE [t6E, rnumE, rwE, refPutE]) cfgT lfTo6 (cfgT.live n_ref06_Encode) x.2 (2 * x.1) fr H wr k) L := by
  refine one_loop (p := 122) rfl (by kernel_rfl) (loopT_ok (by decide) fun vs H wr ex vs' H' w hv ha hh => ?_)
  split at hv
  · rename_i o i t s sh S
    obtain ⟨hc, hv2⟩ := Tr.br_no hv
    clear hv
    simp only [Bool.and_eq_true, decide_eq_true_eq, Bool.not_eq_true'] at hc
    obtain ⟨rfl, h8, ho, hb⟩ := hc
    cases hv2
    refine ⟨sh.length + 1, fun k => ?_⟩
    have := fold_loop (F := fun N i (x : List Int) => LC PR (cfE [t6E, rnumE, rwE, refPutE]) cfgT lfTo6 n_ref06_Encode 0 122 [1, 4, 5] [4] N [.ptr 0 0 0, .str x, .int .i64 i] ([.cells [.int .i64 t, .slice (.int .i64) s .view, .slice (.slice (.int .i64)) sh .view]] :: S) wr k)
      (xs := sh) (step := toStep6) (E := fun x => k (.exit 0) [.str x] ([.cells [.int .i64 t, .slice (.int .i64) s .view, .slice (.slice (.int .i64)) sh .view]] :: S) wr) rfl (by simp only [maxInt]; omega) (fun N i x => by kernel_rfl) sh.length 0 o (by omega)
    rw [List.drop_zero, to6_fold _ _ _ _ (fun x hx => by rw [List.any_eq_false] at hb; simpa using hb x hx) (by omega)] at this
    exact this
  · cases hv
theorem rowS_ok {l : List Int} (h : unl l = true) (hl : l.length ≤ 1000) : rowS l = rowT l := by
  unfold rowS rowT
  rw [okAll_numS l (unl_all h), numS_ok ⟨by omega, by omega⟩]
theorem rowsS_ok : ∀ {sh : List (List Int)}, (∀ x ∈ sh, badRow x = false) → rowsS sh = rowsT sh
  | [], _ => rfl
  | x :: r, h => by
    obtain ⟨h1, h2, h3⟩ := badRow_iff.1 (h x (by simp))
    simp only [rowsS, rowsT]
    rw [rowS_ok h3 (by omega), rowsS_ok fun y hy => h y (by simp [hy])]
theorem ter_ok : Con PR A n_ref06_Encode (pureC (teF .view)) := by
  refine pure_con (cfg := cfgT) (lf := lfTo6) [t6E, rnumE, rwE, refPutE] mixed (by kernel_rfl) (by kernel_rfl) to6_loops fun args v hv ha S => ?_
  unfold teF at hv
  split at hv
  · rename_i t s sh
    cases hv
    have h : body PR (cfE [t6E, rnumE, rwE, refPutE]) cfgT lfTo6 n_ref06_Encode [conA t s sh] S some =
      (bif !termR t s sh then some (.tuple [.slice (.int .u8) [] .view, .int .i64 60], [], S)
      else bif decide (s.length ≤ 1000) then bif decide ((numS t).length + (rowS s).length ≤ 9223372036854775807) then bif decide ((numS t ++ rowS s).length + (numS (sh.length : Int)).length ≤ 9223372036854775807) then
        bif true && (decide (sh.length ≤ 8) && (decide ((numS t ++ rowS s ++ numS (sh.length : Int)).length ≤ 1000) && !(sh.any badRow))) then
        bif decide ((numS t ++ rowS s ++ numS (sh.length : Int) ++ rowsS sh).length + 4 ≤ 140737488355328) then
          some (.tuple [.slice (.int .u8) (crcPut (numS t ++ rowS s ++ numS (sh.length : Int) ++ rowsS sh)) .view, .int .i64 0], [], S)
        else none else none else none else none else none) := by kernel_rfl
    refine h.trans ?_
    unfold teV termB termE
    cases hr : termR t s sh with
    | false => rfl
    | true =>
      obtain ⟨h1, h2, h3, h4, h5⟩ := termR_iff.1 hr
      have hlen := termT_len hr
      have e : numS t ++ rowS s ++ numS (sh.length : Int) ++ rowsS sh = termT t s sh := by
        unfold termT
        rw [rowS_ok h4 (by omega), rowsS_ok h5, numS_ok ⟨by omega, by omega⟩, numS_ok ⟨by omega, by omega⟩]
        simp only [List.append_assoc]
      have k1 := numS_len9 t
      have k2 := rowS_len s
      have k3 := numS_len9 (sh.length : Int)
      have hb : sh.any badRow = false := by rw [List.any_eq_false]; exact fun x hx => by rw [h5 x hx]; simp
      simp only [Bool.not_true, cond_false, cond_true]
      rw [cond_eq (decide_eq_true (show s.length ≤ 1000 by omega)), cond_eq (decide_eq_true (by omega)), cond_eq (decide_eq_true (by rw [List.length_append]; omega)), decide_eq_true (show sh.length ≤ 8 by omega), decide_eq_true (show (numS t ++ rowS s ++ numS (sh.length : Int)).length ≤ 1000 by simp only [List.length_append]; omega), hb, e, decide_eq_true (show (termT t s sh).length + 4 ≤ 140737488355328 by omega)]
      rfl
  · cases hv
def terE : Ent PR A := ⟨n_ref06_Encode, _, ter_ok⟩
end Go.Crc

/- Configurations are read and compared by the document. Conditions: none. A text of this seat's numbers. -/
set_option linter.unusedVariables false
set_option linter.unusedSimpArgs false
set_option maxRecDepth 100000
namespace Go.Crc
open Go.Vm Go.Pack Go.Rec
/-! ### A row -/
def strOb (s : St) : Ob := .cells [.str s.b, .int .i64 s.e]
def lfQ6 : Nat → Option LoopSum := lfOf [(122, loopT [1, 2, 4, 5, 6] [1, 2, 5] fun vs H => match vs, H with
  | [.ptr 0 0 0, .ptr 0 1 0, .int .i64 m, .slice (.int .i64) o .own, .int .i64 i], [.cells [.str b, .int .i64 e], .cells [.str [], .int .i64 0]] :: S =>
    .br (decide (i = 0) && decide (0 ≤ m) && (decide (m ≤ 16) && decide (o.length = 0))) (.yes (.exit 0, [.ptr 0 0 0, .ptr 0 1 0, .slice (.int .i64) (rowR 16 m.toNat ⟨b, e⟩).2 .own], [strOb (rowR 16 m.toNat ⟨b, e⟩).1, .cells [.str [], .int .i64 0]] :: S, repApp m.toNat [(0, 0), (0, 2)])) .no
  | _, _ => .no)]
noncomputable abbrev LQ6 (N : Nat) := LC PR (cfE [rnE]) cfgT lfQ6 n_ref06_readRow 0 122 [1, 2, 4, 5, 6] [1, 2, 5] N
theorem q6_round (b o : List Int) (e m i : Int) (S : Stack) (wr : Wr) (N : Nat) (k : Ex → List AV → Stack → Wr → Option Res) :
    LQ6 (N + 1) [.ptr 0 0 0, .ptr 0 1 0, .int .i64 m, .slice (.int .i64) o .own, .int .i64 i] ([.cells [.str b, .int .i64 e], .cells [.str [], .int .i64 0]] :: S) wr k =
      (bif decide (i < m) then bif decide ((o.length + [(numR ⟨b, e⟩ 16).2].length) * 8 ≤ 140737488355328) then
        LQ6 N [.ptr 0 0 0, .ptr 0 1 0, .int .i64 m, .slice (.int .i64) (o ++ [(numR ⟨b, e⟩ 16).2]) .own, .int .i64 (IntKind.i64.wrap (i + 1))] ([strOb (numR ⟨b, e⟩ 16).1, .cells [.str [], .int .i64 0]] :: S) ((0, 0) :: (0, 2) :: wr) k
      else none else k (.exit 0) [.ptr 0 0 0, .ptr 0 1 0, .slice (.int .i64) o .own] ([strOb ⟨b, e⟩, .cells [.str [], .int .i64 0]] :: S) wr) := by kernel_rfl
theorem q6_loop (m : Int) (hm : m ≤ 16) (S : Stack) (k : Ex → List AV → Stack → Wr → Option Res) : ∀ (q j : Nat) (r : St) (o : List Int) (wr : Wr), ((j + q : Nat) : Int) = m → o.length = j →
    LQ6 (q + 1) [.ptr 0 0 0, .ptr 0 1 0, .int .i64 m, .slice (.int .i64) o .own, .int .i64 (j : Int)] ([strOb r, .cells [.str [], .int .i64 0]] :: S) wr k =
      k (.exit 0) [.ptr 0 0 0, .ptr 0 1 0, .slice (.int .i64) (o ++ (rowR 16 q r).2) .own] ([strOb (rowR 16 q r).1, .cells [.str [], .int .i64 0]] :: S) (app (repApp q [(0, 0), (0, 2)]) wr)
  | 0, j, ⟨b, e⟩, o, wr, hj, ht => by
    unfold strOb
    rw [q6_round, cond_ne (by simp <;> omega)]
    simp only [rowR, List.append_nil]
    rfl
  | q + 1, j, ⟨b, e⟩, o, wr, hj, ht => by
    unfold strOb
    rw [q6_round, cond_eq (by simp <;> omega), cond_eq (decide_eq_true (by simp only [List.length_cons, List.length_nil]; omega)), wrap_i64 (n := (j : Int) + 1) (by omega) (by omega), show ((j : Int) + 1) = ((j + 1 : Nat) : Int) by omega, q6_loop m hm S k q (j + 1) _ _ _ (by omega) (by simp [ht])]
    rw [rep_more]
    simp only [rowR, List.append_assoc, List.singleton_append]
    rfl
def rrV (r : St × List Int) : AV := .tuple [.agg [.str r.1.b, .int .i64 r.1.e], .slice (.int .i64) r.2 .view]
def rrwF : List AV → Tr AV
  | [.agg [.str b, .int .i64 e]] => .yes (rrV (nodesR ⟨b, e⟩))
  | _ => .no
theorem rrw_ok : Con PR A n_ref06_readRow (pureC rrwF) := by
  refine pureC_ok fun args v hv ha S => ?_
  unfold rrwF at hv
  split at hv
  · rename_i b e
    cases hv
    have h : body PR (cfE [rnE]) cfgT lfQ6 n_ref06_readRow [.agg [.str b, .int .i64 e]] S some =
      (bif true && decide (0 ≤ (numR ⟨b, e⟩ 16).2) && (decide ((numR ⟨b, e⟩ 16).2 ≤ 16) && true) then
        some (rrV (nodesR ⟨b, e⟩), outer (app (repApp (numR ⟨b, e⟩ 16).2.toNat [(0, 0), (0, 2)]) [(0, 0)]), S) else none) := by kernel_rfl
    refine fun_call _ mixed (by kernel_rfl) (by kernel_rfl) ?_ (h.trans ?_)
    · refine one_loop (p := 122) rfl (by kernel_rfl) (loopT_ok (by decide) fun vs H wr ex vs' H' w hv ha hh => ?_)
      split at hv
      · rename_i m o i b e S
        obtain ⟨hc, hv2⟩ := Tr.br_no hv
        clear hv
        simp only [Bool.and_eq_true, decide_eq_true_eq] at hc
        obtain ⟨⟨rfl, h0⟩, h8, ho⟩ := hc
        cases hv2
        refine ⟨m.toNat + 1, fun k => ?_⟩
        have := q6_loop m h8 S k m.toNat 0 ⟨b, e⟩ o wr (by omega) ho
        rw [List.eq_nil_of_length_eq_zero ho] at this ⊢
        exact this
      · cases hv
    · have g := num16 ⟨b, e⟩
      rw [decide_eq_true g.1, decide_eq_true g.2, outer_app0 _ _ (all0_rep rfl _)]
      rfl
  · cases hv
def rrwE : Ent PR A := ⟨n_ref06_readRow, _, rrw_ok⟩
/-! ### Read -/
def lfR6 : Nat → Option LoopSum := lfOf [(4090, loopT [2, 5, 6, 7, 8, 9] [2, 5, 6, 8] fun vs H => match vs, H with
  | [.ptr 0 0 0, .bool z, .ptr 0 1 0, .int .i64 m, .ptr 0 2 0, .int .i64 i], [.cells [.int .i64 0, .slice (.int .i64) [] .own, .slice (.slice (.int .i64)) [] .own], .cells [.int .i64 t, .slice (.int .i64) s .view, .slice (.slice (.int .i64)) o .own], .cells [.str b, .int .i64 e]] :: S =>
    .br (decide (i = 0) && decide (0 ≤ m) && (decide (m ≤ 8) && decide (o.length = 0))) (.yes (.exit 0, [.ptr 0 0 0, .bool z, .ptr 0 1 0, .ptr 0 2 0], [.cells [.int .i64 0, .slice (.int .i64) [] .own, .slice (.slice (.int .i64)) [] .own], .cells [.int .i64 t, .slice (.int .i64) s .view, .slice (.slice (.int .i64)) (rowsR m.toNat ⟨b, e⟩).2 .own], strOb (rowsR m.toNat ⟨b, e⟩).1] :: S, repApp m.toNat [(0, 1), (0, 2), (0, 3)])) .no
  | _, _ => .no)]
noncomputable abbrev LR6 (N : Nat) := LC PR (cfE [refCutE, rnE, rrwE, rendE, t6E]) cfgT lfR6 n_ref06_Decode 0 4090 [2, 5, 6, 7, 8, 9] [2, 5, 6, 8] N
theorem r6_round (b s : List Int) (o : List (List Int)) (z : Bool) (e t m i : Int) (S : Stack) (wr : Wr) (N : Nat) (k : Ex → List AV → Stack → Wr → Option Res) :
    LR6 (N + 1) [.ptr 0 0 0, .bool z, .ptr 0 1 0, .int .i64 m, .ptr 0 2 0, .int .i64 i] ([.cells [.int .i64 0, .slice (.int .i64) [] .own, .slice (.slice (.int .i64)) [] .own], .cells [.int .i64 t, .slice (.int .i64) s .view, .slice (.slice (.int .i64)) o .own], .cells [.str b, .int .i64 e]] :: S) wr k =
      (bif decide (i < m) then bif decide ((o.length + [(nodesR ⟨b, e⟩).2].length) * 24 ≤ 140737488355328) then
        LR6 N [.ptr 0 0 0, .bool z, .ptr 0 1 0, .int .i64 m, .ptr 0 2 0, .int .i64 (IntKind.i64.wrap (i + 1))] ([.cells [.int .i64 0, .slice (.int .i64) [] .own, .slice (.slice (.int .i64)) [] .own], .cells [.int .i64 t, .slice (.int .i64) s .view, .slice (.slice (.int .i64)) (o ++ [(nodesR ⟨b, e⟩).2]) .own], strOb (nodesR ⟨b, e⟩).1] :: S) ((0, 1) :: (0, 2) :: (0, 3) :: wr) k
      else none else k (.exit 0) [.ptr 0 0 0, .bool z, .ptr 0 1 0, .ptr 0 2 0] ([.cells [.int .i64 0, .slice (.int .i64) [] .own, .slice (.slice (.int .i64)) [] .own], .cells [.int .i64 t, .slice (.int .i64) s .view, .slice (.slice (.int .i64)) o .own], strOb ⟨b, e⟩] :: S) wr) := by kernel_rfl
theorem r6_loop (s : List Int) (z : Bool) (t m : Int) (hm : m ≤ 8) (S : Stack) (k : Ex → List AV → Stack → Wr → Option Res) : ∀ (q j : Nat) (r : St) (o : List (List Int)) (wr : Wr), ((j + q : Nat) : Int) = m → o.length = j →
    LR6 (q + 1) [.ptr 0 0 0, .bool z, .ptr 0 1 0, .int .i64 m, .ptr 0 2 0, .int .i64 (j : Int)] ([.cells [.int .i64 0, .slice (.int .i64) [] .own, .slice (.slice (.int .i64)) [] .own], .cells [.int .i64 t, .slice (.int .i64) s .view, .slice (.slice (.int .i64)) o .own], strOb r] :: S) wr k =
      k (.exit 0) [.ptr 0 0 0, .bool z, .ptr 0 1 0, .ptr 0 2 0] ([.cells [.int .i64 0, .slice (.int .i64) [] .own, .slice (.slice (.int .i64)) [] .own], .cells [.int .i64 t, .slice (.int .i64) s .view, .slice (.slice (.int .i64)) (o ++ (rowsR q r).2) .own], strOb (rowsR q r).1] :: S) (app (repApp q [(0, 1), (0, 2), (0, 3)]) wr)
  | 0, j, ⟨b, e⟩, o, wr, hj, ht => by
    unfold strOb
    rw [r6_round, cond_ne (by simp <;> omega)]
    simp only [rowsR, List.append_nil]
    rfl
  | q + 1, j, ⟨b, e⟩, o, wr, hj, ht => by
    unfold strOb
    rw [r6_round, cond_eq (by simp <;> omega), cond_eq (decide_eq_true (by simp only [List.length_cons, List.length_nil]; omega)), wrap_i64 (n := (j : Int) + 1) (by omega) (by omega), show ((j : Int) + 1) = ((j + 1 : Nat) : Int) by omega, r6_loop s z t m hm S k q (j + 1) _ _ _ (by omega) (by simp [ht])]
    rw [rep_more]
    simp only [rowsR, List.append_assoc, List.singleton_append]
    rfl
theorem tdr_ok : Con PR A n_ref06_Decode (pureC tdF) := by
  refine pureC_ok fun args v hv ha S => ?_
  unfold tdF at hv
  split at hv
  · rename_i b
    obtain ⟨h1, hv2⟩ := Tr.br_no hv
    cases hv2
    simp only [decide_eq_true_eq] at h1
    have h : body PR (cfE [refCutE, rnE, rrwE, rendE, t6E]) cfgT lfR6 n_ref06_Decode [.slice (.int .u8) b .view] S some =
      (bif decide (b.length ≤ 140737488355328) then
        bif true && decide (0 ≤ (t3 (cutB b)).2) && (decide ((t3 (cutB b)).2 ≤ 8) && true) then
          bif !crcOK b then some (.tuple [conA 0 [] [], .int .i64 60], outer (app (repApp (t3 (cutB b)).2.toNat [(0, 1), (0, 2), (0, 3)]) [(0, 2), (0, 1), (0, 2), (0, 1), (0, 2), (0, 2)]), S)
          else bif endR (t4 (cutB b)).1 != 0 then some (.tuple [conA 0 [] [], .int .i64 60], outer (app (repApp (t3 (cutB b)).2.toNat [(0, 1), (0, 2), (0, 3)]) [(0, 2), (0, 1), (0, 2), (0, 1), (0, 2), (0, 2)]), S)
          else bif !termR (t1 (cutB b)).2 (t2 (cutB b)).2 (t4 (cutB b)).2 then some (.tuple [conA 0 [] [], .int .i64 60], outer (app (repApp (t3 (cutB b)).2.toNat [(0, 1), (0, 2), (0, 3)]) [(0, 2), (0, 1), (0, 2), (0, 1), (0, 2), (0, 2)]), S)
          else some (.tuple [conA (t1 (cutB b)).2 (t2 (cutB b)).2 (t4 (cutB b)).2, .int .i64 0], outer (app (repApp (t3 (cutB b)).2.toNat [(0, 1), (0, 2), (0, 3)]) [(0, 2), (0, 1), (0, 2), (0, 1), (0, 2), (0, 2)]), S)
        else none else none) := by kernel_rfl
    refine fun_call _ mixed (by kernel_rfl) (by kernel_rfl) ?_ (h.trans ?_)
    · refine one_loop (p := 4090) rfl (by kernel_rfl) (loopT_ok (by decide) fun vs H wr ex vs' H' w hv ha hh => ?_)
      split at hv
      · rename_i z m i t s o b e S
        obtain ⟨hc, hv2⟩ := Tr.br_no hv
        clear hv
        simp only [Bool.and_eq_true, decide_eq_true_eq] at hc
        obtain ⟨⟨rfl, h0⟩, h8, ho⟩ := hc
        cases hv2
        refine ⟨m.toNat + 1, fun k => ?_⟩
        have := r6_loop s z t m h8 S k m.toNat 0 ⟨b, e⟩ o wr (by omega) ho
        rw [List.eq_nil_of_length_eq_zero ho] at this ⊢
        exact this
      · cases hv
    · have g0 : 0 ≤ (t3 (cutB b)).2 := numR_nonneg _ _
      have g8 : (t3 (cutB b)).2 ≤ 8 := numR_le (by decide)
      rw [cond_eq (decide_eq_true h1), decide_eq_true g0, decide_eq_true g8, outer_app0 _ _ (all0_rep rfl _)]
      unfold tdV tdT tdS tdH tdE tdOK
      have ha : dA b = cutB b := rfl
      rw [ha]
      cases crcOK b with
      | false => rfl
      | true =>
        cases (endR (t4 (cutB b)).1 != 0) with
        | true => rfl
        | false => cases termR (t1 (cutB b)).2 (t2 (cutB b)).2 (t4 (cutB b)).2 <;> rfl
  · cases hv
def tdrE : Ent PR A := ⟨n_ref06_Decode, _, tdr_ok⟩
/-! ### The same -/
def lfS6 : Nat → Option LoopSum := lfOf [(58, loopT [2, 3, 5] [4] fun vs H => match vs, H with
  | [.ptr 0 0 0, .ptr 0 1 0, .int .i64 i], [.cells [.int .i64 t, .slice (.int .i64) s .view, .slice (.slice (.int .i64)) a .view], .cells [.int .i64 t2, .slice (.int .i64) s2 .view, .slice (.slice (.int .i64)) b .view]] :: S =>
    .br (decide (i = 0) && decide (a.length = b.length)) (.br (a == b) (.yes (.exit 0, [.undef], [.cells [.int .i64 t, .slice (.int .i64) s .view, .slice (.slice (.int .i64)) a .view], .cells [.int .i64 t2, .slice (.int .i64) s2 .view, .slice (.slice (.int .i64)) b .view]] :: S, [])) (.yes (.ret, [.bool false], [.cells [.int .i64 t, .slice (.int .i64) s .view, .slice (.slice (.int .i64)) a .view], .cells [.int .i64 t2, .slice (.int .i64) s2 .view, .slice (.slice (.int .i64)) b .view]] :: S, []))) .no
  | _, _ => .no)]
theorem s6_loops : ∀ x ∈ funLoops PR n_ref06_Same, ∀ L, lfS6 x.1 = some L → LoopOK (ntm PR n_ref06_Same) (fun fr H wr k => code PR (cfE [reE]) cfgT lfS6 (cfgT.live n_ref06_Same) x.2 (2 * x.1) fr H wr k) L := by
  refine one_loop (p := 58) rfl (by kernel_rfl) (loopT_ok (by decide) fun vs H wr ex vs' H' w hv ha hh => ?_)
  split at hv
  · rename_i i t s a t2 s2 b S
    obtain ⟨hc, hv2⟩ := Tr.br_no hv
    clear hv
    simp only [Bool.and_eq_true, decide_eq_true_eq] at hc
    obtain ⟨rfl, hl⟩ := hc
    have hmax : a.length ≤ maxInt := by
      have := hh 0 0 _ rfl
      simp only [okAVs, okAV] at this
      exact this.2.2.1.1
    refine ⟨a.length + 1, fun k => ?_⟩
    have := eq_loop (F := fun N i => LC PR (cfE [reE]) cfgT lfS6 n_ref06_Same 0 58 [2, 3, 5] [4] N [.ptr 0 0 0, .ptr 0 1 0, .int .i64 i] ([.cells [.int .i64 t, .slice (.int .i64) s .view, .slice (.slice (.int .i64)) a .view], .cells [.int .i64 t2, .slice (.int .i64) s2 .view, .slice (.slice (.int .i64)) b .view]] :: S) wr k)
      (xs := a) (ys := b) (R := k .ret [.bool false] ([.cells [.int .i64 t, .slice (.int .i64) s .view, .slice (.slice (.int .i64)) a .view], .cells [.int .i64 t2, .slice (.int .i64) s2 .view, .slice (.slice (.int .i64)) b .view]] :: S) wr) (E := k (.exit 0) [.undef] ([.cells [.int .i64 t, .slice (.int .i64) s .view, .slice (.slice (.int .i64)) a .view], .cells [.int .i64 t2, .slice (.int .i64) s2 .view, .slice (.slice (.int .i64)) b .view]] :: S) wr) rfl hl hmax (fun N i => by kernel_rfl) a.length 0 (by omega)
    rw [List.drop_zero, List.drop_zero] at this
    rcases Tr.br_or hv2 with ⟨he, h4⟩ | ⟨he, h4⟩
    · cases h4; rw [he] at this; exact this
    · cases h4; rw [he] at this; exact this
  · cases hv
theorem tsr_ok : Con PR A n_ref06_Same (pureC tsF) := by
  refine pure_con (cfg := cfgT) (lf := lfS6) [reE] mixed (by kernel_rfl) (by kernel_rfl) s6_loops fun args v hv ha S => ?_
  unfold tsF at hv
  split at hv
  · rename_i t s sh t2 s2 sh2
    cases hv
    have h : body PR (cfE [reE]) cfgT lfS6 n_ref06_Same [conA t s sh, conA t2 s2 sh2] S some =
      (bif t != t2 then some (.bool false, [], S) else bif !(s == s2) then some (.bool false, [], S) else bif (sh.length : Int) != (sh2.length : Int) then some (.bool false, [], S)
      else bif true && decide (sh.length = sh2.length) then (bif sh == sh2 then some (.bool true, [], S) else some (.bool false, [], S)) else none) := by kernel_rfl
    refine h.trans ?_
    rw [bne]
    cases t == t2 with
    | false => rfl
    | true =>
      cases s == s2 with
      | false => rfl
      | true =>
        by_cases hl : sh.length = sh2.length
        · rw [show ((sh.length : Int) != (sh2.length : Int)) = false by simp [hl], decide_eq_true hl]
          cases sh == sh2 <;> rfl
        · rw [show ((sh.length : Int) != (sh2.length : Int)) = true by simp; omega, ne_len hl]; rfl
  · cases hv
def tsrE : Ent PR A := ⟨n_ref06_Same, _, tsr_ok⟩
end Go.Crc
