/- Contracts of functions of this program. Conditions: none. -/
import Derived.Test.YtpmmjgkfhbjmcaaWf
import Derived.Test.YtpmmjgkfhbjmcaaVp
import Derived.Test.YtpmmjgkfhbjmcaaWb
set_option linter.unusedVariables false
set_option linter.unusedSimpArgs false
/- The laws of records. Conditions: none. A text of this seat's numbers. -/
set_option linter.unusedVariables false
set_option linter.unusedSimpArgs false
set_option maxRecDepth 100000
namespace Go.Crc
open Go.Vm Go.Pack Go.Rec
def aliveF : List AV → Tr AV
  | [] => .yes (.bool true)
  | _ => .no
theorem alive_ok : Con PR A n_law_alive (pureC aliveF) := by
  refine pure_con0 (cfg := cfgT) [encE', decE, samerE, hasE, lessE] mixed (by kernel_rfl) (by kernel_rfl) (by kernel_rfl) fun args v hv ha S => ?_
  unfold aliveF at hv
  split at hv
  · cases hv
    have h : body PR (cfE [encE', decE, samerE, hasE, lessE]) cfgT lf0 n_law_alive [] S some = some (.bool true, [], S) := by kernel_rfl
    exact h
  · cases hv
def aliveE : Ent PR A := ⟨n_law_alive, _, alive_ok⟩
noncomputable def E1 : List (Ent PR A) := [encE', rencE, aliveE, rrE, rdrE, decE, rdecE, sameE, samerE, hasE, hasrE, lessE, lessrE, tagE, tagrE, reE]
abbrev seqA (a b : Int) : AV := .agg [.int .i64 a, .int .i64 b]
theorem writes_eq (c n : Int) (t d : List Int) : body PR (cfE E1) cfgT lf0 n_law_RecordWrites [rec4 c n t d] [] some = some (.bool true, [], []) := by
  have h : body PR (cfE E1) cfgT lf0 n_law_RecordWrites [rec4 c n t d] [] some =
    (bif encB c n t d == encB c n t d then bif encE c n t d == encE c n t d then some (.bool (rightR c n t d == rightR c n t d), [], []) else some (.bool false, [], []) else some (.bool false, [], [])) := by kernel_rfl
  rw [h, beq_self_eq_true, beq_self_eq_true, beq_self_eq_true]; rfl
theorem reads_eq (b : List Int) : body PR (cfE E1) cfgT lf0 n_law_RecordReads [.slice (.int .u8) b .view] [] some = some (.bool true, [], []) := by
  have h : body PR (cfE E1) cfgT lf0 n_law_RecordReads [.slice (.int .u8) b .view] [] some =
    (bif decide ((b.length : Int) > 20000) then some (.bool true, [], [])
    else bif decide (b.length ≤ 140737488355328) then bif decide (b.length ≤ 140737488355328) then
      bif sameB (decC b) (decN b) (decT b) (decD b) (decC b) (decN b) (decT b) (decD b) then some (.bool (decErr b == decErr b), [], []) else some (.bool false, [], []) else none else none) := by kernel_rfl
  rw [h]
  by_cases hb : (b.length : Int) > 20000
  · rw [decide_eq_true hb]; rfl
  · rw [decide_eq_false hb, decide_eq_true (show b.length ≤ 140737488355328 by omega), sameB_refl, beq_self_eq_true]; rfl
theorem order_eq (a1 a2 b1 b2 c1 c2 : Int) : body PR (cfE E1) cfgT lf0 n_law_RecordOrder [seqA a1 a2, seqA b1 b2, seqA c1 c2] [] some = some (.bool true, [], []) := by
  have h : body PR (cfE E1) cfgT lf0 n_law_RecordOrder [seqA a1 a2, seqA b1 b2, seqA c1 c2] [] some =
    (bif !lessB a1 a2 b1 b2 == lessB a1 a2 b1 b2 then some (AV.bool false, [], [])
  else
    bif lessB a1 a2 b1 b2 then
      bif lessB b1 b2 a1 a2 then some (AV.bool false, [], [])
      else
        bif !lessB a1 a2 b1 b2 then
          bif !lessB b1 b2 a1 a2 then
            bif !(a1 == b1 && (a2 == b2 && true)) then some (AV.bool false, [], [])
            else
              bif !lessB a1 a2 a1 a2 then
                bif !lessB a1 a2 b1 b2 then some (AV.bool true, [], [])
                else
                  bif !lessB b1 b2 c1 c2 then some (AV.bool true, [], [])
                  else some (AV.bool (lessB a1 a2 c1 c2), [], [])
              else some (AV.bool false, [], [])
          else
            bif !lessB a1 a2 a1 a2 then
              bif !lessB a1 a2 b1 b2 then some (AV.bool true, [], [])
              else
                bif !lessB b1 b2 c1 c2 then some (AV.bool true, [], []) else some (AV.bool (lessB a1 a2 c1 c2), [], [])
            else some (AV.bool false, [], [])
        else
          bif !lessB a1 a2 a1 a2 then
            bif !lessB a1 a2 b1 b2 then some (AV.bool true, [], [])
            else bif !lessB b1 b2 c1 c2 then some (AV.bool true, [], []) else some (AV.bool (lessB a1 a2 c1 c2), [], [])
          else some (AV.bool false, [], [])
    else
      bif !lessB a1 a2 b1 b2 then
        bif !lessB b1 b2 a1 a2 then
          bif !(a1 == b1 && (a2 == b2 && true)) then some (AV.bool false, [], [])
          else
            bif !lessB a1 a2 a1 a2 then
              bif !lessB a1 a2 b1 b2 then some (AV.bool true, [], [])
              else
                bif !lessB b1 b2 c1 c2 then some (AV.bool true, [], []) else some (AV.bool (lessB a1 a2 c1 c2), [], [])
            else some (AV.bool false, [], [])
        else
          bif !lessB a1 a2 a1 a2 then
            bif !lessB a1 a2 b1 b2 then some (AV.bool true, [], [])
            else bif !lessB b1 b2 c1 c2 then some (AV.bool true, [], []) else some (AV.bool (lessB a1 a2 c1 c2), [], [])
          else some (AV.bool false, [], [])
      else
        bif !lessB a1 a2 a1 a2 then
          bif !lessB a1 a2 b1 b2 then some (AV.bool true, [], [])
          else bif !lessB b1 b2 c1 c2 then some (AV.bool true, [], []) else some (AV.bool (lessB a1 a2 c1 c2), [], [])
        else some (AV.bool false, [], [])) := by kernel_rfl
  rw [h]
  have hs : lessB a1 a2 a1 a2 = false := by
    rw [Bool.eq_false_iff]; intro hh
    rcases lessB_iff.1 hh with h | h <;> omega
  have he : ∀ {x y : Int}, x = y → (x == y) = true := fun h => by simpa using h
  rw [hs]
  cases hab : lessB a1 a2 b1 b2 with
  | true =>
    have hba : lessB b1 b2 a1 a2 = false := by
      rw [Bool.eq_false_iff]; intro hh
      rcases lessB_iff.1 hh with h | h <;> rcases lessB_iff.1 hab with g | g <;> omega
    rw [hba]
    cases hbc : lessB b1 b2 c1 c2 with
    | false => rfl
    | true =>
      have : lessB a1 a2 c1 c2 = true := by
        apply lessB_iff.2
        rcases lessB_iff.1 hbc with h | h <;> rcases lessB_iff.1 hab with g | g <;> omega
      rw [this]; rfl
  | false =>
    cases hba : lessB b1 b2 a1 a2 with
    | true => rfl
    | false =>
      have e1 : a1 = b1 ∧ a2 = b2 := by
        rw [Bool.eq_false_iff] at hab hba
        have g1 : ¬ _ := fun hh => hab (lessB_iff.2 hh)
        have g2 : ¬ _ := fun hh => hba (lessB_iff.2 hh)
        omega
      rw [he e1.1, he e1.2]; rfl
theorem encE_zero {c n : Int} {t d : List Int} (h : encE c n t d = 0) : rightR c n t d = true := by
  unfold encE at h
  cases hr : rightR c n t d with
  | true => rfl
  | false => rw [hr] at h; cases h
theorem encB_right {c n : Int} {t d : List Int} (h : rightR c n t d = true) : encB c n t d = crcPut (textR' c n t d) := by unfold encB; rw [h]; rfl
theorem unlike_eq (c n : Int) (t d : List Int) (c2 n2 : Int) (t2 d2 : List Int) : body PR (cfE E1) cfgT lf0 n_law_RecordUnlike [rec4 c n t d, rec4 c2 n2 t2 d2] [] some = some (.bool true, [], []) := by
  have h : body PR (cfE E1) cfgT lf0 n_law_RecordUnlike [rec4 c n t d, rec4 c2 n2 t2 d2] [] some =
    (bif encE c n t d != 0 then some (AV.bool true, [], [])
    else bif encE c2 n2 t2 d2 != 0 then some (AV.bool true, [], [])
    else some (AV.bool ((encB c n t d == encB c2 n2 t2 d2) == sameB c n t d c2 n2 t2 d2), [], [])) := by kernel_rfl
  rw [h]
  by_cases h1 : encE c n t d = 0
  · by_cases h2 : encE c2 n2 t2 d2 = 0
    · rw [h1, h2]
      have r1 := encE_zero h1
      have r2 := encE_zero h2
      have : (encB c n t d == encB c2 n2 t2 d2) = sameB c n t d c2 n2 t2 d2 := by
        rw [Bool.eq_iff_iff, beq_iff_eq, sameB_iff]
        constructor
        · intro e
          rw [encB_right r1, encB_right r2] at e
          obtain ⟨_, a1, a2, a3, a4⟩ := dec_enc r1
          obtain ⟨_, b1, b2, b3, b4⟩ := dec_enc r2
          simp only [e] at a1 a2 a3 a4
          exact ⟨a1.symm.trans b1, a2.symm.trans b2, a3.symm.trans b3, a4.symm.trans b4⟩
        · rintro ⟨rfl, rfl, rfl, rfl⟩; rfl
      rw [this, beq_self_eq_true]; rfl
    · rw [h1, show (encE c2 n2 t2 d2 != 0) = true by simpa using h2]; rfl
  · rw [show (encE c n t d != 0) = true by simpa using h1]; rfl
def backTail (b : List Int) : Option Res :=
  bif decide ((b.length : Int) > 20000) then some (AV.bool true, [], [])
  else bif decide (b.length ≤ 140737488355328) then
    bif decErr b != 0 then some (AV.bool (sameB (decC b) (decN b) (decT b) (decD b) 0 0 [] []), [], [])
    else bif encE (decC b) (decN b) (decT b) (decD b) == 0 then some (AV.bool (encB (decC b) (decN b) (decT b) (decD b) == b), [], [])
    else some (AV.bool false, [], [])
  else none
theorem backTail_eq {b : List Int} (hb : isBytes b) : backTail b = some (.bool true, [], []) := by
  unfold backTail
  by_cases h1 : (b.length : Int) > 20000
  · rw [decide_eq_true h1]; rfl
  · rw [decide_eq_false h1, decide_eq_true (show b.length ≤ 140737488355328 by omega)]
    by_cases h2 : decErr b = 0
    · obtain ⟨g1, g2⟩ := enc_dec hb h2
      rw [h2, encB_right g1, g2, beq_self_eq_true]
      unfold encE
      rw [g1]; rfl
    · obtain ⟨g1, g2, g3, g4⟩ := dec_zero h2
      rw [show (decErr b != 0) = true by simpa using h2, g1, g2, g3, g4]; rfl
theorem back_eq (c n : Int) (t d b : List Int) (hb : isBytes b) : body PR (cfE E1) cfgT lf0 n_law_RecordBack [rec4 c n t d, .slice (.int .u8) b .view] [] some = some (.bool true, [], []) := by
  have h : body PR (cfE E1) cfgT lf0 n_law_RecordBack [rec4 c n t d, .slice (.int .u8) b .view] [] some =
    (bif encE c n t d == 0 then
      bif decide ((encB c n t d).length ≤ 140737488355328) then
        bif decErr (encB c n t d) != 0 then some (AV.bool false, [], [])
        else bif !sameB c n t d (decC (encB c n t d)) (decN (encB c n t d)) (decT (encB c n t d)) (decD (encB c n t d)) then some (AV.bool false, [], [])
        else backTail b
      else none
    else backTail b) := by kernel_rfl
  rw [h, backTail_eq hb]
  by_cases h1 : encE c n t d = 0
  · have r1 := encE_zero h1
    have hl := text_len r1
    have hp : (crcPut (textR' c n t d)).length = (textR' c n t d).length + 4 := by unfold crcPut; rw [List.length_append]; rfl
    obtain ⟨g1, g2, g3, g4, g5⟩ := dec_enc r1
    rw [h1, encB_right r1, decide_eq_true (show (crcPut (textR' c n t d)).length ≤ 140737488355328 by omega), g1, g2, g3, g4, g5, sameB_refl]; rfl
  · rw [show (encE c n t d == 0) = false by simpa using h1]; rfl
/-! ### Parts -/
def lfPa : Nat → Option LoopSum := lfOf [(250, loopT [0, 7, 8, 32, 33, 34] [7, 8] fun vs H => match vs, H with
  | [.slice (.pair (.pair (.int .i64) (.int .i64)) (.pair (.slice (.int .i64)) .str)) a .view, .slice (.int .i64) all .own, .slice (.int .i64) want .own, .slice (.int .i64) o .own, .int .i64 m, .int .i64 i], [] :: S =>
    .br (decide (m = o.length) && decide (i = 0) && decide ((want.length + o.length) * 8 ≤ 140737488355328)) (.yes (.exit 0, [.slice (.int .i64) all .own, .slice (.int .i64) (want ++ o.map fun x => IntKind.i64.wrap ((a.length : Int) + x)) .own], [] :: S, [])) .no
  | _, _ => .no)]
def paStep (a : List Rc) (i : Int) (x : Int) (s : List Int) (k : List Int → Option Res) : Option Res :=
  bif decide ((s.length + [IntKind.i64.wrap ((a.length : Int) + x)].length) * 8 ≤ 140737488355328) then k (s ++ [IntKind.i64.wrap ((a.length : Int) + x)]) else none
theorem pa_fold (a : List Rc) (E : List Int → Option Res) : ∀ (o : List Int) (j : Nat) (want : List Int), (want.length + o.length) * 8 ≤ 140737488355328 →
    foldK (paStep a) E j o want = E (want ++ o.map fun x => IntKind.i64.wrap ((a.length : Int) + x))
  | [], j, want, h => by simp [foldK]
  | x :: o, j, want, h => by
    simp only [List.length_cons] at h
    rw [show foldK (paStep a) E j (x :: o) want = (bif decide ((want.length + [IntKind.i64.wrap ((a.length : Int) + x)].length) * 8 ≤ 140737488355328) then foldK (paStep a) E (j + 1) o (want ++ [IntKind.i64.wrap ((a.length : Int) + x)]) else none) from rfl,
      cond_eq (decide_eq_true (by simp only [List.length_cons, List.length_nil]; omega)), pa_fold a E o (j + 1) _ (by rw [List.length_append]; simp only [List.length_cons, List.length_nil]; omega)]
    simp
theorem pa_loops : ∀ x ∈ funLoops PR n_law_RecordParts, ∀ L, lfPa x.1 = some L → LoopOK (ntm PR n_law_RecordParts) (fun fr H wr k => code PR (cfE E1) cfgT lfPa (cfgT.live n_law_RecordParts) x.2 (2 * x.1) fr H wr k) L := by
  refine one_loop (p := 250) rfl (by kernel_rfl) (loopT_ok (by decide) fun vs H wr ex vs' H' w hv ha hh => ?_)
  split at hv
  · rename_i a all want o m i S
    obtain ⟨hc, hv2⟩ := Tr.br_no hv
    clear hv
    simp only [Bool.and_eq_true, decide_eq_true_eq] at hc
    obtain ⟨⟨hm, rfl⟩, hl⟩ := hc
    cases hv2
    refine ⟨o.length + 1, fun k => ?_⟩
    have := fold_loop (F := fun N i s => LC PR (cfE E1) cfgT lfPa n_law_RecordParts 0 250 [0, 7, 8, 32, 33, 34] [7, 8] N [.slice RecT a .view, .slice (.int .i64) all .own, .slice (.int .i64) s .own, .slice (.int .i64) o .own, .int .i64 m, .int .i64 i] ([] :: S) wr k)
      (xs := o) (step := paStep a) (E := fun s => k (.exit 0) [.slice (.int .i64) all .own, .slice (.int .i64) s .own] ([] :: S) wr) hm (by simp only [maxInt]; omega) (fun N i s => by kernel_rfl) o.length 0 want (by omega)
    rw [List.drop_zero, pa_fold a _ o 0 want hl] at this
    exact this
  · cases hv
theorem parts_eq (a b : List Rc) (tag : Int) : body PR (cfE E1) cfgT lfPa n_law_RecordParts [.slice RecT a .view, .slice RecT b .view, .int .i64 tag] [] some = some (.bool true, [], []) := by
  have h : body PR (cfE E1) cfgT lfPa n_law_RecordParts [.slice RecT a .view, .slice RecT b .view, .int .i64 tag] [] some =
    (bif decide ((a.length : Int) > 100) then some (AV.bool true, [], [])
    else bif decide ((b.length : Int) > 100) then some (AV.bool true, [], [])
    else bif decide ((0 + a.length) * 56 ≤ 140737488355328) then bif decide ((([] ++ a).length + b.length) * 56 ≤ 140737488355328) then
      bif decide (([] ++ a ++ b).length * 8 ≤ 140737488355328) then bif decide (a.length * 8 ≤ 140737488355328) then bif decide (b.length * 8 ≤ 140737488355328) then
      bif decide (((tagI tag 0 b).length : Int) = ((tagI tag 0 b).length : Int)) && true && decide (((tagI tag 0 a).length + (tagI tag 0 b).length) * 8 ≤ 140737488355328) then
        some (AV.bool (tagI tag 0 ([] ++ a ++ b) == tagI tag 0 a ++ List.map (fun x => IntKind.i64.wrap ((a.length : Int) + x)) (tagI tag 0 b)), [], [])
      else none else none else none else none else none else none) := by kernel_rfl
  rw [h]
  by_cases h1 : (a.length : Int) > 100
  · rw [decide_eq_true h1]; rfl
  by_cases h2 : (b.length : Int) > 100
  · rw [decide_eq_false h1, decide_eq_true h2]; rfl
  have l1 := tagI_len tag 0 a
  have l2 := tagI_len tag 0 b
  rw [decide_eq_false h1, decide_eq_false h2, tagI_parts tag (by omega) (by omega), beq_self_eq_true, cond_false, cond_false,
    cond_eq (decide_eq_true (by omega)), cond_eq (decide_eq_true (by rw [List.length_append, List.length_nil]; omega)), cond_eq (decide_eq_true (by simp only [List.length_append, List.length_nil]; omega)),
    cond_eq (decide_eq_true (by omega)), cond_eq (decide_eq_true (by omega)), decide_eq_true rfl, decide_eq_true (show ((tagI tag 0 a).length + (tagI tag 0 b).length) * 8 ≤ 140737488355328 by omega)]
  rfl
/-! ### Tags -/
def lfTa : Nat → Option LoopSum := lfOf [(26, loopT [0, 1, 5, 9, 10, 11] [0, 1, 6] fun vs H => match vs, H with
  | [.slice (.pair (.pair (.int .i64) (.int .i64)) (.pair (.slice (.int .i64)) .str)) l .view, .int .i64 tag, .ptr 0 0 0, .slice (.pair (.pair (.int .i64) (.int .i64)) (.pair (.slice (.int .i64)) .str)) l2 .view, .int .i64 m, .int .i64 i], [.cells [.int .i64 c, .int .i64 n, .slice (.int .i64) t .view, .str d]] :: S =>
    .br (decide (m = l2.length) && decide (i = 0)) (.yes (.exit 0, [.slice RecT l .view, .int .i64 tag, .undef], [recOb c n t d] :: S, repApp l2.length [(0, 1)])) .no
  | _, _ => .no)]
def taStep (R : Rc → Option Res) (tag c n : Int) (t d : List Int) (i : Int) (x : Rc) (s : Wr) (k : Wr → Option Res) : Option Res :=
  bif !hasB x.2.1 tag == hasB x.2.1 tag then R x else bif !sameB x.1.1 x.1.2 x.2.1 x.2.2 c n t d == sameB x.1.1 x.1.2 x.2.1 x.2.2 c n t d then R x
  else bif !sameB x.1.1 x.1.2 x.2.1 x.2.2 x.1.1 x.1.2 x.2.1 x.2.2 then R x else k ((0, 1) :: s)
theorem ta_fold (R : Wr → Rc → Option Res) (tag c n : Int) (t d : List Int) (E : Wr → Option Res) : ∀ (l : List Rc) (j : Nat) (s : Wr), foldK (fun i x s k => taStep (R s) tag c n t d i x s k) E j l s = E (app (repApp l.length [(0, 1)]) s)
  | [], j, s => rfl
  | x :: l, j, s => by
    have nb : ∀ b : Bool, (!b == b) = false := by decide
    rw [show foldK (fun i x s k => taStep (R s) tag c n t d i x s k) E j (x :: l) s = (bif !hasB x.2.1 tag == hasB x.2.1 tag then R s x else bif !sameB x.1.1 x.1.2 x.2.1 x.2.2 c n t d == sameB x.1.1 x.1.2 x.2.1 x.2.2 c n t d then R s x
      else bif !sameB x.1.1 x.1.2 x.2.1 x.2.2 x.1.1 x.1.2 x.2.1 x.2.2 then R s x else foldK (fun i x s k => taStep (R s) tag c n t d i x s k) E (j + 1) l ((0, 1) :: s)) from rfl, nb, nb, sameB_refl, ta_fold R tag c n t d E l (j + 1)]
    rw [List.length_cons, rep_more]
    rfl
theorem ta_loops : ∀ x ∈ funLoops PR n_law_RecordTags, ∀ L, lfTa x.1 = some L → LoopOK (ntm PR n_law_RecordTags) (fun fr H wr k => code PR (cfE E1) cfgT lfTa (cfgT.live n_law_RecordTags) x.2 (2 * x.1) fr H wr k) L := by
  refine one_loop (p := 26) rfl (by kernel_rfl) (loopT_ok (by decide) fun vs H wr ex vs' H' w hv ha hh => ?_)
  split at hv
  · rename_i l tag l2 m i c n t d S
    obtain ⟨hc, hv2⟩ := Tr.br_no hv
    clear hv
    simp only [Bool.and_eq_true, decide_eq_true_eq] at hc
    obtain ⟨hm, rfl⟩ := hc
    cases hv2
    have hmax : l2.length ≤ maxInt := by simp only [okAVs, okAV] at ha; exact ha.2.2.2.1.1
    refine ⟨l2.length + 1, fun k => ?_⟩
    have := fold_loop (F := fun N i s => LC PR (cfE E1) cfgT lfTa n_law_RecordTags 0 26 [0, 1, 5, 9, 10, 11] [0, 1, 6] N [.slice RecT l .view, .int .i64 tag, .ptr 0 0 0, .slice RecT l2 .view, .int .i64 m, .int .i64 i] ([recOb c n t d] :: S) s k)
      (xs := l2) (step := fun i x s k' => taStep (fun x => k .ret [.slice RecT l .view, .int .i64 tag, .bool false] ([recOb c n t d, recOb x.1.1 x.1.2 x.2.1 x.2.2] :: S) ((0, 1) :: s)) tag c n t d i x s k') (E := fun s => k (.exit 0) [.slice RecT l .view, .int .i64 tag, .undef] ([recOb c n t d] :: S) s) hm hmax (fun N i s => by kernel_rfl) l2.length 0 wr (by omega)
    rw [List.drop_zero, ta_fold (fun s x => k .ret [.slice RecT l .view, .int .i64 tag, .bool false] ([recOb c n t d, recOb x.1.1 x.1.2 x.2.1 x.2.2] :: S) ((0, 1) :: s))] at this
    exact this
  · cases hv
theorem tags_eq (l : List Rc) (tag c n : Int) (t d : List Int) (hl : l.length * 8 ≤ 140737488355328) : body PR (cfE E1) cfgT lfTa n_law_RecordTags [.slice RecT l .view, .int .i64 tag, rec4 c n t d] [] some = some (.bool true, [], []) := by
  have h : body PR (cfE E1) cfgT lfTa n_law_RecordTags [.slice RecT l .view, .int .i64 tag, rec4 c n t d] [] some =
    (bif decide ((l.length : Int) = (l.length : Int)) && true then
      bif decide (l.length * 8 ≤ 140737488355328) then bif decide (l.length * 8 ≤ 140737488355328) then
      bif tagI tag 0 l == tagI tag 0 l then bif decide (l.length * 8 ≤ 140737488355328) then
        some (AV.bool (((tagI 0 0 l).length : Int) == (l.length : Int)), outer (app (repApp l.length [(0, 1)]) []), [])
      else none else some (AV.bool false, outer (app (repApp l.length [(0, 1)]) []), []) else none else none else none) := by kernel_rfl
  rw [h, decide_eq_true rfl, decide_eq_true hl, beq_self_eq_true, tagI_zero, beq_self_eq_true, outer_app0 _ _ (all0_rep rfl _)]
  rfl
theorem sz_bytes {b : List Int} (h : Sz (.slice (.int .u8)) b) : isBytes b := fun x hx => by
  have := h.2 x hx
  simpa [Sz, IntKind.min, IntKind.max, IntKind.signed, IntKind.bits] using this
theorem sz_recs {l : List Rc} (h : Sz (.slice RecT) l) : l.length * 8 ≤ 140737488355328 := by
  have h1 := h.1
  have h2 : Ty.bts RecT = 56 := rfl
  have h3 : reachBytes ≤ 140737488355328 := by decide
  rw [h2] at h1
  omega
end Go.Crc

/- Records that are turned in a byte. Conditions: none. A text of this seat's numbers. -/
set_option linter.unusedVariables false
set_option linter.unusedSimpArgs false
set_option maxRecDepth 100000
namespace Go.Crc
open Go.Vm Go.Pack Go.Rec
def encMF : List AV → Tr AV
  | [.agg [.int .i64 c, .int .i64 n, .slice (.int .i64) t .view, .str d]] =>
    .br (rightR c n t d) (.yes (.tuple [.slice (.int .u8) (crcPut (textR' c n t d)) .mine, .int .i64 0])) (.yes (.tuple [.slice (.int .u8) [] .own, .int .i64 40]))
  | _ => .no
theorem encM_ok : Con PR A n_record_Encode (pureC encMF) := by
  refine pureC_ok fun args v hv ha S => ?_
  unfold encMF at hv
  split at hv
  · rename_i c n t d
    have h : body PR (cfE [rrE, pnumE, ptextE, newE, putME]) cfgE (fun _ => none) n_record_Encode [rec4 c n t d] S some =
      (bif !(rightR c n t d) then some (.tuple [.slice (.int .u8) [] .own, .int .i64 40], [], S)
      else bif decide ((bif okAll [c, n, (t.length : Int)] then [] ++ nums [c, n, (t.length : Int)] else []).length + 10 * t.length ≤ 140737488355328) then
        bif decide ((bif okAll t then (bif okAll [c, n, (t.length : Int)] then [] ++ nums [c, n, (t.length : Int)] else []) ++ nums t else (bif okAll [c, n, (t.length : Int)] then [] ++ nums [c, n, (t.length : Int)] else [])).length ≤ 100000000) then
        bif decide ((bif decide ((d.length : Int) > 65536) then (bif okAll t then (bif okAll [c, n, (t.length : Int)] then [] ++ nums [c, n, (t.length : Int)] else []) ++ nums t else (bif okAll [c, n, (t.length : Int)] then [] ++ nums [c, n, (t.length : Int)] else [])) else (bif okAll t then (bif okAll [c, n, (t.length : Int)] then [] ++ nums [c, n, (t.length : Int)] else []) ++ nums t else (bif okAll [c, n, (t.length : Int)] then [] ++ nums [c, n, (t.length : Int)] else [])) ++ num d.length ++ d).length + 4 ≤ 140737488355328) then
          some (.tuple [.slice (.int .u8) (crcPut (bif decide ((d.length : Int) > 65536) then (bif okAll t then (bif okAll [c, n, (t.length : Int)] then [] ++ nums [c, n, (t.length : Int)] else []) ++ nums t else (bif okAll [c, n, (t.length : Int)] then [] ++ nums [c, n, (t.length : Int)] else [])) else (bif okAll t then (bif okAll [c, n, (t.length : Int)] then [] ++ nums [c, n, (t.length : Int)] else []) ++ nums t else (bif okAll [c, n, (t.length : Int)] then [] ++ nums [c, n, (t.length : Int)] else [])) ++ num d.length ++ d)) .mine, .int .i64 0], [], S)
        else none else none else none) := by kernel_rfl
    refine fun_call _ mixed (by kernel_rfl) (by kernel_rfl) (no_loops (by kernel_rfl)) (h.trans ?_)
    rcases Tr.br_or hv with ⟨hr, h4⟩ | ⟨hr, h4⟩
    · cases h4
      rw [hr]
      obtain ⟨h1, h2, h3, h4, h5⟩ := rightR_iff.1 hr
      have k1 : okAll [c, n, (t.length : Int)] = true := by
        simp only [okAll, mayB_ok h1, mayB_ok h2, small_ok (show t.length ≤ 100000 by omega)]; rfl
      have k2 : okAll t = true := tagsB_ok t 0 (by omega) h5
      have k3 : decide ((d.length : Int) > 65536) = false := decide_eq_false (by omega)
      have k4 : ([] ++ nums [c, n, (t.length : Int)]) ++ nums t ++ num d.length ++ d = textR' c n t d := by
        unfold textR'
        simp only [nums, List.nil_append, List.append_nil, List.append_assoc]
      have k5 := text_len hr
      have k6 := nums_len [c, n, (t.length : Int)]
      have k7 := nums_len t
      rw [k1, k2, k3]
      simp only [cond_true, cond_false, Bool.not_true]
      rw [cond_eq (decide_eq_true (by simp only [List.length_append, List.length_nil, List.length_cons] at *; omega)), cond_eq (decide_eq_true (by simp only [List.length_append, List.length_nil, List.length_cons] at *; omega)), cond_eq (decide_eq_true (by rw [k4]; omega)), k4]
    · cases h4
      rw [hr]
      rfl
  · cases hv
def encME : Ent PR A := ⟨n_record_Encode, _, encM_ok⟩
noncomputable def EB : List (Ent PR A) := [encME, aliveE, decE, samerE]
def stB : List StoreAt := [⟨30, 27, 5, 7, 37, 38, 43, 44⟩]
theorem rec_bytes {c n : Int} {t d : List Int} (hd : isBytes d) : isBytes (textR' c n t d) := by
  unfold textR'
  exact app_bytes (num_bytes _) (app_bytes (num_bytes _) (app_bytes (num_bytes _) (app_bytes (nums_bytes _) (app_bytes (num_bytes _) hd))))
theorem turned_eq (c n : Int) (t d : List Int) (at_ turn : Int) (hd : isBytes d) : bodyL PR (cfE EB) cfgT (fun _ => none) (estL PR (cfE EB) cfgT n_law_RecordTurned (nthD (up.ups [rec4 c n t d, .int .i64 at_, .int .i64 turn])) [] stB) n_law_RecordTurned [rec4 c n t d, .int .i64 at_, .int .i64 turn] = some (.bool true, [], []) := by
  have h : bodyL PR (cfE EB) cfgT (fun _ => none) (estL PR (cfE EB) cfgT n_law_RecordTurned (nthD (up.ups [rec4 c n t d, .int .i64 at_, .int .i64 turn])) [] stB) n_law_RecordTurned [rec4 c n t d, .int .i64 at_, .int .i64 turn] =
    (bif rightR c n t d then
        bif decide (at_ < 0) then some (.bool true, [], []) else bif decide (at_ ≥ ((crcPut (textR' c n t d)).length : Int)) then some (.bool true, [], [])
        else bif decide (turn < 1) then some (.bool true, [], []) else bif decide (turn > 255) then some (.bool true, [], [])
        else (at? (crcPut (textR' c n t d)) at_).bind fun x => bif (decide (0 ≤ at_) && decide (at_ < ((crcPut (textR' c n t d)).length : Int))) && true then
          bif decide ((setAt (crcPut (textR' c n t d)) at_.toNat (bitop .xor .u8 x (IntKind.u8.wrap turn))).length ≤ 140737488355328) then
            bif decErr (setAt (crcPut (textR' c n t d)) at_.toNat (bitop .xor .u8 x (IntKind.u8.wrap turn))) == 41 then
              some (.bool (sameB (decC (setAt (crcPut (textR' c n t d)) at_.toNat (bitop .xor .u8 x (IntKind.u8.wrap turn)))) (decN (setAt (crcPut (textR' c n t d)) at_.toNat (bitop .xor .u8 x (IntKind.u8.wrap turn)))) (decT (setAt (crcPut (textR' c n t d)) at_.toNat (bitop .xor .u8 x (IntKind.u8.wrap turn)))) (decD (setAt (crcPut (textR' c n t d)) at_.toNat (bitop .xor .u8 x (IntKind.u8.wrap turn)))) 0 0 [] []), [], [])
            else some (.bool false, [], []) else none else none
    else some (.bool true, [], [])) := by kernel_rfl
  rw [h]
  cases hr : rightR c n t d with
  | false => rfl
  | true =>
    have lt := text_len hr
    have hl : (crcPut (textR' c n t d)).length = (textR' c n t d).length + 4 := by unfold crcPut; rw [List.length_append]; rfl
    have hb : isBytes (crcPut (textR' c n t d)) := put_bytes (rec_bytes hd)
    by_cases h1 : at_ < 0
    · rw [decide_eq_true h1]; rfl
    by_cases h2 : at_ ≥ ((crcPut (textR' c n t d)).length : Int)
    · rw [decide_eq_false h1, decide_eq_true h2]; rfl
    by_cases h3 : turn < 1
    · rw [decide_eq_false h1, decide_eq_false h2, decide_eq_true h3]; rfl
    by_cases h4 : turn > 255
    · rw [decide_eq_false h1, decide_eq_false h2, decide_eq_false h3, decide_eq_true h4]; rfl
    rw [decide_eq_false h1, decide_eq_false h2, decide_eq_false h3, decide_eq_false h4]
    obtain ⟨x, hx⟩ : ∃ x, at? (crcPut (textR' c n t d)) at_ = some x := by
      unfold at?
      rw [if_pos (by omega)]
      exact ⟨_, List.getElem?_eq_getElem (by omega)⟩
    have hoff := turn_off hb (crcOK_put) (by omega) hx (t := turn) (by omega)
    have he : decErr (setAt (crcPut (textR' c n t d)) at_.toNat (bitop .xor .u8 x (IntKind.u8.wrap turn))) = 41 := by
      unfold decErr; rw [hoff]; rfl
    obtain ⟨g1, g2, g3, g4⟩ := dec_zero (b := setAt (crcPut (textR' c n t d)) at_.toNat (bitop .xor .u8 x (IntKind.u8.wrap turn))) (by rw [he]; decide)
    have hsl : (setAt (crcPut (textR' c n t d)) at_.toNat (bitop .xor .u8 x (IntKind.u8.wrap turn))).length = (crcPut (textR' c n t d)).length := by rw [setAt_eq, List.length_set]
    simp only [hx, Option.bind_some, he, g1, g2, g3, g4, decide_eq_true (show 0 ≤ at_ by omega), decide_eq_true (show at_ < ((crcPut (textR' c n t d)).length : Int) by omega), decide_eq_true (show (setAt (crcPut (textR' c n t d)) at_.toNat (bitop .xor .u8 x (IntKind.u8.wrap turn))).length ≤ 140737488355328 by omega)]
    rfl
theorem sz_str {b : List Int} (h : Sz .str b) : isBytes b := fun x hx => by
  have := h.2 x hx
  simpa [Sz] using this
end Go.Crc
