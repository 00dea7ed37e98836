/- Contracts of functions of this program. Conditions: none. -/
import Derived.Test.YtdmjiibhfgieaaaGreatWe
import Derived.Test.YtdmjiibhfgieaaaGreatVp
import Derived.Test.YtdmjiibhfgieaaaGreatWf
set_option linter.unusedVariables false
set_option linter.unusedSimpArgs false
/- Configurations: which may be, which are the same. Conditions: none. A text of this seat's numbers. -/
set_option linter.unusedVariables false
set_option linter.unusedSimpArgs false
set_option maxRecDepth 100000
namespace Go.Crc
open Go.Vm Go.Pack Go.Rec
abbrev RowT : Ty := .slice (.int .i64)
def conA (t : Int) (s : List Int) (sh : List (List Int)) : AV := .agg [.int .i64 t, .slice (.int .i64) s .view, .slice RowT sh .view]
def cfgT : Cfg := cfgOf [(n_pack_Num, [0]), (n_pack_Text, [0])] [n_pack_Num, n_pack_Text, n_crc_New, n_crc_Table_Put, n_pack_NewReader] []
def lfUn : Nat → Option LoopSum := lfOf [(58, loopT [3, 7, 8, 9] [2] fun vs H => match vs, H with
  | [.ptr 0 0 o, .slice (.int .i64) a .view, .int .i64 m, .int .i64 i], [.map ks] :: S => .br (Nat.beq o mapO && (decide (m = a.length) && decide (i = 0)))
      (.br (unlF ks a) (.yes (.exit 0, [.undef], [.map (uks ks a)] :: S, uwr ks a)) (.yes (.ret, [.bool false], [.map (uks ks a)] :: S, uwr ks a))) .no
  | _, _ => .no)]
def unStep (R : List Int × Wr → Option Res) (i x : Int) (s : List Int × Wr) (k : List Int × Wr → Option Res) : Option Res :=
  bif decide (x < 0) then R s else bif decide (x ≥ 16) then R s else bif memI x s.1 then R s else k (addI x s.1, (0, 0) :: s.2)
theorem un_fold (R E : List Int × Wr → Option Res) : ∀ (a : List Int) (j : Nat) (ks : List Int) (wr : Wr), foldK (unStep R) E j a (ks, wr) = bif unlF ks a then E (uks ks a, app (uwr ks a) wr) else R (uks ks a, app (uwr ks a) wr)
  | [], j, ks, wr => rfl
  | x :: r, j, ks, wr => by
    rw [show foldK (unStep R) E j (x :: r) (ks, wr) = (bif decide (x < 0) then R (ks, wr) else bif decide (x ≥ 16) then R (ks, wr) else bif memI x ks then R (ks, wr) else foldK (unStep R) E (j + 1) r (addI x ks, (0, 0) :: wr)) from rfl, un_fold R E r]
    simp only [unlF, uks, uwr]
    cases decide (x < 0) with
    | true => rfl
    | false =>
      cases decide (x ≥ 16) with
      | true => rfl
      | false =>
        cases memI x ks with
        | true => rfl
        | false => simp only [cond_false, app_eq, List.append_assoc, List.singleton_append]
theorem un_loops : ∀ x ∈ funLoops PR n_term_unlike, ∀ L, lfUn x.1 = some L → LoopOK (ntm PR n_term_unlike) (fun fr H wr k => code PR (cfE (P := PR) (A := A) []) cfgT lfUn (cfgT.live n_term_unlike) x.2 (2 * x.1) fr H wr k) L := by
  refine one_loop (p := 58) rfl (by kernel_rfl) (loopT_ok (by decide) fun vs H wr ex vs' H' w hv ha hh => ?_)
  split at hv
  · rename_i o a m i ks S
    obtain ⟨hc, hv2⟩ := Tr.br_no hv
    clear hv
    simp only [Bool.and_eq_true, decide_eq_true_eq, beq_iff] at hc
    obtain ⟨rfl, hm, rfl⟩ := hc
    have hmax : a.length ≤ maxInt := by simp only [okAVs, okAV] at ha; exact ha.2.1.1
    refine ⟨a.length + 1, fun k => ?_⟩
    have := fold_loop (F := fun N i (x : List Int × Wr) => LC PR (cfE (P := PR) (A := A) []) cfgT lfUn n_term_unlike 0 58 [3, 7, 8, 9] [2] N [.ptr 0 0 mapO, .slice (.int .i64) a .view, .int .i64 m, .int .i64 i] ([.map x.1] :: S) x.2 k)
      (step := unStep fun x => k .ret [.bool false] ([.map x.1] :: S) x.2) (E := fun x => k (.exit 0) [.undef] ([.map x.1] :: S) x.2) hm hmax (fun N i x => by kernel_rfl) a.length 0 (ks, wr) (by omega)
    rw [List.drop_zero, un_fold] at this
    rcases Tr.br_or hv2 with ⟨he, h4⟩ | ⟨he, h4⟩
    · cases h4; rw [he] at this; exact this
    · cases h4; rw [he] at this; exact this
  · cases hv
def unF : List AV → Tr AV
  | [.slice (.int .i64) a .view] => .yes (.bool (unl a))
  | _ => .no
theorem un_ok : Con PR A n_term_unlike (pureC unF) := by
  refine pure_con (cfg := cfgT) (lf := lfUn) [] mixed (by kernel_rfl) (by kernel_rfl) un_loops fun args v hv ha S => ?_
  unfold unF at hv
  split at hv
  · rename_i a
    cases hv
    have h : body PR (cfE (P := PR) (A := A) []) cfgT lfUn n_term_unlike [.slice (.int .i64) a .view] S some =
      (bif true && (decide ((a.length : Int) = (a.length : Int)) && true) then (bif unlF [] a then some (.bool true, outer (app (uwr [] a) []), S) else some (.bool false, outer (app (uwr [] a) []), S)) else none) := by kernel_rfl
    rw [h, decide_eq_true rfl, outer_app0 _ _ (uwr_all0 _ _)]
    unfold unl
    cases unlF [] a <;> rfl
  · cases hv
def unE : Ent PR A := ⟨n_term_unlike, _, un_ok⟩
def trbF : List AV → Tr AV
  | [.slice (.int .i64) a .view] => .yes (.bool (badRow a))
  | _ => .no
theorem trb_ok : Con PR A n_term_Right_1 (pureC trbF) := by
  refine pure_con0 (cfg := cfgT) [unE] mixed (by kernel_rfl) (by kernel_rfl) (by kernel_rfl) fun args v hv ha S => ?_
  unfold trbF at hv
  split at hv
  · rename_i a
    cases hv
    have h : body PR (cfE [unE]) cfgT lf0 n_term_Right_1 [.slice (.int .i64) a .view] S some =
      (bif decide ((a.length : Int) < 1) then some (.bool true, [], S) else bif decide ((a.length : Int) > 3) then some (.bool true, [], S) else some (.bool (!unl a), [], S)) := by kernel_rfl
    rw [h]
    unfold badRow
    cases decide ((a.length : Int) < 1) <;> cases decide ((a.length : Int) > 3) <;> rfl
  · cases hv
def trbE : Ent PR A := ⟨n_term_Right_1, _, trb_ok⟩
def lfIr : Nat → Option LoopSum := lfOf [(26, loopT [0, 1, 7, 8] [4] fun vs H => match vs, H with
  | [.slice (.slice (.int .i64)) a .view, .func f [] [], .int .i64 m, .int .i64 i], [] :: S => .br (Nat.beq f n_term_Right_1 && decide (m = a.length) && decide (i = 0)) (.br (a.any badRow) (.yes (.ret, [.int .i64 (idxG badRow a)], [] :: S, [])) (.yes (.exit 0, [.undef], [] :: S, []))) .no
  | _, _ => .no)]
theorem ir_loops : ∀ x ∈ funLoops PR n_slices_IndexFunc_int_int_rows, ∀ L, lfIr x.1 = some L → LoopOK (ntm PR n_slices_IndexFunc_int_int_rows) (fun fr H wr k => code PR (cfE [trbE]) cfgT lfIr (cfgT.live n_slices_IndexFunc_int_int_rows) x.2 (2 * x.1) fr H wr k) L := by
  refine one_loop (p := 26) rfl (by kernel_rfl) (loopT_ok (by decide) fun vs H wr ex vs' H' w hv ha hh => ?_)
  split at hv
  · rename_i a f m i S
    obtain ⟨hc, hv2⟩ := Tr.br_no hv
    clear hv
    simp only [Bool.and_eq_true, decide_eq_true_eq, beq_iff] at hc
    obtain ⟨⟨rfl, hm⟩, rfl⟩ := hc
    have hmax : a.length ≤ maxInt := by simp only [okAVs, okAV] at ha; exact ha.1.1
    refine ⟨a.length + 1, fun k => ?_⟩
    have := find_loop (F := fun N i => LC PR (cfE [trbE]) cfgT lfIr n_slices_IndexFunc_int_int_rows 0 26 [0, 1, 7, 8] [4] N [.slice (.slice (.int .i64)) a .view, .func n_term_Right_1 [] [], .int .i64 m, .int .i64 i] ([] :: S) wr k)
      (p := badRow) (R := fun i => k .ret [.int .i64 i] ([] :: S) wr) (E := k (.exit 0) [.undef] ([] :: S) wr) hm hmax (fun N i => by kernel_rfl) a.length 0 (by omega)
    rw [List.drop_zero] at this
    have hany := idxP_any badRow a 0
    rcases Tr.br_or hv2 with ⟨he, h4⟩ | ⟨he, h4⟩
    · cases h4
      unfold idxG
      rw [he] at hany
      cases hi : idxP badRow 0 a with
      | none => rw [hi] at hany; cases hany
      | some j => rw [hi] at this; exact this
    · cases h4
      rw [he] at hany
      cases hi : idxP badRow 0 a with
      | none => rw [hi] at this; exact this
      | some j => rw [hi] at hany; cases hany
  · cases hv
def irF : List AV → Tr AV
  | [.slice (.slice (.int .i64)) a .view, .func f [] []] => .br (Nat.beq f n_term_Right_1) (.yes (.int .i64 (idxG badRow a))) .no
  | _ => .no
theorem ir_ok : Con PR A n_slices_IndexFunc_int_int_rows (pureC irF) := by
  refine pure_con (cfg := cfgT) (lf := lfIr) [trbE] mixed (by kernel_rfl) (by kernel_rfl) ir_loops fun args v hv ha S => ?_
  unfold irF at hv
  split at hv
  · rename_i a f
    obtain ⟨hc, hv2⟩ := Tr.br_no hv
    cases hv2
    rw [beq_iff] at hc
    subst hc
    have h : body PR (cfE [trbE]) cfgT lfIr n_slices_IndexFunc_int_int_rows [.slice (.slice (.int .i64)) a .view, .func n_term_Right_1 [] []] S some =
      (bif true && decide ((a.length : Int) = (a.length : Int)) && true then (bif a.any badRow then some (.int .i64 (idxG badRow a), [], S) else some (.int .i64 (-1), [], S)) else none) := by kernel_rfl
    rw [h, decide_eq_true rfl]
    cases hn : a.any badRow with
    | true => rfl
    | false => rw [idxG_none hn]; rfl
  · cases hv
def irE : Ent PR A := ⟨n_slices_IndexFunc_int_int_rows, _, ir_ok⟩
def crF : List AV → Tr AV
  | [.slice (.slice (.int .i64)) a .view, .func f [] []] => .br (Nat.beq f n_term_Right_1) (.yes (.bool (a.any badRow))) .no
  | _ => .no
theorem cr_ok : Con PR A n_slices_ContainsFunc_int_int_rows (pureC crF) := by
  refine pure_con0 (cfg := cfgT) [irE] mixed (by kernel_rfl) (by kernel_rfl) (by kernel_rfl) fun args v hv ha S => ?_
  unfold crF at hv
  split at hv
  · rename_i a f
    obtain ⟨hc, hv2⟩ := Tr.br_no hv
    cases hv2
    rw [beq_iff] at hc
    subst hc
    have h : body PR (cfE [irE]) cfgT lf0 n_slices_ContainsFunc_int_int_rows [.slice (.slice (.int .i64)) a .view, .func n_term_Right_1 [] []] S some = some (.bool (decide (idxG badRow a ≥ 0)), [], S) := by kernel_rfl
    rw [h, idxG_any]
  · cases hv
def crE : Ent PR A := ⟨n_slices_ContainsFunc_int_int_rows, _, cr_ok⟩
def trF : List AV → Tr AV
  | [.agg [.int .i64 t, .slice (.int .i64) s .view, .slice (.slice (.int .i64)) sh .view]] => .yes (.bool (termR t s sh))
  | _ => .no
theorem tr_ok : Con PR A n_term_Right (pureC trF) := by
  refine pure_con0 (cfg := cfgT) [unE, crE] mixed (by kernel_rfl) (by kernel_rfl) (by kernel_rfl) fun args v hv ha S => ?_
  unfold trF at hv
  split at hv
  · rename_i t s sh
    cases hv
    have h : body PR (cfE [unE, crE]) cfgT lf0 n_term_Right [conA t s sh] S some =
      (bif decide (t < 1) then some (.bool false, [], S) else bif decide (t > 64) then some (.bool false, [], S) else bif (s.length : Int).tmod 2 == 0 then some (.bool false, [], S) else bif decide ((s.length : Int) > 7) then some (.bool false, [], S)
      else bif decide ((sh.length : Int) < 1) then some (.bool false, [], S) else bif decide ((sh.length : Int) > 8) then some (.bool false, [], S) else bif !unl s then some (.bool false, [], S) else some (.bool (!(sh.any badRow)), [], S)) := by kernel_rfl
    refine h.trans ?_
    unfold termR
    cases decide (t < 1) <;> cases decide (t > 64) <;> cases (s.length : Int).tmod 2 == 0 <;> cases decide ((s.length : Int) > 7) <;> cases decide ((sh.length : Int) < 1) <;> cases decide ((sh.length : Int) > 8) <;> cases unl s <;> rfl
  · cases hv
def trE : Ent PR A := ⟨n_term_Right, _, tr_ok⟩
def lfEf : Nat → Option LoopSum := lfOf [(58, loopT [1, 2, 15, 16, 17] [6] fun vs H => match vs, H with
  | [.slice (.slice (.int .i64)) b .view, .func f [] [], .slice (.slice (.int .i64)) a .view, .int .i64 m, .int .i64 i], [] :: S => .br (Nat.beq f n_slices_Equal_int_int && (decide (m = a.length) && decide (i = 0)) && decide (a.length = b.length)) (.br (a == b) (.yes (.exit 0, [.undef], [] :: S, [])) (.yes (.ret, [.bool false], [] :: S, []))) .no
  | _, _ => .no)]
theorem ef_loops : ∀ x ∈ funLoops PR n_slices_EqualFunc_int_int_int_int_rows, ∀ L, lfEf x.1 = some L → LoopOK (ntm PR n_slices_EqualFunc_int_int_int_int_rows) (fun fr H wr k => code PR (cfE [seE]) cfgT lfEf (cfgT.live n_slices_EqualFunc_int_int_int_int_rows) x.2 (2 * x.1) fr H wr k) L := by
  refine one_loop (p := 58) rfl (by kernel_rfl) (loopT_ok (by decide) fun vs H wr ex vs' H' w hv ha hh => ?_)
  split at hv
  · rename_i b f a m i S
    obtain ⟨hc, hv2⟩ := Tr.br_no hv
    clear hv
    simp only [Bool.and_eq_true, decide_eq_true_eq, beq_iff] at hc
    obtain ⟨⟨rfl, hm, rfl⟩, hl⟩ := hc
    have hmax : a.length ≤ maxInt := by simp only [okAVs, okAV] at ha; exact ha.2.2.1.1
    refine ⟨a.length + 1, fun k => ?_⟩
    have := eq_loop (F := fun N i => LC PR (cfE [seE]) cfgT lfEf n_slices_EqualFunc_int_int_int_int_rows 0 58 [1, 2, 15, 16, 17] [6] N [.slice (.slice (.int .i64)) b .view, .func n_slices_Equal_int_int [] [], .slice (.slice (.int .i64)) a .view, .int .i64 m, .int .i64 i] ([] :: S) wr k)
      (R := k .ret [.bool false] ([] :: S) wr) (E := k (.exit 0) [.undef] ([] :: S) wr) hm hl hmax (fun N i => by kernel_rfl) a.length 0 (by omega)
    rw [List.drop_zero, List.drop_zero] at this
    rcases Tr.br_or hv2 with ⟨he, h4⟩ | ⟨he, h4⟩
    · cases h4; rw [he] at this; exact this
    · cases h4; rw [he] at this; exact this
  · cases hv
def efF : List AV → Tr AV
  | [.slice (.slice (.int .i64)) a .view, .slice (.slice (.int .i64)) b .view, .func f [] []] => .br (Nat.beq f n_slices_Equal_int_int) (.yes (.bool (a == b))) .no
  | _ => .no
theorem ef_ok : Con PR A n_slices_EqualFunc_int_int_int_int_rows (pureC efF) := by
  refine pure_con (cfg := cfgT) (lf := lfEf) [seE] mixed (by kernel_rfl) (by kernel_rfl) ef_loops fun args v hv ha S => ?_
  unfold efF at hv
  split at hv
  · rename_i a b f
    obtain ⟨hc, hv2⟩ := Tr.br_no hv
    cases hv2
    rw [beq_iff] at hc
    subst hc
    have h : body PR (cfE [seE]) cfgT lfEf n_slices_EqualFunc_int_int_int_int_rows [.slice (.slice (.int .i64)) a .view, .slice (.slice (.int .i64)) b .view, .func n_slices_Equal_int_int [] []] S some =
      (bif (a.length : Int) != (b.length : Int) then some (.bool false, [], S)
      else bif true && (decide ((a.length : Int) = (a.length : Int)) && true) && decide (a.length = b.length) then (bif a == b then some (.bool true, [], S) else some (.bool false, [], S)) else none) := by kernel_rfl
    rw [h, decide_eq_true rfl]
    by_cases hl : a.length = b.length
    · rw [show ((a.length : Int) != (b.length : Int)) = false by simp [hl], decide_eq_true hl]
      cases a == b <;> rfl
    · rw [show ((a.length : Int) != (b.length : Int)) = true by simp; omega, ne_len hl]; rfl
  · cases hv
def efE : Ent PR A := ⟨n_slices_EqualFunc_int_int_int_int_rows, _, ef_ok⟩
def tsF : List AV → Tr AV
  | [.agg [.int .i64 t, .slice (.int .i64) s .view, .slice (.slice (.int .i64)) sh .view], .agg [.int .i64 t2, .slice (.int .i64) s2 .view, .slice (.slice (.int .i64)) sh2 .view]] => .yes (.bool (t == t2 && (s == s2 && sh == sh2)))
  | _ => .no
theorem ts_ok : Con PR A n_term_Same (pureC tsF) := by
  refine pure_con0 (cfg := cfgT) [seE, efE] mixed (by kernel_rfl) (by kernel_rfl) (by kernel_rfl) fun args v hv ha S => ?_
  unfold tsF at hv
  split at hv
  · rename_i t s sh t2 s2 sh2
    cases hv
    have h : body PR (cfE [seE, efE]) cfgT lf0 n_term_Same [conA t s sh, conA t2 s2 sh2] S some =
      (bif t == t2 then bif s == s2 then some (.bool (sh == sh2), [], S) else some (.bool false, [], S) else some (.bool false, [], S)) := by kernel_rfl
    refine h.trans ?_
    cases t == t2 <;> cases s == s2 <;> rfl
  · cases hv
def tsE : Ent PR A := ⟨n_term_Same, _, ts_ok⟩
end Go.Crc
/- Configurations are written and read by the program. Conditions: none. A text of this seat's numbers. -/
set_option linter.unusedVariables false
set_option linter.unusedSimpArgs false
set_option maxRecDepth 100000
namespace Go.Crc
open Go.Vm Go.Pack Go.Rec
end Go.Crc
/- Configurations as the document says: which may be, written, read, the same. Conditions: none. A text of this seat's numbers. -/
set_option linter.unusedVariables false
set_option linter.unusedSimpArgs false
set_option maxRecDepth 100000
namespace Go.Crc
open Go.Vm Go.Pack Go.Rec
end Go.Crc
/- Configurations are read and compared by the document. Conditions: none. A text of this seat's numbers. -/
set_option linter.unusedVariables false
set_option linter.unusedSimpArgs false
set_option maxRecDepth 100000
namespace Go.Crc
open Go.Vm Go.Pack Go.Rec
end Go.Crc
