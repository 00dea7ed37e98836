/- Contracts of functions of this program. Conditions: none. -/
import Derived.Test.YtpmmjgkfhbjmcaaWe
import Derived.Test.YtpmmjgkfhbjmcaaVp
set_option linter.unusedVariables false
set_option linter.unusedSimpArgs false
/- Records are read, by the program and by the document. Conditions: none. A text of this seat's numbers. -/
set_option linter.unusedVariables false
set_option linter.unusedSimpArgs false
namespace Go.Crc
open Go.Vm Go.Pack Go.Rec
def cfgD : Cfg := cfgOf [(n_pack_Num, [0]), (n_pack_Text, [0])] [n_pack_Num, n_pack_Text, n_crc_New, n_crc_Table_Put, n_record_Encode, n_pack_NewReader] []
def lfDc : Nat → Option LoopSum := lfOf [(2042, loopT [2, 5, 6, 27, 28] [2, 5, 6] fun vs H => match vs, H with
  | [.ptr 0 0 0, .ptr 0 2 0, .ptr 0 3 0, .int .i64 m, .int .i64 i], [x, y, .cells [.slice (.int .u8) b .view, .int .i64 e], .cells [.int .i64 c, .int .i64 n, .slice (.int .i64) t .own, .str d]] :: S =>
    .br (decide (i = 0) && decide (0 ≤ m) && (decide (m ≤ 8) && decide (t.length = 0))) (.yes (.exit 0, [.ptr 0 0 0, .ptr 0 2 0, .ptr 0 3 0], [x, y, ofSt (rowR 1073741824 m.toNat ⟨b, e⟩).1, .cells [.int .i64 c, .int .i64 n, .slice (.int .i64) (rowR 1073741824 m.toNat ⟨b, e⟩).2 .own, .str d]] :: S, repApp m.toNat [(0, 3), (0, 2)])) .no
  | _, _ => .no)]
noncomputable abbrev LDc (N : Nat) := LC PR (cfE [newE, cutE, newReaderE, numE, textE, endE, rrE]) cfgD lfDc n_record_Decode 0 2042 [2, 5, 6, 27, 28] [2, 5, 6] N
theorem dc_round (x y : Ob) (b t d : List Int) (e c n m i : Int) (S : Stack) (wr : Wr) (N : Nat) (k : Ex → List AV → Stack → Wr → Option Res) :
    LDc (N + 1) [.ptr 0 0 0, .ptr 0 2 0, .ptr 0 3 0, .int .i64 m, .int .i64 i] ([x, y, .cells [.slice (.int .u8) b .view, .int .i64 e], .cells [.int .i64 c, .int .i64 n, .slice (.int .i64) t .own, .str d]] :: S) wr k =
      (bif decide (i < m) then bif decide ((t.length + [(numR ⟨b, e⟩ 1073741824).2].length) * 8 ≤ 140737488355328) then
        LDc N [.ptr 0 0 0, .ptr 0 2 0, .ptr 0 3 0, .int .i64 m, .int .i64 (IntKind.i64.wrap (i + 1))] ([x, y, ofSt (numR ⟨b, e⟩ 1073741824).1, .cells [.int .i64 c, .int .i64 n, .slice (.int .i64) (t ++ [(numR ⟨b, e⟩ 1073741824).2]) .own, .str d]] :: S) ((0, 3) :: (0, 2) :: wr) k
      else none else k (.exit 0) [.ptr 0 0 0, .ptr 0 2 0, .ptr 0 3 0] ([x, y, ofSt ⟨b, e⟩, .cells [.int .i64 c, .int .i64 n, .slice (.int .i64) t .own, .str d]] :: S) wr) := by kernel_rfl
theorem dc_loop (x y : Ob) (d : List Int) (c n m : Int) (hm : m ≤ 8) (S : Stack) (k : Ex → List AV → Stack → Wr → Option Res) : ∀ (q j : Nat) (s : St) (t : List Int) (wr : Wr), ((j + q : Nat) : Int) = m → t.length = j →
    LDc (q + 1) [.ptr 0 0 0, .ptr 0 2 0, .ptr 0 3 0, .int .i64 m, .int .i64 (j : Int)] ([x, y, ofSt s, .cells [.int .i64 c, .int .i64 n, .slice (.int .i64) t .own, .str d]] :: S) wr k =
      k (.exit 0) [.ptr 0 0 0, .ptr 0 2 0, .ptr 0 3 0] ([x, y, ofSt (rowR 1073741824 q s).1, .cells [.int .i64 c, .int .i64 n, .slice (.int .i64) (t ++ (rowR 1073741824 q s).2) .own, .str d]] :: S) (app (repApp q [(0, 3), (0, 2)]) wr)
  | 0, j, ⟨b, e⟩, t, wr, hj, ht => by
    unfold ofSt
    rw [dc_round, cond_ne (by simp <;> omega)]
    simp only [rowR, List.append_nil]
    rfl
  | q + 1, j, ⟨b, e⟩, t, wr, hj, ht => by
    unfold ofSt
    rw [dc_round, cond_eq (by simp <;> omega), cond_eq (decide_eq_true (by simp only [List.length_cons, List.length_nil]; omega)), wrap_i64 (n := (j : Int) + 1) (by omega) (by omega), show ((j : Int) + 1) = ((j + 1 : Nat) : Int) by omega, dc_loop x y d c n m hm S k q (j + 1) _ _ _ (by omega) (by simp [ht])]
    rw [rep_more]
    simp only [rowR, List.append_assoc, List.singleton_append]
    rfl
/-- what is told of a record that was read. -/
def recV (c n : Int) (t d : List Int) (e : Int) : AV := .tuple [rec4 c n t d, .int .i64 e]
def decV (b : List Int) : AV := recV (decC b) (decN b) (decT b) (decD b) (decErr b)
def decF : List AV → Tr AV
  | [.slice (.int .u8) b .view] => .br (decide (b.length ≤ 140737488355328)) (.yes (decV b)) .no
  | _ => .no
theorem dec_ok : Con PR A n_record_Decode (pureC decF) := by
  refine pureC_ok fun args v hv ha S => ?_
  unfold decF at hv
  split at hv
  · rename_i b
    obtain ⟨h1, hv2⟩ := Tr.br_no hv
    cases hv2
    simp only [decide_eq_true_eq] at h1
    have h : body PR (cfE [newE, cutE, newReaderE, numE, textE, endE, rrE]) cfgD lfDc n_record_Decode [.slice (.int .u8) b .view] S some =
      (bif decide (b.length ≤ 140737488355328) then bif !crcOK b then some (recV 0 0 [] [] 41, [], S)
      else bif decide ((cutB b).length ≤ 140737488355328) then
        bif true && decide (0 ≤ (d3 (cutB b)).2) && (decide ((d3 (cutB b)).2 ≤ 8) && true) then
          bif endR (d5 (cutB b)).1 != 0 then some (recV 0 0 [] [] 40, outer (app (repApp (d3 (cutB b)).2.toNat [(0, 3), (0, 2)]) [(0, 2), (0, 3), (0, 2), (0, 3), (0, 2), (0, 1)]), S)
          else bif !rightR (d1 (cutB b)).2 (d2 (cutB b)).2 (d4 (cutB b)).2 (d5 (cutB b)).2 then some (recV 0 0 [] [] 40, outer (app (repApp (d3 (cutB b)).2.toNat [(0, 3), (0, 2)]) [(0, 2), (0, 3), (0, 2), (0, 3), (0, 2), (0, 1)]), S)
          else some (recV (d1 (cutB b)).2 (d2 (cutB b)).2 (d4 (cutB b)).2 (d5 (cutB b)).2 0, outer (app (repApp (d3 (cutB b)).2.toNat [(0, 3), (0, 2)]) [(0, 2), (0, 3), (0, 2), (0, 3), (0, 2), (0, 1)]), S)
        else none else none else none) := by kernel_rfl
    refine fun_call _ mixed (by kernel_rfl) (by kernel_rfl) ?_ (h.trans ?_)
    · refine one_loop (p := 2042) rfl (by kernel_rfl) (loopT_ok (by decide) fun vs H wr ex vs' H' w hv ha hh => ?_)
      split at hv
      · rename_i m i x y b e c n t d S
        obtain ⟨hc, hv2⟩ := Tr.br_no hv
        clear hv
        simp only [Bool.and_eq_true, decide_eq_true_eq] at hc
        obtain ⟨⟨rfl, h0⟩, h8, ht⟩ := hc
        cases hv2
        refine ⟨m.toNat + 1, fun k => ?_⟩
        have := dc_loop x y d c n m h8 S k m.toNat 0 ⟨b, e⟩ t wr (by omega) ht
        rw [List.eq_nil_of_length_eq_zero ht] at this ⊢
        exact this
      · cases hv
    · have hl : (cutB b).length ≤ b.length := by
        unfold cutB
        cases crcOK b with
        | true => simp only [cond_true, List.length_take]; omega
        | false => simp
      have g0 : 0 ≤ (d3 (cutB b)).2 := numR_nonneg _ _
      have g8 : (d3 (cutB b)).2 ≤ 8 := numR_le (by decide)
      rw [cond_eq (decide_eq_true h1), cond_eq (decide_eq_true (show (cutB b).length ≤ 140737488355328 by omega)), decide_eq_true g0, decide_eq_true g8, outer_app0 _ _ (all0_rep rfl _)]
      unfold decV decC decN decT decD decErr decOK
      have ha : dA b = cutB b := rfl
      rw [ha]
      unfold decGood
      cases crcOK b with
      | false => rfl
      | true =>
        cases (endR (d5 (cutB b)).1 != 0) with
        | true => rfl
        | false => cases rightR (d1 (cutB b)).2 (d2 (cutB b)).2 (d4 (cutB b)).2 (d5 (cutB b)).2 <;> rfl
  · cases hv
def decE : Ent PR A := ⟨n_record_Decode, _, dec_ok⟩

/-! ### The document's -/
def lfRc : Nat → Option LoopSum := lfOf [(8186, loopT [2, 6, 7, 8, 9] [2, 6, 7] fun vs H => match vs, H with
  | [.ptr 0 0 0, .ptr 0 1 0, .ptr 0 2 0, .int .i64 m, .int .i64 i], [.cells [.int .i64 x1, .int .i64 x2, .slice (.int .i64) x3 .own, .str x4], .cells [.str b, .int .i64 e], .cells [.int .i64 c, .int .i64 n, .slice (.int .i64) t .own, .str d]] :: S =>
    .br (decide (i = 0) && decide (0 ≤ m) && (decide (m ≤ 8) && decide (t.length = 0))) (.yes (.exit 0, [.ptr 0 0 0, .ptr 0 1 0, .ptr 0 2 0], [.cells [.int .i64 x1, .int .i64 x2, .slice (.int .i64) x3 .own, .str x4], .cells [.str (rowR 1073741824 m.toNat ⟨b, e⟩).1.b, .int .i64 (rowR 1073741824 m.toNat ⟨b, e⟩).1.e], .cells [.int .i64 c, .int .i64 n, .slice (.int .i64) (rowR 1073741824 m.toNat ⟨b, e⟩).2 .own, .str d]] :: S, repApp m.toNat [(0, 2), (0, 1), (0, 3)])) .no
  | _, _ => .no)]
noncomputable abbrev LRc (N : Nat) := LC PR (cfE [refCutE, rnE, rtE, rendE, rdrE]) cfgD lfRc n_ref04_Decode 0 8186 [2, 6, 7, 8, 9] [2, 6, 7] N
theorem rc_round (b t d : List Int) (e c n m i : Int) (x1 x2 : Int) (x3 x4 : List Int) (S : Stack) (wr : Wr) (N : Nat) (k : Ex → List AV → Stack → Wr → Option Res) :
    LRc (N + 1) [.ptr 0 0 0, .ptr 0 1 0, .ptr 0 2 0, .int .i64 m, .int .i64 i] ([.cells [.int .i64 x1, .int .i64 x2, .slice (.int .i64) x3 .own, .str x4], .cells [.str b, .int .i64 e], .cells [.int .i64 c, .int .i64 n, .slice (.int .i64) t .own, .str d]] :: S) wr k =
      (bif decide (i < m) then bif decide ((t.length + [(numR ⟨b, e⟩ 1073741824).2].length) * 8 ≤ 140737488355328) then
        LRc N [.ptr 0 0 0, .ptr 0 1 0, .ptr 0 2 0, .int .i64 m, .int .i64 (IntKind.i64.wrap (i + 1))] ([.cells [.int .i64 x1, .int .i64 x2, .slice (.int .i64) x3 .own, .str x4], .cells [.str (numR ⟨b, e⟩ 1073741824).1.b, .int .i64 (numR ⟨b, e⟩ 1073741824).1.e], .cells [.int .i64 c, .int .i64 n, .slice (.int .i64) (t ++ [(numR ⟨b, e⟩ 1073741824).2]) .own, .str d]] :: S) ((0, 2) :: (0, 1) :: (0, 3) :: wr) k
      else none else k (.exit 0) [.ptr 0 0 0, .ptr 0 1 0, .ptr 0 2 0] ([.cells [.int .i64 x1, .int .i64 x2, .slice (.int .i64) x3 .own, .str x4], .cells [.str b, .int .i64 e], .cells [.int .i64 c, .int .i64 n, .slice (.int .i64) t .own, .str d]] :: S) wr) := by kernel_rfl
theorem rc_loop (d : List Int) (c n m : Int) (hm : m ≤ 8) (x1 x2 : Int) (x3 x4 : List Int) (S : Stack) (k : Ex → List AV → Stack → Wr → Option Res) : ∀ (q j : Nat) (s : St) (t : List Int) (wr : Wr), ((j + q : Nat) : Int) = m → t.length = j →
    LRc (q + 1) [.ptr 0 0 0, .ptr 0 1 0, .ptr 0 2 0, .int .i64 m, .int .i64 (j : Int)] ([.cells [.int .i64 x1, .int .i64 x2, .slice (.int .i64) x3 .own, .str x4], .cells [.str s.b, .int .i64 s.e], .cells [.int .i64 c, .int .i64 n, .slice (.int .i64) t .own, .str d]] :: S) wr k =
      k (.exit 0) [.ptr 0 0 0, .ptr 0 1 0, .ptr 0 2 0] ([.cells [.int .i64 x1, .int .i64 x2, .slice (.int .i64) x3 .own, .str x4], .cells [.str (rowR 1073741824 q s).1.b, .int .i64 (rowR 1073741824 q s).1.e], .cells [.int .i64 c, .int .i64 n, .slice (.int .i64) (t ++ (rowR 1073741824 q s).2) .own, .str d]] :: S) (app (repApp q [(0, 2), (0, 1), (0, 3)]) wr)
  | 0, j, ⟨b, e⟩, t, wr, hj, ht => by
    rw [rc_round, cond_ne (by simp <;> omega)]
    simp only [rowR, List.append_nil]
    rfl
  | q + 1, j, ⟨b, e⟩, t, wr, hj, ht => by
    rw [rc_round, cond_eq (by simp <;> omega), cond_eq (decide_eq_true (by simp only [List.length_cons, List.length_nil]; omega)), wrap_i64 (n := (j : Int) + 1) (by omega) (by omega), show ((j : Int) + 1) = ((j + 1 : Nat) : Int) by omega, rc_loop d c n m hm x1 x2 x3 x4 S k q (j + 1) _ _ _ (by omega) (by simp [ht])]
    rw [rep_more]
    simp only [rowR, List.append_assoc, List.singleton_append]
    rfl
theorem rdec_ok : Con PR A n_ref04_Decode (pureC decF) := by
  refine pureC_ok fun args v hv ha S => ?_
  unfold decF at hv
  split at hv
  · rename_i b
    obtain ⟨h1, hv2⟩ := Tr.br_no hv
    cases hv2
    simp only [decide_eq_true_eq] at h1
    have h : body PR (cfE [refCutE, rnE, rtE, rendE, rdrE]) cfgD lfRc n_ref04_Decode [.slice (.int .u8) b .view] S some =
      (bif decide (b.length ≤ 140737488355328) then bif !crcOK b then some (recV 0 0 [] [] 41, [], S)
      else
        bif true && decide (0 ≤ (d3 (cutB b)).2) && (decide ((d3 (cutB b)).2 ≤ 8) && true) then
          bif endR (d5 (cutB b)).1 != 0 then some (recV 0 0 [] [] 40, outer (app (repApp (d3 (cutB b)).2.toNat [(0, 2), (0, 1), (0, 3)]) [(0, 1), (0, 2), (0, 1), (0, 2), (0, 1), (0, 1)]), S)
          else bif !rightR (d1 (cutB b)).2 (d2 (cutB b)).2 (d4 (cutB b)).2 (d5 (cutB b)).2 then some (recV 0 0 [] [] 40, outer (app (repApp (d3 (cutB b)).2.toNat [(0, 2), (0, 1), (0, 3)]) [(0, 1), (0, 2), (0, 1), (0, 2), (0, 1), (0, 1)]), S)
          else some (recV (d1 (cutB b)).2 (d2 (cutB b)).2 (d4 (cutB b)).2 (d5 (cutB b)).2 0, outer (app (repApp (d3 (cutB b)).2.toNat [(0, 2), (0, 1), (0, 3)]) [(0, 1), (0, 2), (0, 1), (0, 2), (0, 1), (0, 1)]), S)
        else none else none) := by kernel_rfl
    refine fun_call _ mixed (by kernel_rfl) (by kernel_rfl) ?_ (h.trans ?_)
    · refine one_loop (p := 8186) rfl (by kernel_rfl) (loopT_ok (by decide) fun vs H wr ex vs' H' w hv ha hh => ?_)
      split at hv
      · rename_i m i x1 x2 x3 x4 b e c n t d S
        obtain ⟨hc, hv2⟩ := Tr.br_no hv
        clear hv
        simp only [Bool.and_eq_true, decide_eq_true_eq] at hc
        obtain ⟨⟨rfl, h0⟩, h8, ht⟩ := hc
        cases hv2
        refine ⟨m.toNat + 1, fun k => ?_⟩
        have := rc_loop d c n m h8 x1 x2 x3 x4 S k m.toNat 0 ⟨b, e⟩ t wr (by omega) ht
        rw [List.eq_nil_of_length_eq_zero ht] at this ⊢
        exact this
      · cases hv
    · have g0 : 0 ≤ (d3 (cutB b)).2 := numR_nonneg _ _
      have g8 : (d3 (cutB b)).2 ≤ 8 := numR_le (by decide)
      rw [cond_eq (decide_eq_true h1), decide_eq_true g0, decide_eq_true g8, outer_app0 _ _ (all0_rep rfl _)]
      unfold decV decC decN decT decD decErr decOK
      have ha : dA b = cutB b := rfl
      rw [ha]
      unfold decGood
      cases crcOK b with
      | false => rfl
      | true =>
        cases (endR (d5 (cutB b)).1 != 0) with
        | true => rfl
        | false => cases rightR (d1 (cutB b)).2 (d2 (cutB b)).2 (d4 (cutB b)).2 (d5 (cutB b)).2 <;> rfl
  · cases hv
def rdecE : Ent PR A := ⟨n_ref04_Decode, _, rdec_ok⟩
end Go.Crc

/- Rows of numbers and records compared, tags looked for, places ordered: by the program and by the document. Conditions: none. A text of this seat's numbers. -/
set_option linter.unusedVariables false
set_option linter.unusedSimpArgs false
namespace Go.Crc
open Go.Vm Go.Pack Go.Rec
def eqF : List AV → Tr AV
  | [.slice (.int .i64) a .view, .slice (.int .i64) b .view] => .yes (.bool (a == b))
  | _ => .no
theorem ne_len {α : Type} [BEq α] [LawfulBEq α] {a b : List α} (h : a.length ≠ b.length) : (a == b) = false := by
  rw [beq_eq_false_iff_ne]
  exact fun e => h (by rw [e])
theorem len_neq {a b : List Int} : ((a.length : Int) != (b.length : Int)) = !decide (a.length = b.length) := by
  by_cases h : a.length = b.length
  · simp [h]
  · simp [h]; omega
/-! ### slices.Equal -/
def lfSe : Nat → Option LoopSum := lfOf [(58, loopT [0, 1, 12, 13] [4] fun vs H => match vs, H with
  | [.slice (.int .i64) a .view, .slice (.int .i64) b .view, .int .i64 m, .int .i64 i], [] :: S => .br (decide (m = a.length) && decide (i = 0) && decide (a.length = b.length)) (.br (a == b) (.yes (.exit 0, [.undef], [] :: S, [])) (.yes (.ret, [.bool false], [] :: S, []))) .no
  | _, _ => .no)]
theorem se_loops : ∀ x ∈ funLoops PR n_slices_Equal_int_int, ∀ L, lfSe x.1 = some L → LoopOK (ntm PR n_slices_Equal_int_int) (fun fr H wr k => code PR (cfE (P := PR) (A := A) []) cfgD lfSe (cfgD.live n_slices_Equal_int_int) x.2 (2 * x.1) fr H wr k) L := by
  refine one_loop (p := 58) rfl (by kernel_rfl) (loopT_ok (by decide) fun vs H wr ex vs' H' w hv ha hh => ?_)
  split at hv
  · rename_i a b m i S
    obtain ⟨hc, hv2⟩ := Tr.br_no hv
    clear hv
    simp only [Bool.and_eq_true, decide_eq_true_eq] at hc
    obtain ⟨⟨hm, rfl⟩, hl⟩ := hc
    have hmax : a.length ≤ maxInt := by simp only [okAVs, okAV] at ha; exact ha.1.1
    refine ⟨a.length + 1, fun k => ?_⟩
    have := eq_loop (F := fun N i => LC PR (cfE (P := PR) (A := A) []) cfgD lfSe n_slices_Equal_int_int 0 58 [0, 1, 12, 13] [4] N [.slice (.int .i64) a .view, .slice (.int .i64) b .view, .int .i64 m, .int .i64 i] ([] :: S) wr k)
      (R := k .ret [.bool false] ([] :: S) wr) (E := k (.exit 0) [.undef] ([] :: S) wr) hm hl hmax (fun N i => by kernel_rfl) a.length 0 (by omega)
    rw [List.drop_zero, List.drop_zero] at this
    rcases Tr.br_or hv2 with ⟨he, h4⟩ | ⟨he, h4⟩
    · cases h4; rw [he] at this; exact this
    · cases h4; rw [he] at this; exact this
  · cases hv
theorem se_ok : Con PR A n_slices_Equal_int_int (pureC eqF) := by
  refine pure_con (cfg := cfgD) (lf := lfSe) [] mixed (by kernel_rfl) (by kernel_rfl) se_loops fun args v hv ha S => ?_
  unfold eqF at hv
  split at hv
  · rename_i a b
    cases hv
    have h : body PR (cfE (P := PR) (A := A) []) cfgD lfSe n_slices_Equal_int_int [.slice (.int .i64) a .view, .slice (.int .i64) b .view] S some =
      (bif (a.length : Int) != (b.length : Int) then some (.bool false, [], S)
      else bif decide ((a.length : Int) = (a.length : Int)) && true && decide (a.length = b.length) then (bif a == b then some (.bool true, [], S) else some (.bool false, [], S)) else none) := by kernel_rfl
    rw [h, len_neq, decide_eq_true rfl]
    by_cases hl : a.length = b.length
    · rw [decide_eq_true hl]
      cases a == b <;> rfl
    · rw [decide_eq_false hl, ne_len hl]; rfl
  · cases hv
def seE : Ent PR A := ⟨n_slices_Equal_int_int, _, se_ok⟩
/-! ### Equal of the document -/
def lfRe : Nat → Option LoopSum := lfOf [(58, loopT [0, 1, 5] [4] fun vs H => match vs, H with
  | [.slice (.int .i64) a .view, .slice (.int .i64) b .view, .int .i64 i], [] :: S => .br (decide (i = 0) && decide (a.length = b.length)) (.br (a == b) (.yes (.exit 0, [.undef], [] :: S, [])) (.yes (.ret, [.bool false], [] :: S, []))) .no
  | _, _ => .no)]
theorem re_loops : ∀ x ∈ funLoops PR n_ref03_Equal, ∀ L, lfRe x.1 = some L → LoopOK (ntm PR n_ref03_Equal) (fun fr H wr k => code PR (cfE (P := PR) (A := A) []) cfgD lfRe (cfgD.live n_ref03_Equal) x.2 (2 * x.1) fr H wr k) L := by
  refine one_loop (p := 58) rfl (by kernel_rfl) (loopT_ok (by decide) fun vs H wr ex vs' H' w hv ha hh => ?_)
  split at hv
  · rename_i a b i S
    obtain ⟨hc, hv2⟩ := Tr.br_no hv
    clear hv
    simp only [Bool.and_eq_true, decide_eq_true_eq] at hc
    obtain ⟨rfl, hl⟩ := hc
    have hmax : a.length ≤ maxInt := by simp only [okAVs, okAV] at ha; exact ha.1.1
    refine ⟨a.length + 1, fun k => ?_⟩
    have := eq_loop (F := fun N i => LC PR (cfE (P := PR) (A := A) []) cfgD lfRe n_ref03_Equal 0 58 [0, 1, 5] [4] N [.slice (.int .i64) a .view, .slice (.int .i64) b .view, .int .i64 i] ([] :: S) wr k)
      (R := k .ret [.bool false] ([] :: S) wr) (E := k (.exit 0) [.undef] ([] :: S) wr) rfl hl hmax (fun N i => by kernel_rfl) a.length 0 (by omega)
    rw [List.drop_zero, List.drop_zero] at this
    rcases Tr.br_or hv2 with ⟨he, h4⟩ | ⟨he, h4⟩
    · cases h4; rw [he] at this; exact this
    · cases h4; rw [he] at this; exact this
  · cases hv
theorem re_ok : Con PR A n_ref03_Equal (pureC eqF) := by
  refine pure_con (cfg := cfgD) (lf := lfRe) [] mixed (by kernel_rfl) (by kernel_rfl) re_loops fun args v hv ha S => ?_
  unfold eqF at hv
  split at hv
  · rename_i a b
    cases hv
    have h : body PR (cfE (P := PR) (A := A) []) cfgD lfRe n_ref03_Equal [.slice (.int .i64) a .view, .slice (.int .i64) b .view] S some =
      (bif (a.length : Int) != (b.length : Int) then some (.bool false, [], S)
      else bif true && decide (a.length = b.length) then (bif a == b then some (.bool true, [], S) else some (.bool false, [], S)) else none) := by kernel_rfl
    rw [h, len_neq]
    by_cases hl : a.length = b.length
    · rw [decide_eq_true hl]
      cases a == b <;> rfl
    · rw [decide_eq_false hl, ne_len hl]; rfl
  · cases hv
def reE : Ent PR A := ⟨n_ref03_Equal, _, re_ok⟩
/-! ### slices.Index, Contains -/
def lfIx : Nat → Option LoopSum := lfOf [(26, loopT [0, 1, 7, 8] [4] fun vs H => match vs, H with
  | [.slice (.int .i64) a .view, .int .i64 x, .int .i64 m, .int .i64 i], [] :: S => .br (decide (m = a.length) && decide (i = 0)) (.br (a.any fun y => x == y) (.yes (.ret, [.int .i64 (idxI a x)], [] :: S, [])) (.yes (.exit 0, [.undef], [] :: S, []))) .no
  | _, _ => .no)]
theorem ix_loops : ∀ x ∈ funLoops PR n_slices_Index_int_int, ∀ L, lfIx x.1 = some L → LoopOK (ntm PR n_slices_Index_int_int) (fun fr H wr k => code PR (cfE (P := PR) (A := A) []) cfgD lfIx (cfgD.live n_slices_Index_int_int) x.2 (2 * x.1) fr H wr k) L := by
  refine one_loop (p := 26) rfl (by kernel_rfl) (loopT_ok (by decide) fun vs H wr ex vs' H' w hv ha hh => ?_)
  split at hv
  · rename_i a x m i S
    obtain ⟨hc, hv2⟩ := Tr.br_no hv
    clear hv
    simp only [Bool.and_eq_true, decide_eq_true_eq] at hc
    obtain ⟨hm, rfl⟩ := hc
    have hmax : a.length ≤ maxInt := by simp only [okAVs, okAV] at ha; exact ha.1.1
    refine ⟨a.length + 1, fun k => ?_⟩
    have := find_loop (F := fun N i => LC PR (cfE (P := PR) (A := A) []) cfgD lfIx n_slices_Index_int_int 0 26 [0, 1, 7, 8] [4] N [.slice (.int .i64) a .view, .int .i64 x, .int .i64 m, .int .i64 i] ([] :: S) wr k)
      (p := fun y => x == y) (R := fun i => k .ret [.int .i64 i] ([] :: S) wr) (E := k (.exit 0) [.undef] ([] :: S) wr) hm hmax (fun N i => by kernel_rfl) a.length 0 (by omega)
    rw [List.drop_zero] at this
    have hany := idxP_any (fun y => x == y) a 0
    rcases Tr.br_or hv2 with ⟨he, h4⟩ | ⟨he, h4⟩
    · cases h4
      unfold idxI
      rw [he] at hany
      cases hi : idxP (fun y => x == y) 0 a with
      | none => rw [hi] at hany; cases hany
      | some j => rw [hi] at this; exact this
    · cases h4
      rw [he] at hany
      cases hi : idxP (fun y => x == y) 0 a with
      | none => rw [hi] at this; exact this
      | some j => rw [hi] at hany; cases hany
  · cases hv
def idxF : List AV → Tr AV
  | [.slice (.int .i64) a .view, .int .i64 x] => .yes (.int .i64 (idxI a x))
  | _ => .no
theorem idxI_none {a : List Int} {x : Int} (h : (a.any fun y => x == y) = false) : idxI a x = -1 := by
  have hany := idxP_any (fun y => x == y) a 0
  rw [h] at hany
  unfold idxI
  cases hi : idxP (fun y => x == y) 0 a with
  | none => rfl
  | some j => rw [hi] at hany; cases hany
theorem idx_ok : Con PR A n_slices_Index_int_int (pureC idxF) := by
  refine pure_con (cfg := cfgD) (lf := lfIx) [] mixed (by kernel_rfl) (by kernel_rfl) ix_loops fun args v hv ha S => ?_
  unfold idxF at hv
  split at hv
  · rename_i a x
    cases hv
    have h : body PR (cfE (P := PR) (A := A) []) cfgD lfIx n_slices_Index_int_int [.slice (.int .i64) a .view, .int .i64 x] S some =
      (bif decide ((a.length : Int) = (a.length : Int)) && true then (bif a.any (fun y => x == y) then some (.int .i64 (idxI a x), [], S) else some (.int .i64 (-1), [], S)) else none) := by kernel_rfl
    rw [h, decide_eq_true rfl]
    cases hn : a.any (fun y => x == y) with
    | true => rfl
    | false => rw [idxI_none hn]; rfl
  · cases hv
def idxE : Ent PR A := ⟨n_slices_Index_int_int, _, idx_ok⟩
def conF : List AV → Tr AV
  | [.slice (.int .i64) a .view, .int .i64 x] => .yes (.bool (a.any fun y => x == y))
  | _ => .no
theorem con_ok : Con PR A n_slices_Contains_int_int (pureC conF) := by
  refine pure_con0 (cfg := cfgD) [idxE] mixed (by kernel_rfl) (by kernel_rfl) (by kernel_rfl) fun args v hv ha S => ?_
  unfold conF at hv
  split at hv
  · rename_i a x
    cases hv
    have h : body PR (cfE [idxE]) cfgD lf0 n_slices_Contains_int_int [.slice (.int .i64) a .view, .int .i64 x] S some = some (.bool (decide (idxI a x ≥ 0)), [], S) := by kernel_rfl
    rw [h, idxI_any]
  · cases hv
def conE : Ent PR A := ⟨n_slices_Contains_int_int, _, con_ok⟩
/-! ### Has -/
def hasF : List AV → Tr AV
  | [.agg [.int .i64 c, .int .i64 n, .slice (.int .i64) t .view, .str d], .int .i64 x] => .yes (.bool (hasB t x))
  | _ => .no
theorem has_ok : Con PR A n_record_Has (pureC hasF) := by
  refine pure_con0 (cfg := cfgD) [conE] mixed (by kernel_rfl) (by kernel_rfl) (by kernel_rfl) fun args v hv ha S => ?_
  unfold hasF at hv
  split at hv
  · rename_i c n t d x
    cases hv
    have h : body PR (cfE [conE]) cfgD lf0 n_record_Has [rec4 c n t d, .int .i64 x] S some = (bif x == 0 then some (.bool true, [], S) else some (.bool (t.any fun y => x == y), [], S)) := by kernel_rfl
    refine h.trans ?_
    unfold hasB
    cases x == 0 <;> rfl
  · cases hv
def hasE : Ent PR A := ⟨n_record_Has, _, has_ok⟩
def lfHs : Nat → Option LoopSum := lfOf [(58, loopT [1, 2, 5] [4] fun vs H => match vs, H with
  | [.int .i64 x, .ptr 0 0 0, .int .i64 i], [.cells [.int .i64 c, .int .i64 n, .slice (.int .i64) t .view, .str d]] :: S => .br (decide (i = 0)) (.br (t.any fun y => y == x) (.yes (.ret, [.bool true], [recOb c n t d] :: S, [])) (.yes (.exit 0, [.undef], [recOb c n t d] :: S, []))) .no
  | _, _ => .no)]
theorem hs_loops : ∀ x ∈ funLoops PR n_ref04_Has, ∀ L, lfHs x.1 = some L → LoopOK (ntm PR n_ref04_Has) (fun fr H wr k => code PR (cfE (P := PR) (A := A) []) cfgD lfHs (cfgD.live n_ref04_Has) x.2 (2 * x.1) fr H wr k) L := by
  refine one_loop (p := 58) rfl (by kernel_rfl) (loopT_ok (by decide) fun vs H wr ex vs' H' w hv ha hh => ?_)
  split at hv
  · rename_i x i c n t d S
    obtain ⟨hc, hv2⟩ := Tr.br_no hv
    clear hv
    simp only [decide_eq_true_eq] at hc
    subst hc
    have hmax : t.length ≤ maxInt := by
      have := hh 0 0 _ rfl
      simp only [okAVs, okAV] at this
      exact this.2.2.1.1
    refine ⟨t.length + 1, fun k => ?_⟩
    have := any_loop (F := fun N i => LC PR (cfE (P := PR) (A := A) []) cfgD lfHs n_ref04_Has 0 58 [1, 2, 5] [4] N [.int .i64 x, .ptr 0 0 0, .int .i64 i] ([recOb c n t d] :: S) wr k)
      (p := fun y => y == x) (R := k .ret [.bool true] ([recOb c n t d] :: S) wr) (E := k (.exit 0) [.undef] ([recOb c n t d] :: S) wr) rfl hmax (fun N i => by kernel_rfl) t.length 0 (by omega)
    rw [List.drop_zero] at this
    rcases Tr.br_or hv2 with ⟨he, h4⟩ | ⟨he, h4⟩
    · cases h4; rw [he] at this; exact this
    · cases h4; rw [he] at this; exact this
  · cases hv
theorem hasr_ok : Con PR A n_ref04_Has (pureC hasF) := by
  refine pure_con (cfg := cfgD) (lf := lfHs) [] mixed (by kernel_rfl) (by kernel_rfl) hs_loops fun args v hv ha S => ?_
  unfold hasF at hv
  split at hv
  · rename_i c n t d x
    cases hv
    have h : body PR (cfE (P := PR) (A := A) []) cfgD lfHs n_ref04_Has [rec4 c n t d, .int .i64 x] S some = (bif x == 0 then some (.bool true, [], S) else bif (t.any fun y => y == x) then some (.bool true, [], S) else some (.bool false, [], S)) := by kernel_rfl
    refine h.trans ?_
    unfold hasB
    have e : (fun y : Int => y == x) = fun y => x == y := funext fun y => by rw [Bool.eq_iff_iff]; simp only [beq_iff_eq]; exact eq_comm
    rw [e]
    cases x == 0 <;> cases (t.any fun y => x == y) <;> rfl
  · cases hv
def hasrE : Ent PR A := ⟨n_ref04_Has, _, hasr_ok⟩
/-! ### Same -/
def sameF : List AV → Tr AV
  | [.agg [.int .i64 c, .int .i64 n, .slice (.int .i64) t .view, .str d], .agg [.int .i64 c2, .int .i64 n2, .slice (.int .i64) t2 .view, .str d2]] => .yes (.bool (sameB c n t d c2 n2 t2 d2))
  | _ => .no
theorem same_ok : Con PR A n_record_Same (pureC sameF) := by
  refine pure_con0 (cfg := cfgD) [seE] mixed (by kernel_rfl) (by kernel_rfl) (by kernel_rfl) fun args v hv ha S => ?_
  unfold sameF at hv
  split at hv
  · rename_i c n t d c2 n2 t2 d2
    cases hv
    have h : body PR (cfE [seE]) cfgD lf0 n_record_Same [rec4 c n t d, rec4 c2 n2 t2 d2] S some = (bif c == c2 && (n == n2 && true) then bif t == t2 then some (.bool (d == d2), [], S) else some (.bool false, [], S) else some (.bool false, [], S)) := by kernel_rfl
    refine h.trans ?_
    unfold sameB
    cases c == c2 <;> cases n == n2 <;> cases t == t2 <;> cases d == d2 <;> rfl
  · cases hv
def sameE : Ent PR A := ⟨n_record_Same, _, same_ok⟩
def lfSm : Nat → Option LoopSum := lfOf [(58, loopT [2, 3, 5] [4] fun vs H => match vs, H with
  | [.ptr 0 0 0, .ptr 0 1 0, .int .i64 i], [.cells [.int .i64 c, .int .i64 n, .slice (.int .i64) t .view, .str d], .cells [.int .i64 c2, .int .i64 n2, .slice (.int .i64) t2 .view, .str d2]] :: S => .br (decide (i = 0) && decide (t.length = t2.length)) (.br (t == t2) (.yes (.exit 0, [.undef], [recOb c n t d, recOb c2 n2 t2 d2] :: S, [])) (.yes (.ret, [.bool false], [recOb c n t d, recOb c2 n2 t2 d2] :: S, []))) .no
  | _, _ => .no)]
theorem sm_loops : ∀ x ∈ funLoops PR n_ref04_Same, ∀ L, lfSm x.1 = some L → LoopOK (ntm PR n_ref04_Same) (fun fr H wr k => code PR (cfE (P := PR) (A := A) []) cfgD lfSm (cfgD.live n_ref04_Same) x.2 (2 * x.1) fr H wr k) L := by
  refine one_loop (p := 58) rfl (by kernel_rfl) (loopT_ok (by decide) fun vs H wr ex vs' H' w hv ha hh => ?_)
  split at hv
  · rename_i i c n t d c2 n2 t2 d2 S
    obtain ⟨hc, hv2⟩ := Tr.br_no hv
    clear hv
    simp only [Bool.and_eq_true, decide_eq_true_eq] at hc
    obtain ⟨rfl, hl⟩ := hc
    have hmax : t.length ≤ maxInt := by
      have := hh 0 0 _ rfl
      simp only [okAVs, okAV] at this
      exact this.2.2.1.1
    refine ⟨t.length + 1, fun k => ?_⟩
    have := eq_loop (F := fun N i => LC PR (cfE (P := PR) (A := A) []) cfgD lfSm n_ref04_Same 0 58 [2, 3, 5] [4] N [.ptr 0 0 0, .ptr 0 1 0, .int .i64 i] ([recOb c n t d, recOb c2 n2 t2 d2] :: S) wr k)
      (R := k .ret [.bool false] ([recOb c n t d, recOb c2 n2 t2 d2] :: S) wr) (E := k (.exit 0) [.undef] ([recOb c n t d, recOb c2 n2 t2 d2] :: S) wr) rfl hl hmax (fun N i => by kernel_rfl) t.length 0 (by omega)
    rw [List.drop_zero, List.drop_zero] at this
    rcases Tr.br_or hv2 with ⟨he, h4⟩ | ⟨he, h4⟩
    · cases h4; rw [he] at this; exact this
    · cases h4; rw [he] at this; exact this
  · cases hv
theorem samer_ok : Con PR A n_ref04_Same (pureC sameF) := by
  refine pure_con (cfg := cfgD) (lf := lfSm) [] mixed (by kernel_rfl) (by kernel_rfl) sm_loops fun args v hv ha S => ?_
  unfold sameF at hv
  split at hv
  · rename_i c n t d c2 n2 t2 d2
    cases hv
    have h : body PR (cfE (P := PR) (A := A) []) cfgD lfSm n_ref04_Same [rec4 c n t d, rec4 c2 n2 t2 d2] S some =
      (bif !(c == c2 && (n == n2 && true)) then some (.bool false, [], S)
      else bif d != d2 then some (.bool false, [], S)
      else bif (t.length : Int) != (t2.length : Int) then some (.bool false, [], S)
      else bif true && decide (t.length = t2.length) then bif t == t2 then some (.bool true, [], S) else some (.bool false, [], S) else none) := by kernel_rfl
    refine h.trans ?_
    unfold sameB
    rw [len_neq]
    by_cases hl : t.length = t2.length
    · rw [decide_eq_true hl, bne]
      cases c == c2 <;> cases n == n2 <;> cases t == t2 <;> cases d == d2 <;> rfl
    · rw [decide_eq_false hl, ne_len hl, bne]
      cases c == c2 <;> cases n == n2 <;> cases d == d2 <;> rfl
  · cases hv
def samerE : Ent PR A := ⟨n_ref04_Same, _, samer_ok⟩
/-! ### Less -/
def lessF : List AV → Tr AV
  | [.agg [.int .i64 a, .int .i64 b], .agg [.int .i64 c, .int .i64 d]] => .yes (.bool (lessB a b c d))
  | _ => .no
theorem less_ok : Con PR A n_record_Less (pureC lessF) := by
  refine pure_con0 (cfg := cfgD) [] mixed (by kernel_rfl) (by kernel_rfl) (by kernel_rfl) fun args v hv ha S => ?_
  unfold lessF at hv
  split at hv
  · rename_i a b c d
    cases hv
    have h : body PR (cfE (P := PR) (A := A) []) cfgD lf0 n_record_Less [.agg [.int .i64 a, .int .i64 b], .agg [.int .i64 c, .int .i64 d]] S some =
      (bif decide (a < c) then some (.bool true, [], S) else bif a == c then some (.bool (decide (b < d)), [], S) else some (.bool false, [], S)) := by kernel_rfl
    refine h.trans ?_
    unfold lessB
    cases decide (a < c) <;> cases a == c <;> rfl
  · cases hv
def lessE : Ent PR A := ⟨n_record_Less, _, less_ok⟩
theorem lessr_ok : Con PR A n_ref04_Less (pureC lessF) := by
  refine pure_con0 (cfg := cfgD) [] mixed (by kernel_rfl) (by kernel_rfl) (by kernel_rfl) fun args v hv ha S => ?_
  unfold lessF at hv
  split at hv
  · rename_i a b c d
    cases hv
    have h : body PR (cfE (P := PR) (A := A) []) cfgD lf0 n_ref04_Less [.agg [.int .i64 a, .int .i64 b], .agg [.int .i64 c, .int .i64 d]] S some =
      (bif a != c then some (.bool (decide (a < c)), [], S) else some (.bool (decide (b < d)), [], S)) := by kernel_rfl
    refine h.trans ?_
    unfold lessB
    by_cases he : a = c
    · subst he; simp
    · have : (a == c) = false := by simpa using he
      rw [bne, this]
      cases decide (a < c) <;> rfl
  · cases hv
def lessrE : Ent PR A := ⟨n_ref04_Less, _, lessr_ok⟩
end Go.Crc
