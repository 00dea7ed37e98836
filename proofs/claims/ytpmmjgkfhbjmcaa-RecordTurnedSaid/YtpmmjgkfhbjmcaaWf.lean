/- Contracts of functions of this program. Conditions: none. -/
import Derived.Test.YtpmmjgkfhbjmcaaWe
set_option linter.unusedVariables false
set_option linter.unusedSimpArgs false
/- Rows of numbers and records compared, tags looked for, places ordered: by the program and by the document. Conditions: none. A text of this seat's numbers. -/
set_option linter.unusedVariables false
set_option linter.unusedSimpArgs false
set_option maxRecDepth 100000
namespace Go.Crc
open Go.Vm Go.Pack Go.Rec
def eqF : List AV → Tr AV
  | [.slice (.int .i64) a .view, .slice (.int .i64) b .view] => .yes (.bool (a == b))
  | _ => .no
theorem ne_len {α : Type} [BEq α] [LawfulBEq α] {a b : List α} (h : a.length ≠ b.length) : (a == b) = false := by
  rw [beq_eq_false_iff_ne]
  exact fun e => h (by rw [e])
theorem len_neq {a b : List Int} : ((a.length : Int) != (b.length : Int)) = !decide (a.length = b.length) := by
  by_cases h : a.length = b.length
  · simp [h]
  · simp [h]; omega
/-! ### slices.Equal -/
def lfSe : Nat → Option LoopSum := lfOf [(58, loopT [0, 1, 12, 13] [4] fun vs H => match vs, H with
  | [.slice (.int .i64) a .view, .slice (.int .i64) b .view, .int .i64 m, .int .i64 i], [] :: S => .br (decide (m = a.length) && decide (i = 0) && decide (a.length = b.length)) (.br (a == b) (.yes (.exit 0, [.undef], [] :: S, [])) (.yes (.ret, [.bool false], [] :: S, []))) .no
  | _, _ => .no)]
theorem se_loops : ∀ x ∈ funLoops PR n_slices_Equal_int_int, ∀ L, lfSe x.1 = some L → LoopOK (ntm PR n_slices_Equal_int_int) (fun fr H wr k => code PR (cfE (P := PR) (A := A) []) cfgD lfSe (cfgD.live n_slices_Equal_int_int) x.2 (2 * x.1) fr H wr k) L := by
  refine one_loop (p := 58) rfl (by kernel_rfl) (loopT_ok (by decide) fun vs H wr ex vs' H' w hv ha hh => ?_)
  split at hv
  · rename_i a b m i S
    obtain ⟨hc, hv2⟩ := Tr.br_no hv
    clear hv
    simp only [Bool.and_eq_true, decide_eq_true_eq] at hc
    obtain ⟨⟨hm, rfl⟩, hl⟩ := hc
    have hmax : a.length ≤ maxInt := by simp only [okAVs, okAV] at ha; exact ha.1.1
    refine ⟨a.length + 1, fun k => ?_⟩
    have := eq_loop (F := fun N i => LC PR (cfE (P := PR) (A := A) []) cfgD lfSe n_slices_Equal_int_int 0 58 [0, 1, 12, 13] [4] N [.slice (.int .i64) a .view, .slice (.int .i64) b .view, .int .i64 m, .int .i64 i] ([] :: S) wr k)
      (R := k .ret [.bool false] ([] :: S) wr) (E := k (.exit 0) [.undef] ([] :: S) wr) hm hl hmax (fun N i => by kernel_rfl) a.length 0 (by omega)
    rw [List.drop_zero, List.drop_zero] at this
    rcases Tr.br_or hv2 with ⟨he, h4⟩ | ⟨he, h4⟩
    · cases h4; rw [he] at this; exact this
    · cases h4; rw [he] at this; exact this
  · cases hv
theorem se_ok : Con PR A n_slices_Equal_int_int (pureC eqF) := by
  refine pure_con (cfg := cfgD) (lf := lfSe) [] mixed (by kernel_rfl) (by kernel_rfl) se_loops fun args v hv ha S => ?_
  unfold eqF at hv
  split at hv
  · rename_i a b
    cases hv
    have h : body PR (cfE (P := PR) (A := A) []) cfgD lfSe n_slices_Equal_int_int [.slice (.int .i64) a .view, .slice (.int .i64) b .view] S some =
      (bif (a.length : Int) != (b.length : Int) then some (.bool false, [], S)
      else bif decide ((a.length : Int) = (a.length : Int)) && true && decide (a.length = b.length) then (bif a == b then some (.bool true, [], S) else some (.bool false, [], S)) else none) := by kernel_rfl
    rw [h, len_neq, decide_eq_true rfl]
    by_cases hl : a.length = b.length
    · rw [decide_eq_true hl]
      cases a == b <;> rfl
    · rw [decide_eq_false hl, ne_len hl]; rfl
  · cases hv
def seE : Ent PR A := ⟨n_slices_Equal_int_int, _, se_ok⟩
/-! ### Equal of the document -/
def lfRe : Nat → Option LoopSum := lfOf [(58, loopT [0, 1, 5] [4] fun vs H => match vs, H with
  | [.slice (.int .i64) a .view, .slice (.int .i64) b .view, .int .i64 i], [] :: S => .br (decide (i = 0) && decide (a.length = b.length)) (.br (a == b) (.yes (.exit 0, [.undef], [] :: S, [])) (.yes (.ret, [.bool false], [] :: S, []))) .no
  | _, _ => .no)]
theorem re_loops : ∀ x ∈ funLoops PR n_ref03_Equal, ∀ L, lfRe x.1 = some L → LoopOK (ntm PR n_ref03_Equal) (fun fr H wr k => code PR (cfE (P := PR) (A := A) []) cfgD lfRe (cfgD.live n_ref03_Equal) x.2 (2 * x.1) fr H wr k) L := by
  refine one_loop (p := 58) rfl (by kernel_rfl) (loopT_ok (by decide) fun vs H wr ex vs' H' w hv ha hh => ?_)
  split at hv
  · rename_i a b i S
    obtain ⟨hc, hv2⟩ := Tr.br_no hv
    clear hv
    simp only [Bool.and_eq_true, decide_eq_true_eq] at hc
    obtain ⟨rfl, hl⟩ := hc
    have hmax : a.length ≤ maxInt := by simp only [okAVs, okAV] at ha; exact ha.1.1
    refine ⟨a.length + 1, fun k => ?_⟩
    have := eq_loop (F := fun N i => LC PR (cfE (P := PR) (A := A) []) cfgD lfRe n_ref03_Equal 0 58 [0, 1, 5] [4] N [.slice (.int .i64) a .view, .slice (.int .i64) b .view, .int .i64 i] ([] :: S) wr k)
      (R := k .ret [.bool false] ([] :: S) wr) (E := k (.exit 0) [.undef] ([] :: S) wr) rfl hl hmax (fun N i => by kernel_rfl) a.length 0 (by omega)
    rw [List.drop_zero, List.drop_zero] at this
    rcases Tr.br_or hv2 with ⟨he, h4⟩ | ⟨he, h4⟩
    · cases h4; rw [he] at this; exact this
    · cases h4; rw [he] at this; exact this
  · cases hv
theorem re_ok : Con PR A n_ref03_Equal (pureC eqF) := by
  refine pure_con (cfg := cfgD) (lf := lfRe) [] mixed (by kernel_rfl) (by kernel_rfl) re_loops fun args v hv ha S => ?_
  unfold eqF at hv
  split at hv
  · rename_i a b
    cases hv
    have h : body PR (cfE (P := PR) (A := A) []) cfgD lfRe n_ref03_Equal [.slice (.int .i64) a .view, .slice (.int .i64) b .view] S some =
      (bif (a.length : Int) != (b.length : Int) then some (.bool false, [], S)
      else bif true && decide (a.length = b.length) then (bif a == b then some (.bool true, [], S) else some (.bool false, [], S)) else none) := by kernel_rfl
    rw [h, len_neq]
    by_cases hl : a.length = b.length
    · rw [decide_eq_true hl]
      cases a == b <;> rfl
    · rw [decide_eq_false hl, ne_len hl]; rfl
  · cases hv
def reE : Ent PR A := ⟨n_ref03_Equal, _, re_ok⟩
/-! ### slices.Index, Contains -/
def lfIx : Nat → Option LoopSum := lfOf [(26, loopT [0, 1, 7, 8] [4] fun vs H => match vs, H with
  | [.slice (.int .i64) a .view, .int .i64 x, .int .i64 m, .int .i64 i], [] :: S => .br (decide (m = a.length) && decide (i = 0)) (.br (a.any fun y => x == y) (.yes (.ret, [.int .i64 (idxI a x)], [] :: S, [])) (.yes (.exit 0, [.undef], [] :: S, []))) .no
  | _, _ => .no)]
theorem ix_loops : ∀ x ∈ funLoops PR n_slices_Index_int_int, ∀ L, lfIx x.1 = some L → LoopOK (ntm PR n_slices_Index_int_int) (fun fr H wr k => code PR (cfE (P := PR) (A := A) []) cfgD lfIx (cfgD.live n_slices_Index_int_int) x.2 (2 * x.1) fr H wr k) L := by
  refine one_loop (p := 26) rfl (by kernel_rfl) (loopT_ok (by decide) fun vs H wr ex vs' H' w hv ha hh => ?_)
  split at hv
  · rename_i a x m i S
    obtain ⟨hc, hv2⟩ := Tr.br_no hv
    clear hv
    simp only [Bool.and_eq_true, decide_eq_true_eq] at hc
    obtain ⟨hm, rfl⟩ := hc
    have hmax : a.length ≤ maxInt := by simp only [okAVs, okAV] at ha; exact ha.1.1
    refine ⟨a.length + 1, fun k => ?_⟩
    have := find_loop (F := fun N i => LC PR (cfE (P := PR) (A := A) []) cfgD lfIx n_slices_Index_int_int 0 26 [0, 1, 7, 8] [4] N [.slice (.int .i64) a .view, .int .i64 x, .int .i64 m, .int .i64 i] ([] :: S) wr k)
      (p := fun y => x == y) (R := fun i => k .ret [.int .i64 i] ([] :: S) wr) (E := k (.exit 0) [.undef] ([] :: S) wr) hm hmax (fun N i => by kernel_rfl) a.length 0 (by omega)
    rw [List.drop_zero] at this
    have hany := idxP_any (fun y => x == y) a 0
    rcases Tr.br_or hv2 with ⟨he, h4⟩ | ⟨he, h4⟩
    · cases h4
      unfold idxI
      rw [he] at hany
      cases hi : idxP (fun y => x == y) 0 a with
      | none => rw [hi] at hany; cases hany
      | some j => rw [hi] at this; exact this
    · cases h4
      rw [he] at hany
      cases hi : idxP (fun y => x == y) 0 a with
      | none => rw [hi] at this; exact this
      | some j => rw [hi] at hany; cases hany
  · cases hv
def idxF : List AV → Tr AV
  | [.slice (.int .i64) a .view, .int .i64 x] => .yes (.int .i64 (idxI a x))
  | _ => .no
theorem idxI_none {a : List Int} {x : Int} (h : (a.any fun y => x == y) = false) : idxI a x = -1 := by
  have hany := idxP_any (fun y => x == y) a 0
  rw [h] at hany
  unfold idxI
  cases hi : idxP (fun y => x == y) 0 a with
  | none => rfl
  | some j => rw [hi] at hany; cases hany
theorem idx_ok : Con PR A n_slices_Index_int_int (pureC idxF) := by
  refine pure_con (cfg := cfgD) (lf := lfIx) [] mixed (by kernel_rfl) (by kernel_rfl) ix_loops fun args v hv ha S => ?_
  unfold idxF at hv
  split at hv
  · rename_i a x
    cases hv
    have h : body PR (cfE (P := PR) (A := A) []) cfgD lfIx n_slices_Index_int_int [.slice (.int .i64) a .view, .int .i64 x] S some =
      (bif decide ((a.length : Int) = (a.length : Int)) && true then (bif a.any (fun y => x == y) then some (.int .i64 (idxI a x), [], S) else some (.int .i64 (-1), [], S)) else none) := by kernel_rfl
    rw [h, decide_eq_true rfl]
    cases hn : a.any (fun y => x == y) with
    | true => rfl
    | false => rw [idxI_none hn]; rfl
  · cases hv
def idxE : Ent PR A := ⟨n_slices_Index_int_int, _, idx_ok⟩
def conF : List AV → Tr AV
  | [.slice (.int .i64) a .view, .int .i64 x] => .yes (.bool (a.any fun y => x == y))
  | _ => .no
theorem con_ok : Con PR A n_slices_Contains_int_int (pureC conF) := by
  refine pure_con0 (cfg := cfgD) [idxE] mixed (by kernel_rfl) (by kernel_rfl) (by kernel_rfl) fun args v hv ha S => ?_
  unfold conF at hv
  split at hv
  · rename_i a x
    cases hv
    have h : body PR (cfE [idxE]) cfgD lf0 n_slices_Contains_int_int [.slice (.int .i64) a .view, .int .i64 x] S some = some (.bool (decide (idxI a x ≥ 0)), [], S) := by kernel_rfl
    rw [h, idxI_any]
  · cases hv
def conE : Ent PR A := ⟨n_slices_Contains_int_int, _, con_ok⟩
/-! ### Has -/
def hasF : List AV → Tr AV
  | [.agg [.int .i64 c, .int .i64 n, .slice (.int .i64) t .view, .str d], .int .i64 x] => .yes (.bool (hasB t x))
  | _ => .no
theorem has_ok : Con PR A n_record_Has (pureC hasF) := by
  refine pure_con0 (cfg := cfgD) [conE] mixed (by kernel_rfl) (by kernel_rfl) (by kernel_rfl) fun args v hv ha S => ?_
  unfold hasF at hv
  split at hv
  · rename_i c n t d x
    cases hv
    have h : body PR (cfE [conE]) cfgD lf0 n_record_Has [rec4 c n t d, .int .i64 x] S some = (bif x == 0 then some (.bool true, [], S) else some (.bool (t.any fun y => x == y), [], S)) := by kernel_rfl
    refine h.trans ?_
    unfold hasB
    cases x == 0 <;> rfl
  · cases hv
def hasE : Ent PR A := ⟨n_record_Has, _, has_ok⟩
def lfHs : Nat → Option LoopSum := lfOf [(58, loopT [1, 2, 5] [4] fun vs H => match vs, H with
  | [.int .i64 x, .ptr 0 0 0, .int .i64 i], [.cells [.int .i64 c, .int .i64 n, .slice (.int .i64) t .view, .str d]] :: S => .br (decide (i = 0)) (.br (t.any fun y => y == x) (.yes (.ret, [.bool true], [recOb c n t d] :: S, [])) (.yes (.exit 0, [.undef], [recOb c n t d] :: S, []))) .no
  | _, _ => .no)]
theorem hs_loops : ∀ x ∈ funLoops PR n_ref04_Has, ∀ L, lfHs x.1 = some L → LoopOK (ntm PR n_ref04_Has) (fun fr H wr k => code PR (cfE (P := PR) (A := A) []) cfgD lfHs (cfgD.live n_ref04_Has) x.2 (2 * x.1) fr H wr k) L := by
  refine one_loop (p := 58) rfl (by kernel_rfl) (loopT_ok (by decide) fun vs H wr ex vs' H' w hv ha hh => ?_)
  split at hv
  · rename_i x i c n t d S
    obtain ⟨hc, hv2⟩ := Tr.br_no hv
    clear hv
    simp only [decide_eq_true_eq] at hc
    subst hc
    have hmax : t.length ≤ maxInt := by
      have := hh 0 0 _ rfl
      simp only [okAVs, okAV] at this
      exact this.2.2.1.1
    refine ⟨t.length + 1, fun k => ?_⟩
    have := any_loop (F := fun N i => LC PR (cfE (P := PR) (A := A) []) cfgD lfHs n_ref04_Has 0 58 [1, 2, 5] [4] N [.int .i64 x, .ptr 0 0 0, .int .i64 i] ([recOb c n t d] :: S) wr k)
      (p := fun y => y == x) (R := k .ret [.bool true] ([recOb c n t d] :: S) wr) (E := k (.exit 0) [.undef] ([recOb c n t d] :: S) wr) rfl hmax (fun N i => by kernel_rfl) t.length 0 (by omega)
    rw [List.drop_zero] at this
    rcases Tr.br_or hv2 with ⟨he, h4⟩ | ⟨he, h4⟩
    · cases h4; rw [he] at this; exact this
    · cases h4; rw [he] at this; exact this
  · cases hv
theorem hasr_ok : Con PR A n_ref04_Has (pureC hasF) := by
  refine pure_con (cfg := cfgD) (lf := lfHs) [] mixed (by kernel_rfl) (by kernel_rfl) hs_loops fun args v hv ha S => ?_
  unfold hasF at hv
  split at hv
  · rename_i c n t d x
    cases hv
    have h : body PR (cfE (P := PR) (A := A) []) cfgD lfHs n_ref04_Has [rec4 c n t d, .int .i64 x] S some = (bif x == 0 then some (.bool true, [], S) else bif (t.any fun y => y == x) then some (.bool true, [], S) else some (.bool false, [], S)) := by kernel_rfl
    refine h.trans ?_
    unfold hasB
    have e : (fun y : Int => y == x) = fun y => x == y := funext fun y => by rw [Bool.eq_iff_iff]; simp only [beq_iff_eq]; exact eq_comm
    rw [e]
    cases x == 0 <;> cases (t.any fun y => x == y) <;> rfl
  · cases hv
def hasrE : Ent PR A := ⟨n_ref04_Has, _, hasr_ok⟩
/-! ### Same -/
def sameF : List AV → Tr AV
  | [.agg [.int .i64 c, .int .i64 n, .slice (.int .i64) t .view, .str d], .agg [.int .i64 c2, .int .i64 n2, .slice (.int .i64) t2 .view, .str d2]] => .yes (.bool (sameB c n t d c2 n2 t2 d2))
  | _ => .no
theorem same_ok : Con PR A n_record_Same (pureC sameF) := by
  refine pure_con0 (cfg := cfgD) [seE] mixed (by kernel_rfl) (by kernel_rfl) (by kernel_rfl) fun args v hv ha S => ?_
  unfold sameF at hv
  split at hv
  · rename_i c n t d c2 n2 t2 d2
    cases hv
    have h : body PR (cfE [seE]) cfgD lf0 n_record_Same [rec4 c n t d, rec4 c2 n2 t2 d2] S some = (bif c == c2 && (n == n2 && true) then bif t == t2 then some (.bool (d == d2), [], S) else some (.bool false, [], S) else some (.bool false, [], S)) := by kernel_rfl
    refine h.trans ?_
    unfold sameB
    cases c == c2 <;> cases n == n2 <;> cases t == t2 <;> cases d == d2 <;> rfl
  · cases hv
def sameE : Ent PR A := ⟨n_record_Same, _, same_ok⟩
def lfSm : Nat → Option LoopSum := lfOf [(58, loopT [2, 3, 5] [4] fun vs H => match vs, H with
  | [.ptr 0 0 0, .ptr 0 1 0, .int .i64 i], [.cells [.int .i64 c, .int .i64 n, .slice (.int .i64) t .view, .str d], .cells [.int .i64 c2, .int .i64 n2, .slice (.int .i64) t2 .view, .str d2]] :: S => .br (decide (i = 0) && decide (t.length = t2.length)) (.br (t == t2) (.yes (.exit 0, [.undef], [recOb c n t d, recOb c2 n2 t2 d2] :: S, [])) (.yes (.ret, [.bool false], [recOb c n t d, recOb c2 n2 t2 d2] :: S, []))) .no
  | _, _ => .no)]
theorem sm_loops : ∀ x ∈ funLoops PR n_ref04_Same, ∀ L, lfSm x.1 = some L → LoopOK (ntm PR n_ref04_Same) (fun fr H wr k => code PR (cfE (P := PR) (A := A) []) cfgD lfSm (cfgD.live n_ref04_Same) x.2 (2 * x.1) fr H wr k) L := by
  refine one_loop (p := 58) rfl (by kernel_rfl) (loopT_ok (by decide) fun vs H wr ex vs' H' w hv ha hh => ?_)
  split at hv
  · rename_i i c n t d c2 n2 t2 d2 S
    obtain ⟨hc, hv2⟩ := Tr.br_no hv
    clear hv
    simp only [Bool.and_eq_true, decide_eq_true_eq] at hc
    obtain ⟨rfl, hl⟩ := hc
    have hmax : t.length ≤ maxInt := by
      have := hh 0 0 _ rfl
      simp only [okAVs, okAV] at this
      exact this.2.2.1.1
    refine ⟨t.length + 1, fun k => ?_⟩
    have := eq_loop (F := fun N i => LC PR (cfE (P := PR) (A := A) []) cfgD lfSm n_ref04_Same 0 58 [2, 3, 5] [4] N [.ptr 0 0 0, .ptr 0 1 0, .int .i64 i] ([recOb c n t d, recOb c2 n2 t2 d2] :: S) wr k)
      (R := k .ret [.bool false] ([recOb c n t d, recOb c2 n2 t2 d2] :: S) wr) (E := k (.exit 0) [.undef] ([recOb c n t d, recOb c2 n2 t2 d2] :: S) wr) rfl hl hmax (fun N i => by kernel_rfl) t.length 0 (by omega)
    rw [List.drop_zero, List.drop_zero] at this
    rcases Tr.br_or hv2 with ⟨he, h4⟩ | ⟨he, h4⟩
    · cases h4; rw [he] at this; exact this
    · cases h4; rw [he] at this; exact this
  · cases hv
theorem samer_ok : Con PR A n_ref04_Same (pureC sameF) := by
  refine pure_con (cfg := cfgD) (lf := lfSm) [] mixed (by kernel_rfl) (by kernel_rfl) sm_loops fun args v hv ha S => ?_
  unfold sameF at hv
  split at hv
  · rename_i c n t d c2 n2 t2 d2
    cases hv
    have h : body PR (cfE (P := PR) (A := A) []) cfgD lfSm n_ref04_Same [rec4 c n t d, rec4 c2 n2 t2 d2] S some =
      (bif !(c == c2 && (n == n2 && true)) then some (.bool false, [], S)
      else bif d != d2 then some (.bool false, [], S)
      else bif (t.length : Int) != (t2.length : Int) then some (.bool false, [], S)
      else bif true && decide (t.length = t2.length) then bif t == t2 then some (.bool true, [], S) else some (.bool false, [], S) else none) := by kernel_rfl
    refine h.trans ?_
    unfold sameB
    rw [len_neq]
    by_cases hl : t.length = t2.length
    · rw [decide_eq_true hl, bne]
      cases c == c2 <;> cases n == n2 <;> cases t == t2 <;> cases d == d2 <;> rfl
    · rw [decide_eq_false hl, ne_len hl, bne]
      cases c == c2 <;> cases n == n2 <;> cases d == d2 <;> rfl
  · cases hv
def samerE : Ent PR A := ⟨n_ref04_Same, _, samer_ok⟩
/-! ### Less -/
def lessF : List AV → Tr AV
  | [.agg [.int .i64 a, .int .i64 b], .agg [.int .i64 c, .int .i64 d]] => .yes (.bool (lessB a b c d))
  | _ => .no
theorem less_ok : Con PR A n_record_Less (pureC lessF) := by
  refine pure_con0 (cfg := cfgD) [] mixed (by kernel_rfl) (by kernel_rfl) (by kernel_rfl) fun args v hv ha S => ?_
  unfold lessF at hv
  split at hv
  · rename_i a b c d
    cases hv
    have h : body PR (cfE (P := PR) (A := A) []) cfgD lf0 n_record_Less [.agg [.int .i64 a, .int .i64 b], .agg [.int .i64 c, .int .i64 d]] S some =
      (bif decide (a < c) then some (.bool true, [], S) else bif a == c then some (.bool (decide (b < d)), [], S) else some (.bool false, [], S)) := by kernel_rfl
    refine h.trans ?_
    unfold lessB
    cases decide (a < c) <;> cases a == c <;> rfl
  · cases hv
def lessE : Ent PR A := ⟨n_record_Less, _, less_ok⟩
theorem lessr_ok : Con PR A n_ref04_Less (pureC lessF) := by
  refine pure_con0 (cfg := cfgD) [] mixed (by kernel_rfl) (by kernel_rfl) (by kernel_rfl) fun args v hv ha S => ?_
  unfold lessF at hv
  split at hv
  · rename_i a b c d
    cases hv
    have h : body PR (cfE (P := PR) (A := A) []) cfgD lf0 n_ref04_Less [.agg [.int .i64 a, .int .i64 b], .agg [.int .i64 c, .int .i64 d]] S some =
      (bif a != c then some (.bool (decide (a < c)), [], S) else some (.bool (decide (b < d)), [], S)) := by kernel_rfl
    refine h.trans ?_
    unfold lessB
    by_cases he : a = c
    · subst he; simp
    · have : (a == c) = false := by simpa using he
      rw [bne, this]
      cases decide (a < c) <;> rfl
  · cases hv
def lessrE : Ent PR A := ⟨n_ref04_Less, _, lessr_ok⟩
end Go.Crc

/- Which records have a tag: by the program and by the document. Conditions: none. A text of this seat's numbers. -/
set_option linter.unusedVariables false
set_option linter.unusedSimpArgs false
set_option maxRecDepth 100000
namespace Go.Crc
open Go.Vm Go.Pack Go.Rec
def cfgT : Cfg := cfgOf [(n_pack_Num, [0]), (n_pack_Text, [0])] [n_pack_Num, n_pack_Text, n_crc_New, n_crc_Table_Put, n_record_Encode, n_pack_NewReader, n_record_Tagged] []
def tg1F : List AV → Stack → Tr Res
  | [.int .i64 k, .ptr 0 0 0], [.cells [.slice (.int .i64) a .own], x] :: S => .br (decide ((a.length + 1) * 8 ≤ 140737488355328)) (.yes (.tuple [], [(0, 0)], [.cells [.slice (.int .i64) (a ++ [k]) .own], x] :: S)) .no
  | _, _ => .no
theorem tg1_ok : Con PR A n_record_Tagged_1 (shapeC tg1F) := by
  refine shapeC_ok fun args S res hv => ?_
  unfold tg1F at hv
  split at hv
  · rename_i k a x S
    obtain ⟨hc, hv2⟩ := Tr.br_no hv
    cases hv2
    refine ⟨fun ha hh => ?_, fun l i hm => ?_⟩
    · have h : body PR (cfE (P := PR) (A := A) []) cfgT lf0 n_record_Tagged_1 [.int .i64 k, .ptr 0 0 0] ([.cells [.slice (.int .i64) a .own], x] :: S) some =
        (bif decide ((a.length + [k].length) * 8 ≤ 140737488355328) then some (.tuple [], [(0, 0)], [.cells [.slice (.int .i64) (a ++ [k]) .own], x] :: S) else none) := by kernel_rfl
      refine fun_call _ mixed (by kernel_rfl) (by kernel_rfl) (no_loops (by kernel_rfl)) (h.trans ?_)
      exact cond_eq hc
    · match l, i with
      | 0, 0 => simp [memWr, (beq_iff _ _).2 rfl] at hm
      | 0, 1 => exact .inl (copyvs_refl_ObE _)
      | 0, i + 2 => exact .inl (copyvs_refl_ObE _)
      | l + 1, i => exact .inl (copyvs_refl_ObE _)
  · cases hv
def tg1E : Ent PR A := ⟨n_record_Tagged_1, _, tg1_ok⟩
def lfT : Nat → Option LoopSum := lfOf [(122, loopT [1, 5, 6, 10, 11, 12] [5] fun vs H => match vs, H with
  | [.int .i64 tag, .ptr 0 0 0, .func f [] [.ptr 0 0 0], .slice (.pair (.pair (.int .i64) (.int .i64)) (.pair (.slice (.int .i64)) .str)) l .view, .int .i64 m, .int .i64 i], [.cells [.slice (.int .i64) out .own]] :: S =>
    .br (Nat.beq f n_record_Tagged_1 && decide (m = l.length) && (decide (i = 0) && decide ((out.length + l.length) * 8 ≤ 140737488355328))) (.yes (.exit 0, [.ptr 0 0 0], [.cells [.slice (.int .i64) (out ++ tagI tag 0 l) .own]] :: S, tagW tag l)) .no
  | _, _ => .no)]
def tgStep (tag : Int) (i : Int) (x : Rc) (s : List Int × Wr) (k : List Int × Wr → Option Res) : Option Res :=
  bif hasB x.2.1 tag then bif decide ((s.1.length + 1) * 8 ≤ 140737488355328) then k (s.1 ++ [i], (0, 0) :: (0, 1) :: s.2) else none else k (s.1, (0, 1) :: s.2)
theorem tg_fold (tag : Int) (E : List Int × Wr → Option Res) : ∀ (l : List Rc) (j : Nat) (out : List Int) (wr : Wr), (out.length + l.length) * 8 ≤ 140737488355328 →
    foldK (tgStep tag) E j l (out, wr) = E (out ++ tagI tag j l, app (tagW tag l) wr)
  | [], j, out, wr, h => by simp only [foldK, tagI, tagW, List.append_nil, app]
  | x :: r, j, out, wr, h => by
    simp only [List.length_cons] at h
    simp only [tagI, tagW]
    rw [show foldK (tgStep tag) E j (x :: r) (out, wr) = (bif hasB x.2.1 tag then bif decide ((out.length + 1) * 8 ≤ 140737488355328) then foldK (tgStep tag) E (j + 1) r (out ++ [(j : Int)], (0, 0) :: (0, 1) :: wr) else none else foldK (tgStep tag) E (j + 1) r (out, (0, 1) :: wr)) from rfl]
    cases hb : hasB x.2.1 tag with
    | true =>
      rw [cond_true, cond_true, cond_true, cond_eq (decide_eq_true (by omega)), tg_fold tag E r (j + 1) _ _ (by rw [List.length_append]; simp only [List.length_cons, List.length_nil]; omega)]
      simp only [List.append_assoc, List.singleton_append, app_eq, List.cons_append, List.nil_append]
    | false =>
      rw [cond_false, cond_false, cond_false, tg_fold tag E r (j + 1) _ _ (by omega)]
      simp only [app_eq, List.append_assoc, List.cons_append, List.nil_append]
theorem tg_loops : ∀ x ∈ funLoops PR n_record_Tagged, ∀ L, lfT x.1 = some L → LoopOK (ntm PR n_record_Tagged) (fun fr H wr k => code PR (cfE [hasE, tg1E]) cfgT lfT (cfgT.live n_record_Tagged) x.2 (2 * x.1) fr H wr k) L := by
  refine one_loop (p := 122) rfl (by kernel_rfl) (loopT_ok (by decide) fun vs H wr ex vs' H' w hv ha hh => ?_)
  split at hv
  · rename_i tag f l m i out S
    obtain ⟨hc, hv2⟩ := Tr.br_no hv
    clear hv
    simp only [Bool.and_eq_true, decide_eq_true_eq, beq_iff] at hc
    obtain ⟨⟨rfl, hm⟩, rfl, hl⟩ := hc
    cases hv2
    refine ⟨l.length + 1, fun k => ?_⟩
    have := fold_loop (F := fun N i s => LC PR (cfE [hasE, tg1E]) cfgT lfT n_record_Tagged 0 122 [1, 5, 6, 10, 11, 12] [5] N [.int .i64 tag, .ptr 0 0 0, .func n_record_Tagged_1 [] [.ptr 0 0 0], .slice RecT l .view, .int .i64 m, .int .i64 i] ([.cells [.slice (.int .i64) s.1 .own]] :: S) s.2 k)
      (step := tgStep tag) (E := fun s => k (.exit 0) [.ptr 0 0 0] ([.cells [.slice (.int .i64) s.1 .own]] :: S) s.2) hm (by simp only [maxInt]; omega) (fun N i s => by kernel_rfl) l.length 0 (out, wr) (by omega)
    rw [List.drop_zero, tg_fold tag _ l 0 out wr hl] at this
    exact this
  · cases hv
def tagF (lv : Lv) : List AV → Tr AV
  | [.slice (.pair (.pair (.int .i64) (.int .i64)) (.pair (.slice (.int .i64)) .str)) l .view, .int .i64 tag] => .br (decide (l.length * 8 ≤ 140737488355328)) (.yes (.slice (.int .i64) (tagI tag 0 l) lv)) .no
  | _ => .no
theorem tag_ok : Con PR A n_record_Tagged (pureC (tagF .own)) := by
  refine pure_con (cfg := cfgT) (lf := lfT) [hasE, tg1E] mixed (by kernel_rfl) (by kernel_rfl) tg_loops fun args v hv ha S => ?_
  unfold tagF at hv
  split at hv
  · rename_i l tag
    obtain ⟨hl, hv2⟩ := Tr.br_no hv
    cases hv2
    simp only [decide_eq_true_eq] at hl
    have h : body PR (cfE [hasE, tg1E]) cfgT lfT n_record_Tagged [.slice RecT l .view, .int .i64 tag] S some =
      (bif true && decide ((l.length : Int) = (l.length : Int)) && (true && decide ((0 + l.length) * 8 ≤ 140737488355328)) then some (.slice (.int .i64) (tagI tag 0 l) .own, outer (app (tagW tag l) []), S) else none) := by kernel_rfl
    refine h.trans ?_
    rw [decide_eq_true rfl, decide_eq_true (show (0 + l.length) * 8 ≤ 140737488355328 by omega), outer_app0 _ _ (tagW_all0 tag l)]
    rfl
  · cases hv
def tagE : Ent PR A := ⟨n_record_Tagged, _, tag_ok⟩
/-! ### The document's -/
def lfTr : Nat → Option LoopSum := lfOf [(58, loopT [0, 1, 5, 6] [5] fun vs H => match vs, H with
  | [.slice (.pair (.pair (.int .i64) (.int .i64)) (.pair (.slice (.int .i64)) .str)) l .view, .int .i64 tag, .slice (.int .i64) out .own, .int .i64 i], [] :: S =>
    .br (decide (i = 0) && decide ((out.length + l.length) * 8 ≤ 140737488355328)) (.yes (.exit 0, [.slice (.int .i64) (out ++ tagI tag 0 l) .own], [] :: S, [])) .no
  | _, _ => .no)]
def trStep (tag : Int) (i : Int) (x : Rc) (s : List Int) (k : List Int → Option Res) : Option Res :=
  bif hasB x.2.1 tag then bif decide ((s.length + [i].length) * 8 ≤ 140737488355328) then k (s ++ [i]) else none else k s
theorem tr_fold (tag : Int) (E : List Int → Option Res) : ∀ (l : List Rc) (j : Nat) (out : List Int), (out.length + l.length) * 8 ≤ 140737488355328 →
    foldK (trStep tag) E j l out = E (out ++ tagI tag j l)
  | [], j, out, h => by simp only [foldK, tagI, List.append_nil]
  | x :: r, j, out, h => by
    simp only [List.length_cons] at h
    simp only [tagI]
    rw [show foldK (trStep tag) E j (x :: r) out = (bif hasB x.2.1 tag then bif decide ((out.length + [(j : Int)].length) * 8 ≤ 140737488355328) then foldK (trStep tag) E (j + 1) r (out ++ [(j : Int)]) else none else foldK (trStep tag) E (j + 1) r out) from rfl]
    cases hb : hasB x.2.1 tag with
    | true =>
      rw [cond_true, cond_true, cond_eq (decide_eq_true (by simp only [List.length_cons, List.length_nil]; omega)), tr_fold tag E r (j + 1) _ (by rw [List.length_append]; simp only [List.length_cons, List.length_nil]; omega)]
      simp only [List.append_assoc, List.singleton_append]
    | false => rw [cond_false, cond_false, tr_fold tag E r (j + 1) _ (by omega)]
theorem tr_loops : ∀ x ∈ funLoops PR n_ref04_Tagged, ∀ L, lfTr x.1 = some L → LoopOK (ntm PR n_ref04_Tagged) (fun fr H wr k => code PR (cfE [hasrE]) cfgT lfTr (cfgT.live n_ref04_Tagged) x.2 (2 * x.1) fr H wr k) L := by
  refine one_loop (p := 58) rfl (by kernel_rfl) (loopT_ok (by decide) fun vs H wr ex vs' H' w hv ha hh => ?_)
  split at hv
  · rename_i l tag out i S
    obtain ⟨hc, hv2⟩ := Tr.br_no hv
    clear hv
    simp only [Bool.and_eq_true, decide_eq_true_eq] at hc
    obtain ⟨rfl, hl⟩ := hc
    cases hv2
    refine ⟨l.length + 1, fun k => ?_⟩
    have := fold_loop (F := fun N i s => LC PR (cfE [hasrE]) cfgT lfTr n_ref04_Tagged 0 58 [0, 1, 5, 6] [5] N [.slice RecT l .view, .int .i64 tag, .slice (.int .i64) s .own, .int .i64 i] ([] :: S) wr k)
      (step := trStep tag) (E := fun s => k (.exit 0) [.slice (.int .i64) s .own] ([] :: S) wr) (xs := l) rfl (by simp only [maxInt]; omega) (fun N i s => by kernel_rfl) l.length 0 out (by omega)
    rw [List.drop_zero, tr_fold tag _ l 0 out hl] at this
    exact this
  · cases hv
theorem tagr_ok : Con PR A n_ref04_Tagged (pureC (tagF .view)) := by
  refine pure_con (cfg := cfgT) (lf := lfTr) [hasrE] mixed (by kernel_rfl) (by kernel_rfl) tr_loops fun args v hv ha S => ?_
  unfold tagF at hv
  split at hv
  · rename_i l tag
    obtain ⟨hl, hv2⟩ := Tr.br_no hv
    cases hv2
    simp only [decide_eq_true_eq] at hl
    have h : body PR (cfE [hasrE]) cfgT lfTr n_ref04_Tagged [.slice RecT l .view, .int .i64 tag] S some =
      (bif true && decide ((0 + l.length) * 8 ≤ 140737488355328) then some (.slice (.int .i64) (tagI tag 0 l) .view, [], S) else none) := by kernel_rfl
    refine h.trans ?_
    rw [decide_eq_true (show (0 + l.length) * 8 ≤ 140737488355328 by omega)]
    rfl
  · cases hv
def tagrE : Ent PR A := ⟨n_ref04_Tagged, _, tagr_ok⟩
end Go.Crc
