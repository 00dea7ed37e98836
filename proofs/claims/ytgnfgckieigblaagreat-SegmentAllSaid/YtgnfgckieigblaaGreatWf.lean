/- Contracts of functions of this program. Conditions: none. -/
import Derived.Test.YtgnfgckieigblaaGreatWe
import Derived.Test.YtgnfgckieigblaaGreatWd
import Derived.Test.YtgnfgckieigblaaGreatVg
set_option linter.unusedVariables false
set_option linter.unusedSimpArgs false
/- Rows of numbers and records compared, tags looked for, places ordered: by the program and by the document. Conditions: none. A text of this seat's numbers. -/
set_option linter.unusedVariables false
set_option linter.unusedSimpArgs false
set_option maxRecDepth 100000
namespace Go.Crc
open Go.Vm Go.Pack Go.Rec
def eqF : List AV → Tr AV
  | [.slice (.int .i64) a .view, .slice (.int .i64) b .view] => .yes (.bool (a == b))
  | _ => .no
theorem ne_len {α : Type} [BEq α] [LawfulBEq α] {a b : List α} (h : a.length ≠ b.length) : (a == b) = false := by
  rw [beq_eq_false_iff_ne]
  exact fun e => h (by rw [e])
theorem len_neq {a b : List Int} : ((a.length : Int) != (b.length : Int)) = !decide (a.length = b.length) := by
  by_cases h : a.length = b.length
  · simp [h]
  · simp [h]; omega
/-! ### slices.Equal -/
def lfSe : Nat → Option LoopSum := lfOf [(58, loopT [0, 1, 12, 13] [4] fun vs H => match vs, H with
  | [.slice (.int .i64) a .view, .slice (.int .i64) b .view, .int .i64 m, .int .i64 i], [] :: S => .br (decide (m = a.length) && decide (i = 0) && decide (a.length = b.length)) (.br (a == b) (.yes (.exit 0, [.undef], [] :: S, [])) (.yes (.ret, [.bool false], [] :: S, []))) .no
  | _, _ => .no)]
theorem se_loops : ∀ x ∈ funLoops PR n_slices_Equal_int_int, ∀ L, lfSe x.1 = some L → LoopOK (ntm PR n_slices_Equal_int_int) (fun fr H wr k => code PR (cfE (P := PR) (A := A) []) cfgD lfSe (cfgD.live n_slices_Equal_int_int) x.2 (2 * x.1) fr H wr k) L := by
  refine one_loop (p := 58) rfl (by kernel_rfl) (loopT_ok (by decide) fun vs H wr ex vs' H' w hv ha hh => ?_)
  split at hv
  · rename_i a b m i S
    obtain ⟨hc, hv2⟩ := Tr.br_no hv
    clear hv
    simp only [Bool.and_eq_true, decide_eq_true_eq] at hc
    obtain ⟨⟨hm, rfl⟩, hl⟩ := hc
    have hmax : a.length ≤ maxInt := by simp only [okAVs, okAV] at ha; exact ha.1.1
    refine ⟨a.length + 1, fun k => ?_⟩
    have := eq_loop (F := fun N i => LC PR (cfE (P := PR) (A := A) []) cfgD lfSe n_slices_Equal_int_int 0 58 [0, 1, 12, 13] [4] N [.slice (.int .i64) a .view, .slice (.int .i64) b .view, .int .i64 m, .int .i64 i] ([] :: S) wr k)
      (R := k .ret [.bool false] ([] :: S) wr) (E := k (.exit 0) [.undef] ([] :: S) wr) hm hl hmax (fun N i => by kernel_rfl) a.length 0 (by omega)
    rw [List.drop_zero, List.drop_zero] at this
    rcases Tr.br_or hv2 with ⟨he, h4⟩ | ⟨he, h4⟩
    · cases h4; rw [he] at this; exact this
    · cases h4; rw [he] at this; exact this
  · cases hv
theorem se_ok : Con PR A n_slices_Equal_int_int (pureC eqF) := by
  refine pure_con (cfg := cfgD) (lf := lfSe) [] mixed (by kernel_rfl) (by kernel_rfl) se_loops fun args v hv ha S => ?_
  unfold eqF at hv
  split at hv
  · rename_i a b
    cases hv
    have h : body PR (cfE (P := PR) (A := A) []) cfgD lfSe n_slices_Equal_int_int [.slice (.int .i64) a .view, .slice (.int .i64) b .view] S some =
      (bif (a.length : Int) != (b.length : Int) then some (.bool false, [], S)
      else bif decide ((a.length : Int) = (a.length : Int)) && true && decide (a.length = b.length) then (bif a == b then some (.bool true, [], S) else some (.bool false, [], S)) else none) := by kernel_rfl
    rw [h, len_neq, decide_eq_true rfl]
    by_cases hl : a.length = b.length
    · rw [decide_eq_true hl]
      cases a == b <;> rfl
    · rw [decide_eq_false hl, ne_len hl]; rfl
  · cases hv
def seE : Ent PR A := ⟨n_slices_Equal_int_int, _, se_ok⟩
/-! ### Equal of the document -/
def lfRe : Nat → Option LoopSum := lfOf [(58, loopT [0, 1, 5] [4] fun vs H => match vs, H with
  | [.slice (.int .i64) a .view, .slice (.int .i64) b .view, .int .i64 i], [] :: S => .br (decide (i = 0) && decide (a.length = b.length)) (.br (a == b) (.yes (.exit 0, [.undef], [] :: S, [])) (.yes (.ret, [.bool false], [] :: S, []))) .no
  | _, _ => .no)]
/-! ### slices.Index, Contains -/
def lfIx : Nat → Option LoopSum := lfOf [(26, loopT [0, 1, 7, 8] [4] fun vs H => match vs, H with
  | [.slice (.int .i64) a .view, .int .i64 x, .int .i64 m, .int .i64 i], [] :: S => .br (decide (m = a.length) && decide (i = 0)) (.br (a.any fun y => x == y) (.yes (.ret, [.int .i64 (idxI a x)], [] :: S, [])) (.yes (.exit 0, [.undef], [] :: S, []))) .no
  | _, _ => .no)]
def idxF : List AV → Tr AV
  | [.slice (.int .i64) a .view, .int .i64 x] => .yes (.int .i64 (idxI a x))
  | _ => .no
theorem idxI_none {a : List Int} {x : Int} (h : (a.any fun y => x == y) = false) : idxI a x = -1 := by
  have hany := idxP_any (fun y => x == y) a 0
  rw [h] at hany
  unfold idxI
  cases hi : idxP (fun y => x == y) 0 a with
  | none => rfl
  | some j => rw [hi] at hany; cases hany
def conF : List AV → Tr AV
  | [.slice (.int .i64) a .view, .int .i64 x] => .yes (.bool (a.any fun y => x == y))
  | _ => .no
/-! ### Has -/
def hasF : List AV → Tr AV
  | [.agg [.int .i64 c, .int .i64 n, .slice (.int .i64) t .view, .str d], .int .i64 x] => .yes (.bool (hasB t x))
  | _ => .no
def lfHs : Nat → Option LoopSum := lfOf [(58, loopT [1, 2, 5] [4] fun vs H => match vs, H with
  | [.int .i64 x, .ptr 0 0 0, .int .i64 i], [.cells [.int .i64 c, .int .i64 n, .slice (.int .i64) t .view, .str d]] :: S => .br (decide (i = 0)) (.br (t.any fun y => y == x) (.yes (.ret, [.bool true], [recOb c n t d] :: S, [])) (.yes (.exit 0, [.undef], [recOb c n t d] :: S, []))) .no
  | _, _ => .no)]
/-! ### Same -/
def sameF : List AV → Tr AV
  | [.agg [.int .i64 c, .int .i64 n, .slice (.int .i64) t .view, .str d], .agg [.int .i64 c2, .int .i64 n2, .slice (.int .i64) t2 .view, .str d2]] => .yes (.bool (sameB c n t d c2 n2 t2 d2))
  | _ => .no
theorem same_ok : Con PR A n_record_Same (pureC sameF) := by
  refine pure_con0 (cfg := cfgD) [seE] mixed (by kernel_rfl) (by kernel_rfl) (by kernel_rfl) fun args v hv ha S => ?_
  unfold sameF at hv
  split at hv
  · rename_i c n t d c2 n2 t2 d2
    cases hv
    have h : body PR (cfE [seE]) cfgD lf0 n_record_Same [rec4 c n t d, rec4 c2 n2 t2 d2] S some = (bif c == c2 && (n == n2 && true) then bif t == t2 then some (.bool (d == d2), [], S) else some (.bool false, [], S) else some (.bool false, [], S)) := by kernel_rfl
    refine h.trans ?_
    unfold sameB
    cases c == c2 <;> cases n == n2 <;> cases t == t2 <;> cases d == d2 <;> rfl
  · cases hv
def sameE : Ent PR A := ⟨n_record_Same, _, same_ok⟩
def lfSm : Nat → Option LoopSum := lfOf [(58, loopT [2, 3, 5] [4] fun vs H => match vs, H with
  | [.ptr 0 0 0, .ptr 0 1 0, .int .i64 i], [.cells [.int .i64 c, .int .i64 n, .slice (.int .i64) t .view, .str d], .cells [.int .i64 c2, .int .i64 n2, .slice (.int .i64) t2 .view, .str d2]] :: S => .br (decide (i = 0) && decide (t.length = t2.length)) (.br (t == t2) (.yes (.exit 0, [.undef], [recOb c n t d, recOb c2 n2 t2 d2] :: S, [])) (.yes (.ret, [.bool false], [recOb c n t d, recOb c2 n2 t2 d2] :: S, []))) .no
  | _, _ => .no)]
theorem sm_loops : ∀ x ∈ funLoops PR n_ref04_Same, ∀ L, lfSm x.1 = some L → LoopOK (ntm PR n_ref04_Same) (fun fr H wr k => code PR (cfE (P := PR) (A := A) []) cfgD lfSm (cfgD.live n_ref04_Same) x.2 (2 * x.1) fr H wr k) L := by
  refine one_loop (p := 58) rfl (by kernel_rfl) (loopT_ok (by decide) fun vs H wr ex vs' H' w hv ha hh => ?_)
  split at hv
  · rename_i i c n t d c2 n2 t2 d2 S
    obtain ⟨hc, hv2⟩ := Tr.br_no hv
    clear hv
    simp only [Bool.and_eq_true, decide_eq_true_eq] at hc
    obtain ⟨rfl, hl⟩ := hc
    have hmax : t.length ≤ maxInt := by
      have := hh 0 0 _ rfl
      simp only [okAVs, okAV] at this
      exact this.2.2.1.1
    refine ⟨t.length + 1, fun k => ?_⟩
    have := eq_loop (F := fun N i => LC PR (cfE (P := PR) (A := A) []) cfgD lfSm n_ref04_Same 0 58 [2, 3, 5] [4] N [.ptr 0 0 0, .ptr 0 1 0, .int .i64 i] ([recOb c n t d, recOb c2 n2 t2 d2] :: S) wr k)
      (R := k .ret [.bool false] ([recOb c n t d, recOb c2 n2 t2 d2] :: S) wr) (E := k (.exit 0) [.undef] ([recOb c n t d, recOb c2 n2 t2 d2] :: S) wr) rfl hl hmax (fun N i => by kernel_rfl) t.length 0 (by omega)
    rw [List.drop_zero, List.drop_zero] at this
    rcases Tr.br_or hv2 with ⟨he, h4⟩ | ⟨he, h4⟩
    · cases h4; rw [he] at this; exact this
    · cases h4; rw [he] at this; exact this
  · cases hv
theorem samer_ok : Con PR A n_ref04_Same (pureC sameF) := by
  refine pure_con (cfg := cfgD) (lf := lfSm) [] mixed (by kernel_rfl) (by kernel_rfl) sm_loops fun args v hv ha S => ?_
  unfold sameF at hv
  split at hv
  · rename_i c n t d c2 n2 t2 d2
    cases hv
    have h : body PR (cfE (P := PR) (A := A) []) cfgD lfSm n_ref04_Same [rec4 c n t d, rec4 c2 n2 t2 d2] S some =
      (bif !(c == c2 && (n == n2 && true)) then some (.bool false, [], S)
      else bif d != d2 then some (.bool false, [], S)
      else bif (t.length : Int) != (t2.length : Int) then some (.bool false, [], S)
      else bif true && decide (t.length = t2.length) then bif t == t2 then some (.bool true, [], S) else some (.bool false, [], S) else none) := by kernel_rfl
    refine h.trans ?_
    unfold sameB
    rw [len_neq]
    by_cases hl : t.length = t2.length
    · rw [decide_eq_true hl, bne]
      cases c == c2 <;> cases n == n2 <;> cases t == t2 <;> cases d == d2 <;> rfl
    · rw [decide_eq_false hl, ne_len hl, bne]
      cases c == c2 <;> cases n == n2 <;> cases d == d2 <;> rfl
  · cases hv
def samerE : Ent PR A := ⟨n_ref04_Same, _, samer_ok⟩
/-! ### Less -/
def lessF : List AV → Tr AV
  | [.agg [.int .i64 a, .int .i64 b], .agg [.int .i64 c, .int .i64 d]] => .yes (.bool (lessB a b c d))
  | _ => .no
end Go.Crc

/- Rows of numbers are copied. Conditions: none. A text of this seat's numbers. -/
set_option linter.unusedVariables false
set_option linter.unusedSimpArgs false
set_option maxRecDepth 100000
namespace Go.Crc
open Go.Vm Go.Pack
def cfgZ : Cfg := cfgOf [] [] []
def cliF : List AV → Tr AV
  | [.slice (.int .i64) b .view] => .br (decide (b.length * 8 ≤ 140737488355328)) (.yes (.slice (.int .i64) b .view)) .no
  | _ => .no
theorem cli_ok : Con PR A n_slices_Clone_int_int (pureC cliF) := by
  refine pureC_ok fun args v hv ha S => ?_
  unfold cliF at hv
  split at hv
  · rename_i b
    obtain ⟨hc, hv2⟩ := Tr.br_no hv
    cases hv2
    simp only [decide_eq_true_eq] at hc
    refine SimCall.nilsplit ?_ ?_
    · have h : body PR (cfE (P := PR) (A := A) []) cfgZ lf0 n_slices_Clone_int_int [.slice (.int .i64) b .nn] S some = (bif decide ((0 + b.length) * 8 ≤ 140737488355328) then some (.slice (.int .i64) ([] ++ b) .view, [], S) else none) := by kernel_rfl
      rw [cond_eq (by simp; omega)] at h
      exact fun_call _ mixed (by kernel_rfl) (by kernel_rfl) (no_loops (by kernel_rfl)) h
    · intro hb
      subst hb
      have h : body PR (cfE (P := PR) (A := A) []) cfgZ lf0 n_slices_Clone_int_int [.slice (.int .i64) [] .nilv] S some = some (.slice (.int .i64) [] .view, [], S) := by kernel_rfl
      exact fun_call _ mixed (by kernel_rfl) (by kernel_rfl) (no_loops (by kernel_rfl)) h
  · cases hv
def cliE : Ent PR A := ⟨n_slices_Clone_int_int, _, cli_ok⟩
end Go.Crc
