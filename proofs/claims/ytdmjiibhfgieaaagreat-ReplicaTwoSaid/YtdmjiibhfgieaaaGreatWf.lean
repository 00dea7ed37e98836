/- Contracts of functions of this program. Conditions: none. -/
import Derived.Test.YtdmjiibhfgieaaaGreatWe
import Derived.Test.YtdmjiibhfgieaaaGreatWd
import Derived.Test.YtdmjiibhfgieaaaGreatVg
import Derived.Test.YtdmjiibhfgieaaaGreatVp
set_option linter.unusedVariables false
set_option linter.unusedSimpArgs false
/- Rows of numbers and records compared, tags looked for, places ordered: by the program and by the document. Conditions: none. A text of this seat's numbers. -/
set_option linter.unusedVariables false
set_option linter.unusedSimpArgs false
set_option maxRecDepth 100000
namespace Go.Crc
open Go.Vm Go.Pack Go.Rec
def lfIx : Nat → Option LoopSum := lfOf [(26, loopT [0, 1, 7, 8] [4] fun vs H => match vs, H with
  | [.slice (.int .i64) a .view, .int .i64 x, .int .i64 m, .int .i64 i], [] :: S => .br (decide (m = a.length) && decide (i = 0)) (.br (a.any fun y => x == y) (.yes (.ret, [.int .i64 (idxI a x)], [] :: S, [])) (.yes (.exit 0, [.undef], [] :: S, []))) .no
  | _, _ => .no)]
theorem ix_loops : ∀ x ∈ funLoops PR n_slices_Index_int_int, ∀ L, lfIx x.1 = some L → LoopOK (ntm PR n_slices_Index_int_int) (fun fr H wr k => code PR (cfE (P := PR) (A := A) []) cfgD lfIx (cfgD.live n_slices_Index_int_int) x.2 (2 * x.1) fr H wr k) L := by
  refine one_loop (p := 26) rfl (by kernel_rfl) (loopT_ok (by decide) fun vs H wr ex vs' H' w hv ha hh => ?_)
  split at hv
  · rename_i a x m i S
    obtain ⟨hc, hv2⟩ := Tr.br_no hv
    clear hv
    simp only [Bool.and_eq_true, decide_eq_true_eq] at hc
    obtain ⟨hm, rfl⟩ := hc
    have hmax : a.length ≤ maxInt := by simp only [okAVs, okAV] at ha; exact ha.1.1
    refine ⟨a.length + 1, fun k => ?_⟩
    have := find_loop (F := fun N i => LC PR (cfE (P := PR) (A := A) []) cfgD lfIx n_slices_Index_int_int 0 26 [0, 1, 7, 8] [4] N [.slice (.int .i64) a .view, .int .i64 x, .int .i64 m, .int .i64 i] ([] :: S) wr k)
      (p := fun y => x == y) (R := fun i => k .ret [.int .i64 i] ([] :: S) wr) (E := k (.exit 0) [.undef] ([] :: S) wr) hm hmax (fun N i => by kernel_rfl) a.length 0 (by omega)
    rw [List.drop_zero] at this
    have hany := idxP_any (fun y => x == y) a 0
    rcases Tr.br_or hv2 with ⟨he, h4⟩ | ⟨he, h4⟩
    · cases h4
      unfold idxI
      rw [he] at hany
      cases hi : idxP (fun y => x == y) 0 a with
      | none => rw [hi] at hany; cases hany
      | some j => rw [hi] at this; exact this
    · cases h4
      rw [he] at hany
      cases hi : idxP (fun y => x == y) 0 a with
      | none => rw [hi] at this; exact this
      | some j => rw [hi] at hany; cases hany
  · cases hv
def idxF : List AV → Tr AV
  | [.slice (.int .i64) a .view, .int .i64 x] => .yes (.int .i64 (idxI a x))
  | _ => .no
theorem idxI_none {a : List Int} {x : Int} (h : (a.any fun y => x == y) = false) : idxI a x = -1 := by
  have hany := idxP_any (fun y => x == y) a 0
  rw [h] at hany
  unfold idxI
  cases hi : idxP (fun y => x == y) 0 a with
  | none => rfl
  | some j => rw [hi] at hany; cases hany
theorem idx_ok : Con PR A n_slices_Index_int_int (pureC idxF) := by
  refine pure_con (cfg := cfgD) (lf := lfIx) [] mixed (by kernel_rfl) (by kernel_rfl) ix_loops fun args v hv ha S => ?_
  unfold idxF at hv
  split at hv
  · rename_i a x
    cases hv
    have h : body PR (cfE (P := PR) (A := A) []) cfgD lfIx n_slices_Index_int_int [.slice (.int .i64) a .view, .int .i64 x] S some =
      (bif decide ((a.length : Int) = (a.length : Int)) && true then (bif a.any (fun y => x == y) then some (.int .i64 (idxI a x), [], S) else some (.int .i64 (-1), [], S)) else none) := by kernel_rfl
    rw [h, decide_eq_true rfl]
    cases hn : a.any (fun y => x == y) with
    | true => rfl
    | false => rw [idxI_none hn]; rfl
  · cases hv
def idxE : Ent PR A := ⟨n_slices_Index_int_int, _, idx_ok⟩
def conF : List AV → Tr AV
  | [.slice (.int .i64) a .view, .int .i64 x] => .yes (.bool (a.any fun y => x == y))
  | _ => .no
theorem con_ok : Con PR A n_slices_Contains_int_int (pureC conF) := by
  refine pure_con0 (cfg := cfgD) [idxE] mixed (by kernel_rfl) (by kernel_rfl) (by kernel_rfl) fun args v hv ha S => ?_
  unfold conF at hv
  split at hv
  · rename_i a x
    cases hv
    have h : body PR (cfE [idxE]) cfgD lf0 n_slices_Contains_int_int [.slice (.int .i64) a .view, .int .i64 x] S some = some (.bool (decide (idxI a x ≥ 0)), [], S) := by kernel_rfl
    rw [h, idxI_any]
  · cases hv
def conE : Ent PR A := ⟨n_slices_Contains_int_int, _, con_ok⟩
def sameF : List AV → Tr AV
  | [.agg [.int .i64 c, .int .i64 n, .slice (.int .i64) t .view, .str d], .agg [.int .i64 c2, .int .i64 n2, .slice (.int .i64) t2 .view, .str d2]] => .yes (.bool (sameB c n t d c2 n2 t2 d2))
  | _ => .no
theorem same_ok : Con PR A n_record_Same (pureC sameF) := by
  refine pure_con0 (cfg := cfgD) [seE] mixed (by kernel_rfl) (by kernel_rfl) (by kernel_rfl) fun args v hv ha S => ?_
  unfold sameF at hv
  split at hv
  · rename_i c n t d c2 n2 t2 d2
    cases hv
    have h : body PR (cfE [seE]) cfgD lf0 n_record_Same [rec4 c n t d, rec4 c2 n2 t2 d2] S some = (bif c == c2 && (n == n2 && true) then bif t == t2 then some (.bool (d == d2), [], S) else some (.bool false, [], S) else some (.bool false, [], S)) := by kernel_rfl
    refine h.trans ?_
    unfold sameB
    cases c == c2 <;> cases n == n2 <;> cases t == t2 <;> cases d == d2 <;> rfl
  · cases hv
def sameE : Ent PR A := ⟨n_record_Same, _, same_ok⟩
end Go.Crc
/- Rows of numbers are copied. Conditions: none. A text of this seat's numbers. -/
set_option linter.unusedVariables false
set_option linter.unusedSimpArgs false
set_option maxRecDepth 100000
namespace Go.Crc
open Go.Vm Go.Pack
def cfgZ : Cfg := cfgOf [] [] []
def cliF : List AV → Tr AV
  | [.slice (.int .i64) b .view] => .br (decide (b.length * 8 ≤ 140737488355328)) (.yes (.slice (.int .i64) b .view)) .no
  | _ => .no
theorem cli_ok : Con PR A n_slices_Clone_int_int (pureC cliF) := by
  refine pureC_ok fun args v hv ha S => ?_
  unfold cliF at hv
  split at hv
  · rename_i b
    obtain ⟨hc, hv2⟩ := Tr.br_no hv
    cases hv2
    simp only [decide_eq_true_eq] at hc
    refine SimCall.nilsplit ?_ ?_
    · have h : body PR (cfE (P := PR) (A := A) []) cfgZ lf0 n_slices_Clone_int_int [.slice (.int .i64) b .nn] S some = (bif decide ((0 + b.length) * 8 ≤ 140737488355328) then some (.slice (.int .i64) ([] ++ b) .view, [], S) else none) := by kernel_rfl
      rw [cond_eq (by simp; omega)] at h
      exact fun_call _ mixed (by kernel_rfl) (by kernel_rfl) (no_loops (by kernel_rfl)) h
    · intro hb
      subst hb
      have h : body PR (cfE (P := PR) (A := A) []) cfgZ lf0 n_slices_Clone_int_int [.slice (.int .i64) [] .nilv] S some = some (.slice (.int .i64) [] .view, [], S) := by kernel_rfl
      exact fun_call _ mixed (by kernel_rfl) (by kernel_rfl) (no_loops (by kernel_rfl)) h
  · cases hv
def cliE : Ent PR A := ⟨n_slices_Clone_int_int, _, cli_ok⟩
end Go.Crc
/- Which vectors may be, by the program and by the document. Conditions: none. A text of this seat's numbers. -/
set_option linter.unusedVariables false
set_option linter.unusedSimpArgs false
set_option maxRecDepth 100000
namespace Go.Crc
open Go.Vm Go.Pack Go.Rec
def vmayF : List AV → Tr AV
  | [.int .i64 a] => .yes (.bool (mayB a))
  | _ => .no
theorem vmay_ok : Con PR A n_vector_may (pureC vmayF) := by
  refine pure_con0 (cfg := cfgI) [] mixed (by kernel_rfl) (by kernel_rfl) (by kernel_rfl) fun args v hv ha S => ?_
  unfold vmayF at hv
  split at hv
  · rename_i a
    cases hv
    have h : body PR (cfE (P := PR) (A := A) []) cfgI lf0 n_vector_may [.int .i64 a] S some = (bif decide (a ≥ 0) then some (.bool (decide (a ≤ 1099511627776)), [], S) else some (.bool false, [], S)) := by kernel_rfl
    refine h.trans ?_
    unfold mayB
    by_cases h0 : a ≥ 0
    · rw [decide_eq_true h0]; rfl
    · rw [decide_eq_false h0]; rfl
  · cases hv
def vmayE : Ent PR A := ⟨n_vector_may, _, vmay_ok⟩
def vr1F : List AV → Tr AV
  | [.int .i64 a] => .yes (.bool (!mayB a))
  | _ => .no
theorem vr1_ok : Con PR A n_vector_Right_1 (pureC vr1F) := by
  refine pure_con0 (cfg := cfgI) [vmayE] mixed (by kernel_rfl) (by kernel_rfl) (by kernel_rfl) fun args v hv ha S => ?_
  unfold vr1F at hv
  split at hv
  · rename_i a
    cases hv
    have h : body PR (cfE [vmayE]) cfgI lf0 n_vector_Right_1 [.int .i64 a] S some = some (.bool (!mayB a), [], S) := by kernel_rfl
    exact h
  · cases hv
def vr1E : Ent PR A := ⟨n_vector_Right_1, _, vr1_ok⟩
def lfIf : Nat → Option LoopSum := lfOf [(26, loopT [0, 1, 7, 8] [4] fun vs H => match vs, H with
  | [.slice (.int .i64) a .view, .func f [] [], .int .i64 m, .int .i64 i], [] :: S => .br (Nat.beq f n_vector_Right_1 && decide (m = a.length) && decide (i = 0)) (.br (a.any fun y => !mayB y) (.yes (.ret, [.int .i64 (idxM a)], [] :: S, [])) (.yes (.exit 0, [.undef], [] :: S, []))) .no
  | _, _ => .no)]
theorem idxM_none {a : List Int} (h : (a.any fun y => !mayB y) = false) : idxM a = -1 := by
  have hany := idxP_any (fun y => !mayB y) a 0
  rw [h] at hany
  unfold idxM
  cases hi : idxP (fun y => !mayB y) 0 a with
  | none => rfl
  | some j => rw [hi] at hany; cases hany
theorem if_loops : ∀ x ∈ funLoops PR n_slices_IndexFunc_int_int, ∀ L, lfIf x.1 = some L → LoopOK (ntm PR n_slices_IndexFunc_int_int) (fun fr H wr k => code PR (cfE [vr1E]) cfgI lfIf (cfgI.live n_slices_IndexFunc_int_int) x.2 (2 * x.1) fr H wr k) L := by
  refine one_loop (p := 26) rfl (by kernel_rfl) (loopT_ok (by decide) fun vs H wr ex vs' H' w hv ha hh => ?_)
  split at hv
  · rename_i a f m i S
    obtain ⟨hc, hv2⟩ := Tr.br_no hv
    clear hv
    simp only [Bool.and_eq_true, decide_eq_true_eq, beq_iff] at hc
    obtain ⟨⟨rfl, hm⟩, rfl⟩ := hc
    have hmax : a.length ≤ maxInt := by simp only [okAVs, okAV] at ha; exact ha.1.1
    refine ⟨a.length + 1, fun k => ?_⟩
    have := find_loop (F := fun N i => LC PR (cfE [vr1E]) cfgI lfIf n_slices_IndexFunc_int_int 0 26 [0, 1, 7, 8] [4] N [.slice (.int .i64) a .view, .func n_vector_Right_1 [] [], .int .i64 m, .int .i64 i] ([] :: S) wr k)
      (p := fun y => !mayB y) (R := fun i => k .ret [.int .i64 i] ([] :: S) wr) (E := k (.exit 0) [.undef] ([] :: S) wr) hm hmax (fun N i => by kernel_rfl) a.length 0 (by omega)
    rw [List.drop_zero] at this
    have hany := idxP_any (fun y => !mayB y) a 0
    rcases Tr.br_or hv2 with ⟨he, h4⟩ | ⟨he, h4⟩
    · cases h4
      unfold idxM
      rw [he] at hany
      cases hi : idxP (fun y => !mayB y) 0 a with
      | none => rw [hi] at hany; cases hany
      | some j => rw [hi] at this; exact this
    · cases h4
      rw [he] at hany
      cases hi : idxP (fun y => !mayB y) 0 a with
      | none => rw [hi] at this; exact this
      | some j => rw [hi] at hany; cases hany
  · cases hv
def ifF : List AV → Tr AV
  | [.slice (.int .i64) a .view, .func f [] []] => .br (Nat.beq f n_vector_Right_1) (.yes (.int .i64 (idxM a))) .no
  | _ => .no
theorem if_ok : Con PR A n_slices_IndexFunc_int_int (pureC ifF) := by
  refine pure_con (cfg := cfgI) (lf := lfIf) [vr1E] mixed (by kernel_rfl) (by kernel_rfl) if_loops fun args v hv ha S => ?_
  unfold ifF at hv
  split at hv
  · rename_i a f
    obtain ⟨hc, hv2⟩ := Tr.br_no hv
    cases hv2
    rw [beq_iff] at hc
    subst hc
    have h : body PR (cfE [vr1E]) cfgI lfIf n_slices_IndexFunc_int_int [.slice (.int .i64) a .view, .func n_vector_Right_1 [] []] S some =
      (bif true && decide ((a.length : Int) = (a.length : Int)) && true then (bif a.any (fun y => !mayB y) then some (.int .i64 (idxM a), [], S) else some (.int .i64 (-1), [], S)) else none) := by kernel_rfl
    rw [h, decide_eq_true rfl]
    cases hn : a.any (fun y => !mayB y) with
    | true => rfl
    | false => rw [idxM_none hn]; rfl
  · cases hv
def ifE : Ent PR A := ⟨n_slices_IndexFunc_int_int, _, if_ok⟩
def cfVF : List AV → Tr AV
  | [.slice (.int .i64) a .view, .func f [] []] => .br (Nat.beq f n_vector_Right_1) (.yes (.bool (a.any fun y => !mayB y))) .no
  | _ => .no
theorem cf_ok : Con PR A n_slices_ContainsFunc_int_int (pureC cfVF) := by
  refine pure_con0 (cfg := cfgI) [ifE] mixed (by kernel_rfl) (by kernel_rfl) (by kernel_rfl) fun args v hv ha S => ?_
  unfold cfVF at hv
  split at hv
  · rename_i a f
    obtain ⟨hc, hv2⟩ := Tr.br_no hv
    cases hv2
    rw [beq_iff] at hc
    subst hc
    have h : body PR (cfE [ifE]) cfgI lf0 n_slices_ContainsFunc_int_int [.slice (.int .i64) a .view, .func n_vector_Right_1 [] []] S some = some (.bool (decide (idxM a ≥ 0)), [], S) := by kernel_rfl
    rw [h, idxM_any]
  · cases hv
def cfE' : Ent PR A := ⟨n_slices_ContainsFunc_int_int, _, cf_ok⟩
def vrF : List AV → Tr AV
  | [.slice (.int .i64) a .view] => .yes (.bool (vecR a))
  | _ => .no
theorem vr_ok : Con PR A n_vector_Right (pureC vrF) := by
  refine pure_con0 (cfg := cfgI) [cfE'] mixed (by kernel_rfl) (by kernel_rfl) (by kernel_rfl) fun args v hv ha S => ?_
  unfold vrF at hv
  split at hv
  · rename_i a
    cases hv
    have h : body PR (cfE [cfE']) cfgI lf0 n_vector_Right [.slice (.int .i64) a .view] S some =
      (bif decide ((a.length : Int) ≥ 1) then bif decide ((a.length : Int) ≤ 8) then some (.bool (!(a.any fun y => !mayB y)), [], S) else some (.bool false, [], S) else some (.bool false, [], S)) := by kernel_rfl
    rw [h, any_not_all]
    unfold vecR
    by_cases h1 : 1 ≤ a.length
    · rw [decide_eq_true h1, decide_eq_true (show (a.length : Int) ≥ 1 by omega)]
      by_cases h2 : a.length ≤ 8
      · rw [decide_eq_true h2, decide_eq_true (show (a.length : Int) ≤ 8 by omega)]; rfl
      · rw [decide_eq_false h2, decide_eq_false (show ¬ (a.length : Int) ≤ 8 by omega)]; rfl
    · rw [decide_eq_false h1, decide_eq_false (show ¬ (a.length : Int) ≥ 1 by omega)]; rfl
  · cases hv
def vrE : Ent PR A := ⟨n_vector_Right, _, vr_ok⟩
def lfVr : Nat → Option LoopSum := lfOf [(26, loopT [0, 3] [0, 2] fun vs H => match vs, H with
  | [.slice (.int .i64) a .view, .int .i64 i], [] :: S => .br (decide (i = 0)) (.br (a.any fun y => !mayB y) (.yes (.ret, [.slice (.int .i64) a .view, .bool false], [] :: S, [])) (.yes (.exit 0, [.slice (.int .i64) a .view, .undef], [] :: S, []))) .no
  | _, _ => .no)]
theorem vrr_loop {F : Nat → Int → Option Res} {xs : List Int} {R E : Option Res} (hl : xs.length ≤ maxInt)
    (h : ∀ N i, F (N + 1) i = bif decide (i < (xs.length : Int)) then (at? xs i).bind fun x => bif decide (x < 0) then R else (at? xs i).bind fun y => bif decide (y > 1099511627776) then R else F N (IntKind.i64.wrap (i + 1)) else E) :
    F (xs.length + 1) 0 = bif xs.any (fun y => !mayB y) then R else E := by
  have h' : ∀ N i, F (N + 1) i = bif decide (i < (xs.length : Int)) then (at? xs i).bind fun x => bif !mayB x then R else F N (IntKind.i64.wrap (i + 1)) else E := by
    intro N i
    rw [h]
    cases decide (i < (xs.length : Int)) with
    | false => rfl
    | true =>
      simp only [cond_true]
      cases hx : at? xs i with
      | none => rfl
      | some x =>
        simp only [Option.bind_some]
        unfold mayB
        by_cases h1 : x < 0
        · rw [decide_eq_true h1, decide_eq_false (show ¬ 0 ≤ x by omega)]; rfl
        · rw [decide_eq_false h1, decide_eq_true (show 0 ≤ x by omega)]
          by_cases h2 : x > 1099511627776
          · rw [decide_eq_true h2, decide_eq_false (show ¬ x ≤ 1099511627776 by omega)]; rfl
          · rw [decide_eq_false h2, decide_eq_true (show x ≤ 1099511627776 by omega)]; rfl
  have := any_loop (F := F) rfl hl h' xs.length 0 (by omega)
  rwa [List.drop_zero] at this
theorem vrr_loops : ∀ x ∈ funLoops PR n_ref03_Right, ∀ L, lfVr x.1 = some L → LoopOK (ntm PR n_ref03_Right) (fun fr H wr k => code PR (cfE (P := PR) (A := A) []) cfgI lfVr (cfgI.live n_ref03_Right) x.2 (2 * x.1) fr H wr k) L := by
  refine one_loop (p := 26) rfl (by kernel_rfl) (loopT_ok (by decide) fun vs H wr ex vs' H' w hv ha hh => ?_)
  split at hv
  · rename_i a i S
    obtain ⟨hc, hv2⟩ := Tr.br_no hv
    clear hv
    simp only [decide_eq_true_eq] at hc
    subst hc
    have hmax : a.length ≤ maxInt := by simp only [okAVs, okAV] at ha; exact ha.1.1
    refine ⟨a.length + 1, fun k => ?_⟩
    have := vrr_loop (F := fun N i => LC PR (cfE (P := PR) (A := A) []) cfgI lfVr n_ref03_Right 0 26 [0, 3] [0, 2] N [.slice (.int .i64) a .view, .int .i64 i] ([] :: S) wr k)
      (xs := a) (R := k .ret [.slice (.int .i64) a .view, .bool false] ([] :: S) wr) (E := k (.exit 0) [.slice (.int .i64) a .view, .undef] ([] :: S) wr) hmax (fun N i => by kernel_rfl)
    rcases Tr.br_or hv2 with ⟨he, h4⟩ | ⟨he, h4⟩
    · cases h4; rw [he] at this; exact this
    · cases h4; rw [he] at this; exact this
  · cases hv
theorem vrr_ok : Con PR A n_ref03_Right (pureC vrF) := by
  refine pure_con (cfg := cfgI) (lf := lfVr) [] mixed (by kernel_rfl) (by kernel_rfl) vrr_loops fun args v hv ha S => ?_
  unfold vrF at hv
  split at hv
  · rename_i a
    cases hv
    have h : body PR (cfE (P := PR) (A := A) []) cfgI lfVr n_ref03_Right [.slice (.int .i64) a .view] S some =
      (bif a.any (fun y => !mayB y) then some (.bool false, [], S) else bif decide ((a.length : Int) > 0) then some (.bool (decide ((a.length : Int) < 9)), [], S) else some (.bool false, [], S)) := by kernel_rfl
    rw [h]
    unfold vecR
    rw [← any_not_all]
    cases a.any (fun y => !mayB y) with
    | true => simp
    | false =>
      by_cases h1 : 1 ≤ a.length
      · rw [decide_eq_true h1, decide_eq_true (show (a.length : Int) > 0 by omega)]
        by_cases h2 : a.length ≤ 8
        · rw [decide_eq_true h2, decide_eq_true (show (a.length : Int) < 9 by omega)]; rfl
        · rw [decide_eq_false h2, decide_eq_false (show ¬ (a.length : Int) < 9 by omega)]; rfl
      · rw [decide_eq_false h1, decide_eq_false (show ¬ (a.length : Int) > 0 by omega)]; rfl
  · cases hv
def vrrE : Ent PR A := ⟨n_ref03_Right, _, vrr_ok⟩
def kindF : List AV → Tr AV
  | [.slice (.int .i64) a .view, .slice (.int .i64) b .view] => .yes (.bool (Rec.kindB a b))
  | _ => .no
theorem len_eq {a b : List Int} : ((a.length : Int) == (b.length : Int)) = decide (a.length = b.length) := by
  by_cases h : a.length = b.length
  · simp [h]
  · simp [h]; omega
theorem kind_ok : Con PR A n_vector_kind (pureC kindF) := by
  refine pure_con0 (cfg := cfgI) [vrE] mixed (by kernel_rfl) (by kernel_rfl) (by kernel_rfl) fun args v hv ha S => ?_
  unfold kindF at hv
  split at hv
  · rename_i a b
    cases hv
    have h : body PR (cfE [vrE]) cfgI lf0 n_vector_kind [.slice (.int .i64) a .view, .slice (.int .i64) b .view] S some =
      (bif vecR a then bif vecR b then some (.bool ((a.length : Int) == (b.length : Int)), [], S) else some (.bool false, [], S) else some (.bool false, [], S)) := by kernel_rfl
    rw [h, len_eq]
    unfold Rec.kindB
    cases vecR a <;> cases vecR b <;> rfl
  · cases hv
def kindE : Ent PR A := ⟨n_vector_kind, _, kind_ok⟩
theorem kindr_ok : Con PR A n_ref03_Kind (pureC kindF) := by
  refine pure_con0 (cfg := cfgI) [vrrE] mixed (by kernel_rfl) (by kernel_rfl) (by kernel_rfl) fun args v hv ha S => ?_
  unfold kindF at hv
  split at hv
  · rename_i a b
    cases hv
    have h : body PR (cfE [vrrE]) cfgI lf0 n_ref03_Kind [.slice (.int .i64) a .view, .slice (.int .i64) b .view] S some =
      (bif vecR a then bif vecR b then some (.bool ((a.length : Int) == (b.length : Int)), [], S) else some (.bool false, [], S) else some (.bool false, [], S)) := by kernel_rfl
    rw [h, len_eq]
    unfold Rec.kindB
    cases vecR a <;> cases vecR b <;> rfl
  · cases hv
def kindrE : Ent PR A := ⟨n_ref03_Kind, _, kindr_ok⟩
end Go.Crc
/- Vectors put together, added up, written and read, by the program and by the document. Conditions: none. A text of this seat's numbers. -/
set_option linter.unusedVariables false
set_option linter.unusedSimpArgs false
set_option maxRecDepth 100000
namespace Go.Crc
open Go.Vm Go.Pack Go.Rec
def vm1F : List AV → Tr AV
  | [.int .i64 a, .int .i64 b] => .yes (.int .i64 (max2 a b))
  | _ => .no
theorem vm1_ok : Con PR A n_vector_Max_1 (pureC vm1F) := by
  refine pure_con0 (cfg := cfgI) [] mixed (by kernel_rfl) (by kernel_rfl) (by kernel_rfl) fun args v hv ha S => ?_
  unfold vm1F at hv
  split at hv
  · rename_i a b
    cases hv
    have h : body PR (cfE (P := PR) (A := A) []) cfgI lf0 n_vector_Max_1 [.int .i64 a, .int .i64 b] S some = some (.int .i64 (if b > a then b else a), [], S) := by kernel_rfl
    refine h.trans ?_
    unfold max2
    by_cases h1 : b > a
    · rw [if_pos h1, decide_eq_true h1]; rfl
    · rw [if_neg h1, decide_eq_false h1]; rfl
  · cases hv
def vm1E : Ent PR A := ⟨n_vector_Max_1, _, vm1_ok⟩
def lfBo : Nat → Option LoopSum := lfOf [(122, loopT [0, 1, 2, 8, 15, 16] [8] fun vs H => match vs, H with
  | [.slice (.int .i64) a .view, .slice (.int .i64) b .view, .func f [] [], .slice (.int .i64) o .own, .int .i64 m, .int .i64 i], [] :: S => .br (Nat.beq f n_vector_Max_1 && decide (m = a.length) && (decide (i = 0) && decide (a.length = b.length)) && decide ((o.length + a.length) * 8 ≤ 140737488355328)) (.yes (.exit 0, [.slice (.int .i64) (o ++ maxV a b) .own], [] :: S, [])) .no
  | _, _ => .no)]
def boStep (x y : Int) (o : List Int) (k : List Int → Option Res) : Option Res := bif decide ((o.length + [max2 x y].length) * 8 ≤ 140737488355328) then k (o ++ [max2 x y]) else none
theorem bo_zip (E : List Int → Option Res) : ∀ (a b o : List Int), a.length = b.length → (o.length + a.length) * 8 ≤ 140737488355328 → zipK boStep E a b o = E (o ++ maxV a b)
  | [], [], o, _, _ => by simp [zipK, maxV]
  | [], _ :: _, _, h, _ => by cases h
  | _ :: _, [], _, h, _ => by cases h
  | x :: a, y :: b, o, h, hl => by
    simp only [List.length_cons] at h hl
    rw [show zipK boStep E (x :: a) (y :: b) o = (bif decide ((o.length + [max2 x y].length) * 8 ≤ 140737488355328) then zipK boStep E a b (o ++ [max2 x y]) else none) from rfl,
      cond_eq (decide_eq_true (by simp only [List.length_cons, List.length_nil]; omega)), bo_zip E a b _ (by omega) (by rw [List.length_append]; simp only [List.length_cons, List.length_nil]; omega)]
    simp [maxV]
theorem bo_loops : ∀ x ∈ funLoops PR n_vector_both, ∀ L, lfBo x.1 = some L → LoopOK (ntm PR n_vector_both) (fun fr H wr k => code PR (cfE [kindE, vm1E]) cfgI lfBo (cfgI.live n_vector_both) x.2 (2 * x.1) fr H wr k) L := by
  refine one_loop (p := 122) rfl (by kernel_rfl) (loopT_ok (by decide) fun vs H wr ex vs' H' w hv ha hh => ?_)
  split at hv
  · rename_i a b f o m i S
    obtain ⟨hc, hv2⟩ := Tr.br_no hv
    clear hv
    simp only [Bool.and_eq_true, decide_eq_true_eq, beq_iff] at hc
    obtain ⟨⟨⟨rfl, hm⟩, rfl, hy⟩, hl⟩ := hc
    cases hv2
    refine ⟨a.length + 1, fun k => ?_⟩
    have := zip_loop (F := fun N i o => LC PR (cfE [kindE, vm1E]) cfgI lfBo n_vector_both 0 122 [0, 1, 2, 8, 15, 16] [8] N [.slice (.int .i64) a .view, .slice (.int .i64) b .view, .func n_vector_Max_1 [] [], .slice (.int .i64) o .own, .int .i64 m, .int .i64 i] ([] :: S) wr k)
      (xs := a) (ys := b) (step := boStep) (E := fun o => k (.exit 0) [.slice (.int .i64) o .own] ([] :: S) wr) hm hy (by simp only [maxInt]; omega) (fun N i o => by kernel_rfl) a.length 0 o (by omega)
    rw [List.drop_zero, List.drop_zero, bo_zip _ a b o hy hl] at this
    exact this
  · cases hv
def bothV (a b : List Int) : AV := .tuple [.slice (.int .i64) (bif Rec.kindB a b then maxV a b else []) .view, .bool (Rec.kindB a b)]
def bothF : List AV → Tr AV
  | [.slice (.int .i64) a .view, .slice (.int .i64) b .view, .func f [] []] => .br (Nat.beq f n_vector_Max_1) (.yes (bothV a b)) .no
  | _ => .no
theorem kindB_len {a b : List Int} (h : Rec.kindB a b = true) : a.length = b.length ∧ a.length ≤ 8 := by
  unfold Rec.kindB at h
  simp only [Bool.and_eq_true, decide_eq_true_eq] at h
  exact ⟨h.2, (vecR_iff.1 h.1.1).2.1⟩
theorem both_ok : Con PR A n_vector_both (pureC bothF) := by
  refine pure_con (cfg := cfgI) (lf := lfBo) [kindE, vm1E] mixed (by kernel_rfl) (by kernel_rfl) bo_loops fun args v hv ha S => ?_
  unfold bothF at hv
  split at hv
  · rename_i a b f
    obtain ⟨hc, hv2⟩ := Tr.br_no hv
    cases hv2
    rw [beq_iff] at hc
    subst hc
    have h : body PR (cfE [kindE, vm1E]) cfgI lfBo n_vector_both [.slice (.int .i64) a .view, .slice (.int .i64) b .view, .func n_vector_Max_1 [] []] S some =
      (bif !Rec.kindB a b then some (.tuple [.slice (.int .i64) [] .view, .bool false], [], S)
      else bif true && decide ((a.length : Int) = (a.length : Int)) && (true && decide (a.length = b.length)) && decide ((0 + a.length) * 8 ≤ 140737488355328) then some (.tuple [.slice (.int .i64) ([] ++ maxV a b) .view, .bool true], [], S) else none) := by kernel_rfl
    rw [h]
    unfold bothV
    cases hk : Rec.kindB a b with
    | false => rfl
    | true =>
      have := kindB_len hk
      rw [decide_eq_true rfl, decide_eq_true this.1, decide_eq_true (show (0 + a.length) * 8 ≤ 140737488355328 by omega)]
      rfl
  · cases hv
def bothE : Ent PR A := ⟨n_vector_both, _, both_ok⟩
def maxF : List AV → Tr AV
  | [.slice (.int .i64) a .view, .slice (.int .i64) b .view] => .yes (bothV a b)
  | _ => .no
theorem max_ok : Con PR A n_vector_Max (pureC maxF) := by
  refine pure_con0 (cfg := cfgI) [bothE] mixed (by kernel_rfl) (by kernel_rfl) (by kernel_rfl) fun args v hv ha S => ?_
  unfold maxF at hv
  split at hv
  · rename_i a b
    cases hv
    have h : body PR (cfE [bothE]) cfgI lf0 n_vector_Max [.slice (.int .i64) a .view, .slice (.int .i64) b .view] S some = some (bothV a b, [], S) := by kernel_rfl
    exact h
  · cases hv
def maxE : Ent PR A := ⟨n_vector_Max, _, max_ok⟩
def coF : List AV → Tr AV
  | [.slice (.int .i64) a .view, .slice (.int .i64) b .view] => .yes (.bool (coversB a b))
  | _ => .no
theorem co_ok : Con PR A n_vector_Covers (pureC coF) := by
  refine pure_con0 (cfg := cfgI) [maxE, seE] mixed (by kernel_rfl) (by kernel_rfl) (by kernel_rfl) fun args v hv ha S => ?_
  unfold coF at hv
  split at hv
  · rename_i a b
    cases hv
    have h : body PR (cfE [maxE, seE]) cfgI lf0 n_vector_Covers [.slice (.int .i64) a .view, .slice (.int .i64) b .view] S some =
      (bif Rec.kindB a b then some (.bool ((bif Rec.kindB a b then maxV a b else []) == a), [], S) else some (.bool false, [], S)) := by kernel_rfl
    rw [h]
    unfold coversB
    cases hk : Rec.kindB a b with
    | false => rfl
    | true => rw [cond_true, cond_true, maxV_eq (kindB_len hk).1]; rfl
  · cases hv
def coE : Ent PR A := ⟨n_vector_Covers, _, co_ok⟩
def lfCo : Nat → Option LoopSum := lfOf [(58, loopT [0, 1, 5] [4] fun vs H => match vs, H with
  | [.slice (.int .i64) a .view, .slice (.int .i64) b .view, .int .i64 i], [] :: S => .br (decide (i = 0) && decide (a.length = b.length)) (.br (geB a b) (.yes (.exit 0, [.undef], [] :: S, [])) (.yes (.ret, [.bool false], [] :: S, []))) .no
  | _, _ => .no)]
def coStep (R : Option Res) (x y : Int) (o : Unit) (k : Unit → Option Res) : Option Res := bif decide (x < y) then R else k ()
theorem co_zip (R : Option Res) (E : Unit → Option Res) : ∀ (a b : List Int), a.length = b.length → zipK (coStep R) E a b () = bif geB a b then E () else R
  | [], [], _ => rfl
  | [], _ :: _, h => by cases h
  | _ :: _, [], h => by cases h
  | x :: a, y :: b, h => by
    rw [show zipK (coStep R) E (x :: a) (y :: b) () = (bif decide (x < y) then R else zipK (coStep R) E a b ()) from rfl, co_zip R E a b (by simpa using h)]
    simp only [geB]
    cases decide (x < y) <;> rfl
theorem co_loops : ∀ x ∈ funLoops PR n_ref03_Covers, ∀ L, lfCo x.1 = some L → LoopOK (ntm PR n_ref03_Covers) (fun fr H wr k => code PR (cfE [kindrE]) cfgI lfCo (cfgI.live n_ref03_Covers) x.2 (2 * x.1) fr H wr k) L := by
  refine one_loop (p := 58) rfl (by kernel_rfl) (loopT_ok (by decide) fun vs H wr ex vs' H' w hv ha hh => ?_)
  split at hv
  · rename_i a b i S
    obtain ⟨hc, hv2⟩ := Tr.br_no hv
    clear hv
    simp only [Bool.and_eq_true, decide_eq_true_eq] at hc
    obtain ⟨rfl, hy⟩ := hc
    have hmax : a.length ≤ maxInt := by simp only [okAVs, okAV] at ha; exact ha.1.1
    refine ⟨a.length + 1, fun k => ?_⟩
    have := zip_loop (F := fun N i (o : Unit) => LC PR (cfE [kindrE]) cfgI lfCo n_ref03_Covers 0 58 [0, 1, 5] [4] N [.slice (.int .i64) a .view, .slice (.int .i64) b .view, .int .i64 i] ([] :: S) wr k)
      (xs := a) (ys := b) (step := coStep (k .ret [.bool false] ([] :: S) wr)) (E := fun _ => k (.exit 0) [.undef] ([] :: S) wr) rfl hy hmax (fun N i o => by kernel_rfl) a.length 0 () (by omega)
    rw [List.drop_zero, List.drop_zero, co_zip _ _ a b hy] at this
    rcases Tr.br_or hv2 with ⟨he, h4⟩ | ⟨he, h4⟩
    · cases h4; rw [he] at this; exact this
    · cases h4; rw [he] at this; exact this
  · cases hv
theorem cor_ok : Con PR A n_ref03_Covers (pureC coF) := by
  refine pure_con (cfg := cfgI) (lf := lfCo) [kindrE] mixed (by kernel_rfl) (by kernel_rfl) co_loops fun args v hv ha S => ?_
  unfold coF at hv
  split at hv
  · rename_i a b
    cases hv
    have h : body PR (cfE [kindrE]) cfgI lfCo n_ref03_Covers [.slice (.int .i64) a .view, .slice (.int .i64) b .view] S some =
      (bif !Rec.kindB a b then some (.bool false, [], S) else bif true && decide (a.length = b.length) then bif geB a b then some (.bool true, [], S) else some (.bool false, [], S) else none) := by kernel_rfl
    rw [h]
    unfold coversB
    cases hk : Rec.kindB a b with
    | false => rfl
    | true =>
      rw [decide_eq_true (kindB_len hk).1]
      cases geB a b <;> rfl
  · cases hv
def corE : Ent PR A := ⟨n_ref03_Covers, _, cor_ok⟩
def vencV (a : List Int) : AV := .tuple [.slice (.int .u8) (bif vecR a then vecT a else []) .view, .int .i64 (bif vecR a then 0 else 30)]
def vencF : List AV → Tr AV
  | [.slice (.int .i64) a .view] => .yes (vencV a)
  | _ => .no
theorem venc_ok : Con PR A n_vector_Encode (pureC vencF) := by
  refine pure_con0 (cfg := cfgI) [vrE, pnumE] mixed (by kernel_rfl) (by kernel_rfl) (by kernel_rfl) fun args v hv ha S => ?_
  unfold vencF at hv
  split at hv
  · rename_i a
    cases hv
    have h : body PR (cfE [vrE, pnumE]) cfgI lf0 n_vector_Encode [.slice (.int .i64) a .view] S some =
      (bif !vecR a then some (.tuple [.slice (.int .u8) [] .view, .int .i64 30], [], S)
      else bif decide ((bif okAll [(a.length : Int)] then [] ++ nums [(a.length : Int)] else []).length + 10 * a.length ≤ 140737488355328) then
        some (.tuple [.slice (.int .u8) (bif okAll a then (bif okAll [(a.length : Int)] then [] ++ nums [(a.length : Int)] else []) ++ nums a else bif okAll [(a.length : Int)] then [] ++ nums [(a.length : Int)] else []) .view, .int .i64 0], [], S)
      else none) := by kernel_rfl
    rw [h]
    unfold vencV
    cases hr : vecR a with
    | false => rfl
    | true =>
      obtain ⟨h1, h2, h3⟩ := vecR_iff.1 hr
      have k1 : okAll [(a.length : Int)] = true := by
        simp only [okAll, Bool.and_true]
        exact okN_iff'.2 ⟨by omega, by simp only [top]; omega⟩
      have k2 := vecR_all hr
      have k3 := nums_len [(a.length : Int)]
      rw [k1, k2]
      simp only [cond_true, Bool.not_true, cond_false]
      rw [cond_eq (decide_eq_true (by simp only [List.length_append, List.length_nil, List.length_cons] at *; omega))]
      have : ([] ++ nums [(a.length : Int)]) ++ nums a = vecT a := by
        unfold vecT
        simp only [nums, List.nil_append, List.append_nil]
      rw [this]
  · cases hv
def vencE : Ent PR A := ⟨n_vector_Encode, _, venc_ok⟩
def vdecV (b : List Int) : AV := .tuple [.slice (.int .i64) (vdV b) .view, .int .i64 (vdE b)]
def vdecF : List AV → Tr AV
  | [.slice (.int .u8) b .view] => .br (decide (b.length ≤ 140737488355328)) (.yes (vdecV b)) .no
  | _ => .no
def lfVd : Nat → Option LoopSum := lfOf [(122, loopT [4, 5, 9, 10] [4, 5] fun vs H => match vs, H with
  | [.ptr 0 0 0, .slice (.int .i64) o .own, .int .i64 m, .int .i64 i], [.cells [.slice (.int .u8) b .view, .int .i64 e]] :: S =>
    .br (decide (i = 0) && decide (0 ≤ m) && (decide (m ≤ 8) && decide (o.length = 0))) (.yes (.exit 0, [.ptr 0 0 0, .slice (.int .i64) (rowR 1099511627776 m.toNat ⟨b, e⟩).2 .own], [ofSt (rowR 1099511627776 m.toNat ⟨b, e⟩).1] :: S, repApp m.toNat [(0, 0)])) .no
  | _, _ => .no)]
def vdStep (x : St × List Int × Wr) (k : St × List Int × Wr → Option Res) : Option Res :=
  bif decide ((x.2.1.length + [(numR ⟨x.1.b, x.1.e⟩ 1099511627776).2].length) * 8 ≤ 140737488355328) then k ((numR ⟨x.1.b, x.1.e⟩ 1099511627776).1, x.2.1 ++ [(numR ⟨x.1.b, x.1.e⟩ 1099511627776).2], (0, 0) :: x.2.2) else none
theorem vd_iter (E : St × List Int × Wr → Option Res) : ∀ (q : Nat) (s : St) (o : List Int) (wr : Wr), o.length + q ≤ 100 → iterK vdStep E q (s, o, wr) = E ((rowR 1099511627776 q s).1, o ++ (rowR 1099511627776 q s).2, app (repApp q [(0, 0)]) wr)
  | 0, s, o, wr, _ => by simp only [iterK, rowR, List.append_nil]; rfl
  | q + 1, s, o, wr, h => by
    rw [show iterK vdStep E (q + 1) (s, o, wr) = (bif decide ((o.length + [(numR ⟨s.b, s.e⟩ 1099511627776).2].length) * 8 ≤ 140737488355328) then iterK vdStep E q ((numR ⟨s.b, s.e⟩ 1099511627776).1, o ++ [(numR ⟨s.b, s.e⟩ 1099511627776).2], (0, 0) :: wr) else none) from rfl,
      cond_eq (decide_eq_true (by simp only [List.length_cons, List.length_nil]; omega)), vd_iter E q _ _ _ (by rw [List.length_append]; simp only [List.length_cons, List.length_nil]; omega), rep_more]
    simp only [rowR, List.append_assoc, List.singleton_append]
    rfl
theorem vd_loops : ∀ x ∈ funLoops PR n_vector_Decode, ∀ L, lfVd x.1 = some L → LoopOK (ntm PR n_vector_Decode) (fun fr H wr k => code PR (cfE [newReaderE, numE, endE, vrE]) cfgI lfVd (cfgI.live n_vector_Decode) x.2 (2 * x.1) fr H wr k) L := by
  refine one_loop (p := 122) rfl (by kernel_rfl) (loopT_ok (by decide) fun vs H wr ex vs' H' w hv ha hh => ?_)
  split at hv
  · rename_i o m i b e S
    obtain ⟨hc, hv2⟩ := Tr.br_no hv
    clear hv
    simp only [Bool.and_eq_true, decide_eq_true_eq] at hc
    obtain ⟨⟨rfl, h0⟩, h8, ho⟩ := hc
    cases hv2
    have ho' := List.eq_nil_of_length_eq_zero ho
    subst ho'
    refine ⟨m.toNat + 1, fun k => ?_⟩
    have := count_loop (F := fun N i (x : St × List Int × Wr) => LC PR (cfE [newReaderE, numE, endE, vrE]) cfgI lfVd n_vector_Decode 0 122 [4, 5, 9, 10] [4, 5] N [.ptr 0 0 0, .slice (.int .i64) x.2.1 .own, .int .i64 m, .int .i64 i] ([.cells [.slice (.int .u8) x.1.b .view, .int .i64 x.1.e]] :: S) x.2.2 k)
      (m := m) (step := vdStep) (E := fun x => k (.exit 0) [.ptr 0 0 0, .slice (.int .i64) x.2.1 .own] ([ofSt x.1] :: S) x.2.2) (by simp only [maxInt]; omega) (fun N i x => by kernel_rfl) m.toNat 0 (⟨b, e⟩, [], wr) (by omega)
    rw [vd_iter _ _ _ _ _ (by simp only [List.length_nil]; omega)] at this
    exact this
  · cases hv
theorem vdec_ok : Con PR A n_vector_Decode (pureC vdecF) := by
  refine pure_con (cfg := cfgI) (lf := lfVd) [newReaderE, numE, endE, vrE] mixed (by kernel_rfl) (by kernel_rfl) vd_loops fun args v hv ha S => ?_
  unfold vdecF at hv
  split at hv
  · rename_i b
    obtain ⟨h1, hv2⟩ := Tr.br_no hv
    cases hv2
    have h : body PR (cfE [newReaderE, numE, endE, vrE]) cfgI lfVd n_vector_Decode [.slice (.int .u8) b .view] S some =
      (bif decide (b.length ≤ 140737488355328) then
        bif true && decide (0 ≤ (vd1 b).2) && (decide ((vd1 b).2 ≤ 8) && true) then
          bif endR (vd2 b).1 != 0 then some (.tuple [.slice (.int .i64) [] .view, .int .i64 30], outer (app (repApp (vd1 b).2.toNat [(0, 0)]) [(0, 0)]), S)
          else bif !vecR (vd2 b).2 then some (.tuple [.slice (.int .i64) [] .view, .int .i64 30], outer (app (repApp (vd1 b).2.toNat [(0, 0)]) [(0, 0)]), S)
          else some (.tuple [.slice (.int .i64) (vd2 b).2 .view, .int .i64 0], outer (app (repApp (vd1 b).2.toNat [(0, 0)]) [(0, 0)]), S)
        else none else none) := by kernel_rfl
    have hr := vd1_range b
    rw [h, cond_eq h1, decide_eq_true hr.1, decide_eq_true hr.2, outer_app0 _ _ (all0_rep rfl _)]
    unfold vdecV vdV vdE vdOK
    cases (endR (vd2 b).1 != 0) with
    | true => rfl
    | false => cases vecR (vd2 b).2 <;> rfl
  · cases hv
def vdecE : Ent PR A := ⟨n_vector_Decode, _, vdec_ok⟩
end Go.Crc
