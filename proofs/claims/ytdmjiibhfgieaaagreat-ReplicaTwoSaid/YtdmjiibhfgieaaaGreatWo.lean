/- Contracts of functions of this program. Conditions: none. -/
import Derived.Test.YtdmjiibhfgieaaaGreatWn
set_option linter.unusedVariables false
set_option linter.unusedSimpArgs false
/- The law ReplicaTwice. Conditions: none. A text of this seat's numbers. -/
set_option linter.unusedVariables false
set_option linter.unusedSimpArgs false
set_option maxRecDepth 100000
namespace Go.Crc
open Go.Vm Go.Pack Go.Rec Go.RowKit
def isCo (t : Int) (s : List Int) (sh : List (List Int)) : List AV → Bool
  | [.int .i64 t1, .slice (.int .i64) s1 .view, .slice (.slice (.int .i64)) sh1 .view] => decide (t1 = t) && (s1 == s && sh1 == sh)
  | _ => false
theorem isCo_eq {t : Int} {s : List Int} {sh : List (List Int)} {cs : List AV} (h : isCo t s sh cs = true) : Ob.cells cs = coOb t s sh := by
  unfold isCo at h
  split at h
  · simp only [Bool.and_eq_true, decide_eq_true_eq, beq_iff_eq] at h
    obtain ⟨rfl, rfl, rfl⟩ := h
    rfl
  · cases h
theorem goodR_len {z : RpS} (h : goodR z = true) : z.l.length ≤ 100000 := by have := (goodR_iff.1 h).1; omega
end Go.Crc
/- The law ReplicaLasts. Conditions: none. A text of this seat's numbers. -/
set_option linter.unusedVariables false
set_option linter.unusedSimpArgs false
set_option maxRecDepth 100000
namespace Go.Crc
open Go.Vm Go.Pack Go.Rec Go.RowKit
end Go.Crc
/- The law ReplicaSealed. Conditions: none. A text of this seat's numbers. -/
set_option linter.unusedVariables false
set_option linter.unusedSimpArgs false
set_option maxRecDepth 100000
namespace Go.Crc
open Go.Vm Go.Pack Go.Rec Go.RowKit
end Go.Crc
