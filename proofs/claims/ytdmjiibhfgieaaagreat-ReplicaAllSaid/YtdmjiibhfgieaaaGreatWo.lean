/- Contracts of functions of this program. Conditions: none. -/
import Derived.Test.YtdmjiibhfgieaaaGreatWn
set_option linter.unusedVariables false
set_option linter.unusedSimpArgs false
/- The law ReplicaTwice. Conditions: none. A text of this seat's numbers. -/
set_option linter.unusedVariables false
set_option linter.unusedSimpArgs false
set_option maxRecDepth 100000
namespace Go.Crc
open Go.Vm Go.Pack Go.Rec Go.RowKit
def opsOf : AV → Option (List ROp)
  | .slice (.pair (.int .i64) (.pair (.int .i64) (.pair (.pair (.int .i64) (.pair (.int .i64) (.pair (.int .i64) (.pair (.int .i64) (.pair (.int .i64) (.pair (.int .i64) (.pair .bool (.pair (.pair (.pair (.int .i64) (.int .i64)) (.pair (.slice (.int .i64)) .str)) (.pair (.pair (.int .i64) (.pair (.int .i64) (.pair (.slice (.int .i64)) (.pair (.int .i64) (.pair (.int .i64) (.int .i64)))))) (.pair (.int .i64) (.pair (.int .i64) (.pair (.int .i64) (.pair (.slice (.int .i64)) (.slice (.slice (.int .i64)))))))))))))))) .bool))) l .view => some l
  | _ => none
theorem opsOf_some {a : AV} {l : List ROp} (h : opsOf a = some l) : a = .slice ROpT l .view := by
  unfold opsOf at h
  split at h
  · cases h; rfl
  · cases h
abbrev Seat11 := Int × Int × List Int × List (List Int)
def seatOf : List AV → Option Seat11
  | [.int .i64 id, .int .i64 t, .slice (.int .i64) s .view, .slice (.slice (.int .i64)) sh .view] => some (id, t, s, sh)
  | _ => none
theorem seatOf_some {cs : List AV} {x : Seat11} (h : seatOf cs = some x) : cs = seatC x.1 x.2.1 x.2.2.1 x.2.2.2 := by
  unfold seatOf at h
  split at h
  · cases h; rfl
  · cases h
def isCo (t : Int) (s : List Int) (sh : List (List Int)) : List AV → Bool
  | [.int .i64 t1, .slice (.int .i64) s1 .view, .slice (.slice (.int .i64)) sh1 .view] => decide (t1 = t) && (s1 == s && sh1 == sh)
  | _ => false
theorem isCo_eq {t : Int} {s : List Int} {sh : List (List Int)} {cs : List AV} (h : isCo t s sh cs = true) : Ob.cells cs = coOb t s sh := by
  unfold isCo at h
  split at h
  · simp only [Bool.and_eq_true, decide_eq_true_eq, beq_iff_eq] at h
    obtain ⟨rfl, rfl, rfl⟩ := h
    rfl
  · cases h
theorem goodR_len {z : RpS} (h : goodR z = true) : z.l.length ≤ 100000 := by have := (goodR_iff.1 h).1; omega
end Go.Crc
/- The law ReplicaLasts. Conditions: none. A text of this seat's numbers. -/
set_option linter.unusedVariables false
set_option linter.unusedSimpArgs false
set_option maxRecDepth 100000
namespace Go.Crc
open Go.Vm Go.Pack Go.Rec Go.RowKit
end Go.Crc
/- The law ReplicaSealed. Conditions: none. A text of this seat's numbers. -/
set_option linter.unusedVariables false
set_option linter.unusedSimpArgs false
set_option maxRecDepth 100000
namespace Go.Crc
open Go.Vm Go.Pack Go.Rec Go.RowKit
end Go.Crc
