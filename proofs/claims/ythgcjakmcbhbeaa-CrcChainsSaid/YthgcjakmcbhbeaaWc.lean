/- Contracts of functions of this program. Conditions: none. -/
import Derived.Test.YthgcjakmcbhbeaaWb
/- The laws of crc without loops: what their equations come to. Conditions: none. A text of this seat's numbers. -/
set_option linter.unusedVariables false
set_option linter.unusedSimpArgs false
namespace Go.Crc
open Go.Vm
theorem crcPut_length (b : List Int) : (crcPut b).length = b.length + 4 := by simp [crcPut, le4]
theorem crcOK_put (b : List Int) : crcOK (crcPut b) = true := by
  unfold crcOK
  rw [crcPut_length, Nat.add_sub_cancel]
  unfold crcPut
  rw [List.take_left, List.drop_left]
  simp
theorem cutB_put (b : List Int) : cutB (crcPut b) = b := by
  unfold cutB
  rw [crcOK_put, cond_true, crcPut_length, Nat.add_sub_cancel]
  unfold crcPut
  rw [List.take_left]
theorem sz_bytes {b : List Int} (h : Sz (.slice (.int .u8)) b) : isBytes b := fun x hx => by
  have := h.2 x hx
  simpa [Sz, IntKind.min, IntKind.max, IntKind.signed, IntKind.bits] using this
theorem sz_u32 {s : Int} (h : Sz (.int .u32) s) : 0 ≤ s ∧ s ≤ 4294967295 := by
  simpa [Sz, IntKind.min, IntKind.max, IntKind.signed, IntKind.bits] using h
theorem two_eq (b : List Int) (s : Int) : body PR (cfE E1) cfgL (fun _ => none) n_law_CrcTwo [.slice (.int .u8) b .view, .int .u32 s] [] some = some (.bool true, [], []) := by
  have h : body PR (cfE E1) cfgL (fun _ => none) n_law_CrcTwo [.slice (.int .u8) b .view, .int .u32 s] [] some =
    (bif decide ((b.length : Int) > 20000) then some (.bool true, [], [])
    else bif crcSum [b].flatten == crcSum [b].flatten then bif crcMore s b == crcMore s b then
      bif decide (b.length + 4 ≤ 140737488355328) then bif decide (b.length + 4 ≤ 140737488355328) then some (.bool (crcPut b == crcPut b), [], []) else none else none
      else some (.bool false, [], []) else some (.bool false, [], [])) := by kernel_rfl
  rw [h]
  by_cases hl : (b.length : Int) > 20000
  · simp [hl]
  · simp [hl, show b.length + 4 ≤ 140737488355328 by omega]
theorem cuts_eq (a : List Int) : body PR (cfE E1) cfgL (fun _ => none) n_law_CrcCuts [.slice (.int .u8) a .view] [] some = some (.bool true, [], []) := by
  have h : body PR (cfE E1) cfgL (fun _ => none) n_law_CrcCuts [.slice (.int .u8) a .view] [] some =
    (bif decide ((a.length : Int) > 20000) then some (.bool true, [], [])
    else bif decide (a.length ≤ 140737488355328) then bif decide (a.length ≤ 140737488355328) then bif decide (a.length + 4 ≤ 140737488355328) then bif decide ((crcPut a).length ≤ 140737488355328) then
      bif cutB a == cutB a then bif crcOK a == crcOK a then bif decide (a.length + 4 ≤ 140737488355328) then bif crcPut a == crcPut a then bif crcOK (crcPut a) then some (.bool (cutB (crcPut a) == a), [], [])
        else some (.bool false, [], []) else some (.bool false, [], []) else none else some (.bool false, [], []) else some (.bool false, [], []) else none else none else none else none) := by kernel_rfl
  rw [h]
  by_cases hl : (a.length : Int) > 20000
  · simp [hl]
  · simp [hl, show a.length + 4 ≤ 140737488355328 by omega, show a.length ≤ 140737488355328 by omega, crcPut_length, crcOK_put, cutB_put]
theorem sums_eq (a b : List Int) (s : Int) (ha : isBytes a) : body PR (cfE E1) cfgL (fun _ => none) n_law_CrcSums [.slice (.int .u8) a .view, .slice (.int .u8) b .view, .int .u32 s] [] some = some (.bool true, [], []) := by
  have h : body PR (cfE E1) cfgL (fun _ => none) n_law_CrcSums [.slice (.int .u8) a .view, .slice (.int .u8) b .view, .int .u32 s] [] some =
    (bif decide ((a.length : Int) > 20000) then some (.bool true, [], [])
    else bif decide ((b.length : Int) > 20000) then some (.bool true, [], [])
    else bif decide ((0 + a.length) * 1 ≤ 140737488355328) then bif decide ((([] ++ a).length + b.length) * 1 ≤ 140737488355328) then
      bif crcSum [a, b].flatten == crcSum ([] ++ a ++ b) then bif crcMore s a == crcMore s a then some (.bool (crcMore (crcSum [a].flatten) b == crcSum [[] ++ a ++ b].flatten), [], [])
      else some (.bool false, [], []) else some (.bool false, [], []) else none else none) := by kernel_rfl
  rw [h]
  have h1 : crcMore (crcSum a) b = crcSum (a ++ b) := (crcMore_app 0 a b (by omega) ha).symm
  by_cases hl : (a.length : Int) > 20000
  · simp [hl]
  · by_cases hk : (b.length : Int) > 20000
    · simp [hl, hk]
    · simp [hl, hk, show a.length ≤ 140737488355328 by omega, show a.length + b.length ≤ 140737488355328 by omega, h1]
theorem parts_eq (b : List Int) (i j : Int) (hb : isBytes b) : body PR (cfE E1) cfgL (fun _ => none) n_law_CrcParts [.slice (.int .u8) b .view, .int .i64 i, .int .i64 j] [] some = some (.bool true, [], []) := by
  have h : body PR (cfE E1) cfgL (fun _ => none) n_law_CrcParts [.slice (.int .u8) b .view, .int .i64 i, .int .i64 j] [] some =
    (bif decide (i < 0) then some (.bool true, [], [])
    else bif decide (j < i) then some (.bool true, [], [])
    else bif decide (j > (b.length : Int)) then some (.bool true, [], [])
    else bif decide ((b.length : Int) > 20000) then some (.bool true, [], [])
    else bif decide (0 ≤ i) && decide (i ≤ (b.length : Int)) then bif decide (0 ≤ i) && decide (i ≤ j) && decide (j ≤ (b.length : Int)) then bif decide (0 ≤ j) && decide (j ≤ (b.length : Int)) then
      bif crcSum [b].flatten == crcSum [(b.take i.toNat).drop 0, (b.take j.toNat).drop i.toNat, [], (b.take b.length).drop j.toNat].flatten then
        bif decide (0 ≤ i) && decide (i ≤ (b.length : Int)) then bif decide (0 ≤ i) && decide (i ≤ (b.length : Int)) then
          some (.bool (crcSum [b].flatten == crcMore (crcSum [(b.take i.toNat).drop 0].flatten) ((b.take b.length).drop i.toNat)), [], [])
        else none else none
      else some (.bool false, [], [])
      else none else none else none) := by kernel_rfl
  rw [h]
  by_cases h1 : i < 0
  · simp [h1]
  by_cases h2 : j < i
  · simp [h1, h2]
  by_cases h3 : j > (b.length : Int)
  · simp [h1, h2, h3]
  by_cases h4 : (b.length : Int) > 20000
  · simp [h1, h2, h3, h4]
  have e1 : b.take i.toNat ++ ((b.take j.toNat).drop i.toNat ++ b.drop j.toNat) = b := by
    have : b.take i.toNat = (b.take j.toNat).take i.toNat := by rw [List.take_take, Nat.min_eq_left (by omega)]
    rw [this, ← List.append_assoc, List.take_append_drop, List.take_append_drop]
  have e2 : crcMore (crcSum (b.take i.toNat)) (b.drop i.toNat) = crcSum b := by
    have := crcMore_app 0 (b.take i.toNat) (b.drop i.toNat) (by omega) (fun x hx => hb x (List.mem_of_mem_take hx))
    rw [List.take_append_drop] at this
    exact this.symm
  simp [h1, h2, h3, h4, show 0 ≤ i by omega, show i ≤ (b.length : Int) by omega, show i ≤ j by omega, show j ≤ (b.length : Int) by omega, show 0 ≤ j by omega, e1, e2]
end Go.Crc
