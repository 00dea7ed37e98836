/- Contracts of functions of this program. Conditions: none. -/
import Derived.Test.YthgcjakmcbhbeaaWb
set_option linter.unusedVariables false
set_option linter.unusedSimpArgs false
/- alive, and the contracts that the laws use. Conditions: none. A text of this seat's numbers. -/
set_option linter.unusedVariables false
set_option linter.unusedSimpArgs false
set_option maxRecDepth 100000
namespace Go.Crc
open Go.Vm
noncomputable def E0 : List (Ent PR A) := [newE, putE, cutE, sumE, moreE, countE, refCutE, refPutE, refSumE, refMoreE]
def cfgL : Cfg := cfgOf [] [n_crc_New] []
def aliveF : List AV → Tr AV
  | [] => .yes (.bool true)
  | _ => .no
theorem alive_ok : Con PR A n_law_alive (pureC aliveF) := by
  refine pureC_ok fun args v hv ha S => ?_
  unfold aliveF at hv
  split at hv
  · cases hv
    have h : body PR (cfE E0) cfgL (fun _ => none) n_law_alive [] S some = some (.bool true, [], S) := by kernel_rfl
    exact fun_call _ mixed (by kernel_rfl) (by kernel_rfl) (no_loops (by kernel_rfl)) h
  · cases hv
noncomputable def aliveE : Ent PR A := ⟨n_law_alive, _, alive_ok⟩
noncomputable def E1 : List (Ent PR A) := aliveE :: E0
end Go.Crc
/- The laws of crc without loops: what their equations come to. Conditions: none. A text of this seat's numbers. -/
set_option linter.unusedVariables false
set_option linter.unusedSimpArgs false
set_option maxRecDepth 100000
namespace Go.Crc
open Go.Vm
theorem crcPut_length (b : List Int) : (crcPut b).length = b.length + 4 := by simp [crcPut, le4]
theorem sz_bytes {b : List Int} (h : Sz (.slice (.int .u8)) b) : isBytes b := fun x hx => by
  have := h.2 x hx
  simpa [Sz, IntKind.min, IntKind.max, IntKind.signed, IntKind.bits] using this
end Go.Crc
