/- Contracts of functions of this program. Conditions: none. -/
import Derived.Test.YthejhodnoanngaaWg
set_option linter.unusedVariables false
set_option linter.unusedSimpArgs false
/- The laws of pages. Conditions: none. A text of this seat's numbers. -/
set_option linter.unusedVariables false
set_option linter.unusedSimpArgs false
set_option maxRecDepth 100000
namespace Go.Crc
open Go.Vm Go.Pack Go.Rec Go.RowKit
def aliveF : List AV → Tr AV
  | [] => .yes (.bool true)
  | _ => .no
theorem alive_ok : Con PR A n_law_alive (pureC aliveF) := by
  refine pure_con0 (cfg := cfgG) [stNwE, stApE, stCrE, stFrE, stLenE, stSynE] mixed (by kernel_rfl) (by kernel_rfl) (by kernel_rfl) fun args v hv ha S => ?_
  unfold aliveF at hv
  split at hv
  · cases hv
    kernel_rfl
  · cases hv
def aliveE : Ent PR A := ⟨n_law_alive, _, alive_ok⟩
/-! ### PageScans -/
def psF (vs : List AV) (H : Stack) : Tr (Ex × List AV × Stack × Wr) := match vs, H with
  | [.slice (.slice (.int .u8)) l .view, .slice .str l2 .view, .int .i64 m, .int .i64 i], [] :: S => .br (decide (m = l.length) && (decide (l.length = l2.length) && decide (i = 0))) (.br (l == l2) (.yes (.exit 0, [.undef], [] :: S, [])) (.yes (.ret, [.bool false], [] :: S, []))) .no
  | _, _ => .no
def lfPs : Nat → Option LoopSum := lfOf [(506, loopT [3, 5, 34, 35] [2] psF)]
noncomputable abbrev LPs (N : Nat) := LC PR (cfE (P := PR) (A := A) [aliveE, scanE, dscE]) cfgG lfPs n_law_PageScans 0 506 [3, 5, 34, 35] [2] N
theorem ps_round (l l2 : List (List Int)) (m i : Int) (S : Stack) (wr : Wr) (N : Nat) (k : Ex → List AV → Stack → Wr → Option Res) :
    LPs (N + 1) [.slice TRow l .view, .slice .str l2 .view, .int .i64 m, .int .i64 i] ([] :: S) wr k =
      (bif decide (i < m) then (at? l i).bind fun x => (at? l2 i).bind fun y => bif x != y then k .ret [.bool false] ([] :: S) wr
        else LPs N [.slice TRow l .view, .slice .str l2 .view, .int .i64 m, .int .i64 (IntKind.i64.wrap (i + 1))] ([] :: S) wr k
      else k (.exit 0) [.undef] ([] :: S) wr) := by kernel_rfl
theorem ps_loops : ∀ x ∈ funLoops PR n_law_PageScans, ∀ L, lfPs x.1 = some L → LoopOK (ntm PR n_law_PageScans) (fun fr H wr k => code PR (cfE (P := PR) (A := A) [aliveE, scanE, dscE]) cfgG lfPs (cfgG.live n_law_PageScans) x.2 (2 * x.1) fr H wr k) L := by
  refine one_loop (p := 506) rfl (by kernel_rfl) (loopT_ok (by decide) fun vs H wr ex vs' H' w hv ha hh => ?_)
  unfold psF at hv
  split at hv
  · rename_i l l2 m i S
    obtain ⟨hc, hv2⟩ := Tr.br_no hv
    clear hv
    simp only [Bool.and_eq_true, decide_eq_true_eq] at hc
    obtain ⟨h1, h2, h3⟩ := hc
    subst h3
    simp only [okAVs, okAV] at ha
    have hl : l.length ≤ maxInt := ha.1.1
    refine ⟨l.length + 1, fun k => ?_⟩
    have := eq_loop (F := fun N i => LPs N [.slice TRow l .view, .slice .str l2 .view, .int .i64 m, .int .i64 i] ([] :: S) wr k) (xs := l) (ys := l2) (m := m) h1 h2 hl (fun N i => ps_round l l2 m i S wr N k) l.length 0 (by omega)
    rw [List.drop_zero, List.drop_zero] at this
    rcases Tr.br_or hv2 with ⟨he, h4⟩ | ⟨he, h4⟩
    · cases h4; rw [he] at this; exact this
    · cases h4; rw [he] at this; exact this
  · cases hv
noncomputable def EPs : List (Ent PR A) := [aliveE, scanE, dscE]
theorem page_scans (b : List Int) : body PR (cfE EPs) cfgG lfPs n_law_PageScans [.slice (.int .u8) b .view] [] some = some (.bool true, [], []) := by
  have h : body PR (cfE EPs) cfgG lfPs n_law_PageScans [.slice (.int .u8) b .view] [] some =
    (bif decide ((b.length : Int) > 5000) then some (.bool true, [], [])
    else bif decide (b.length ≤ 1000000) then bif decide (b.length ≤ 1000000) then
      bif (((scanL b).length : Int) != ((scanL b).length : Int)) then some (.bool false, [], []) else bif (scanN b != scanN b) then some (.bool false, [], [])
      else bif decide (((scanL b).length : Int) = ((scanL b).length : Int)) && (decide ((scanL b).length = (scanL b).length) && decide ((0 : Int) = 0)) then bif scanL b == scanL b then some (.bool true, [], []) else some (.bool false, [], []) else none
    else none else none) := by kernel_rfl
  rw [h]
  by_cases hl : (b.length : Int) > 5000
  · rw [decide_eq_true hl]; rfl
  · rw [decide_eq_false hl, decide_eq_true (show b.length ≤ 1000000 by omega)]
    simp
end Go.Crc
