/- Contracts of functions of this program. Conditions: none. -/
import Derived.Test.YtdmjiibhfgieaaaGreatWl
set_option linter.unusedVariables false
set_option linter.unusedSimpArgs false
/- Scripts of calls on replicas: whether they are few; rows of entries compared. Conditions: none. A text of this seat's numbers. -/
set_option linter.unusedVariables false
set_option linter.unusedSimpArgs false
set_option maxRecDepth 100000
namespace Go.Crc
open Go.Vm Go.Pack Go.Rec Go.RowKit
end Go.Crc
/- Replicas: reopened, new. Conditions: none. A text of this seat's numbers. -/
set_option linter.unusedVariables false
set_option linter.unusedSimpArgs false
set_option maxRecDepth 100000
namespace Go.Crc
open Go.Vm Go.Pack Go.Rec Go.RowKit
abbrev rpOj (j : Nat) (id te : Int) (L : List En) (se : Bool) : Ob := .cells [.int .i64 id, .int .i64 te, .ptr 0 j 0, .slice EnT L .own, .bool se]
abbrev coOb (t : Int) (s : List Int) (sh : List (List Int)) : Ob := .cells [.int .i64 t, .slice (.int .i64) s .view, .slice RowT sh .view]
def conOK (t : Int) (s : List Int) (sh : List (List Int)) (id : Int) : Bool := termR t s sh && s.any fun y => id == y
abbrev rdL (b : List Int) : List En := (rpR (scanL b) [] false).1
abbrev rdS (b : List Int) : Bool := (rpR (scanL b) [] false).2.1
abbrev rdG (b : List Int) : Bool := (rpR (scanL b) [] false).2.2
def rOpF : List AV → Stack → Tr Res
  | [.int .i64 id, .agg [.int .i64 t, .slice (.int .i64) s .view, .slice (.slice (.int .i64)) sh .view], .ptr 0 1 0], [x, .cells [.slice (.int .u8) b .own, .int .i64 n, .bool o]] :: S =>
    .br (decide (b.length ≤ 65536)) (.br (conOK t s sh id && rdG b) (.yes (.tuple [.ptr 0 3 0, .int .i64 0], [], [x, stO b n o, coOb t s sh, rpOj 1 id t (rdL b) (rdS b)] :: S)) (.yes (.tuple [.nilp, .int .i64 1], [], [x, stO b n o] :: S))) .no
  | [.int .i64 id, .agg [.int .i64 t, .slice (.int .i64) s .view, .slice (.slice (.int .i64)) sh .view], .ptr 0 3 0], [x, y, w, .cells [.slice (.int .u8) b .own, .int .i64 n, .bool o]] :: S =>
    .br (decide (b.length ≤ 65536)) (.br (conOK t s sh id && rdG b) (.yes (.tuple [.ptr 0 5 0, .int .i64 0], [], [x, y, w, stO b n o, coOb t s sh, rpOj 3 id t (rdL b) (rdS b)] :: S)) (.yes (.tuple [.nilp, .int .i64 1], [], [x, y, w, stO b n o] :: S))) .no
  | _, _ => .no
noncomputable abbrev EOp : List (Ent PR A) := [trE, conE, rReE]
theorem rOp_ok : Con PR A n_replica_Reopen (shapeC rOpF) := by
  refine shapeC_ok fun args S res hv => ?_
  unfold rOpF at hv
  split at hv
  · rename_i id t s sh x b n o S
    obtain ⟨hc, hv2⟩ := Tr.br_no hv
    have h : body PR (cfE EOp) cfgRp lf0 n_replica_Reopen [.int .i64 id, conA t s sh, .ptr 0 1 0] ([x, stO b n o] :: S) some =
      (bif !termR t s sh then some (.tuple [.nilp, .int .i64 1], [], [x, stO b n o] :: S) else bif !(s.any fun y => id == y) then some (.tuple [.nilp, .int .i64 1], [], [x, stO b n o] :: S)
      else bif decide (b.length ≤ 65536) then bif !rdG b then some (.tuple [.nilp, .int .i64 1], [], [x, stO b n o] :: S) else some (.tuple [.ptr 0 3 0, .int .i64 0], [], [x, stO b n o, coOb t s sh, rpOj 1 id t (rdL b) (rdS b)] :: S) else none) := by kernel_rfl
    rw [hc] at h
    unfold conOK at hv2
    rcases Tr.br_or hv2 with ⟨he, h4⟩ | ⟨he, h4⟩
    · cases h4
      simp only [Bool.and_eq_true] at he
      rw [he.1.1, he.1.2, he.2] at h
      exact ⟨fun _ _ => fun_call _ mixed (by kernel_rfl) (by kernel_rfl) (no_loops (by kernel_rfl)) h, app_keeps [x, stO b n o] [coOb t s sh, rpOj 1 id t (rdL b) (rdS b)] S⟩
    · cases h4
      refine ⟨fun _ _ => fun_call _ mixed (by kernel_rfl) (by kernel_rfl) (no_loops (by kernel_rfl)) (h.trans ?_), fun l i _ => .inl (copyvs_refl_ObE _)⟩
      revert he
      cases termR t s sh <;> cases (s.any fun y => id == y) <;> cases rdG b <;> first | (intro _; rfl) | (intro he; cases he)
  · rename_i id t s sh x y w b n o S
    obtain ⟨hc, hv2⟩ := Tr.br_no hv
    have h : body PR (cfE EOp) cfgRp lf0 n_replica_Reopen [.int .i64 id, conA t s sh, .ptr 0 3 0] ([x, y, w, stO b n o] :: S) some =
      (bif !termR t s sh then some (.tuple [.nilp, .int .i64 1], [], [x, y, w, stO b n o] :: S) else bif !(s.any fun y => id == y) then some (.tuple [.nilp, .int .i64 1], [], [x, y, w, stO b n o] :: S)
      else bif decide (b.length ≤ 65536) then bif !rdG b then some (.tuple [.nilp, .int .i64 1], [], [x, y, w, stO b n o] :: S) else some (.tuple [.ptr 0 5 0, .int .i64 0], [], [x, y, w, stO b n o, coOb t s sh, rpOj 3 id t (rdL b) (rdS b)] :: S) else none) := by kernel_rfl
    rw [hc] at h
    unfold conOK at hv2
    rcases Tr.br_or hv2 with ⟨he, h4⟩ | ⟨he, h4⟩
    · cases h4
      simp only [Bool.and_eq_true] at he
      rw [he.1.1, he.1.2, he.2] at h
      exact ⟨fun _ _ => fun_call _ mixed (by kernel_rfl) (by kernel_rfl) (no_loops (by kernel_rfl)) h, app_keeps [x, y, w, stO b n o] [coOb t s sh, rpOj 3 id t (rdL b) (rdS b)] S⟩
    · cases h4
      refine ⟨fun _ _ => fun_call _ mixed (by kernel_rfl) (by kernel_rfl) (no_loops (by kernel_rfl)) (h.trans ?_), fun l i _ => .inl (copyvs_refl_ObE _)⟩
      revert he
      cases termR t s sh <;> cases (s.any fun y => id == y) <;> cases rdG b <;> first | (intro _; rfl) | (intro he; cases he)
  · cases hv
def rOpE : Ent PR A := ⟨n_replica_Reopen, _, rOp_ok⟩
abbrev nwObs (j : Nat) (id t : Int) (s : List Int) (sh : List (List Int)) : List Ob := [coOb t s sh, stO [] 0 false, coOb t s sh, rpOj j id t [] false]
def rNwF : List AV → Stack → Tr Res
  | [.int .i64 id, .agg [.int .i64 t, .slice (.int .i64) s .view, .slice (.slice (.int .i64)) sh .view]], l :: S =>
    .br (conOK t s sh id) (.yes (.tuple [.ptr 0 (lenN l + 3) 0, .int .i64 0], [], app l (nwObs (lenN l + 1) id t s sh) :: S)) (.yes (.tuple [.nilp, .int .i64 1], [], l :: S))
  | _, _ => .no
theorem rNw_ok : Con PR A n_replica_New (shapeC rNwF) := by
  refine shapeC_ok fun args S res hv => ?_
  unfold rNwF at hv
  split at hv
  · rename_i id t s sh l S
    have h : body PR (cfE (P := PR) (A := A) [stNwE, rOpE]) cfgRp lf0 n_replica_New [.int .i64 id, conA t s sh] (l :: S) some =
      (bif conOK t s sh id && true then some (.tuple [.ptr 0 (lenN l + 3) 0, .int .i64 0], [], app l [coOb t s sh, stO (nwB []) (scanN (([] : List Int).take 65536)) false, coOb t s sh, rpOj (lenN l + 1) id t (rdL (nwB [])) (rdS (nwB []))] :: S)
      else some (.tuple [.nilp, .int .i64 1], [], l :: S)) := by kernel_rfl
    rw [nwB_nil, scanN_nil] at h
    rcases Tr.br_or hv with ⟨he, h4⟩ | ⟨he, h4⟩
    · cases h4
      rw [he] at h
      exact ⟨fun _ _ => fun_call _ mixed (by kernel_rfl) (by kernel_rfl) (no_loops (by kernel_rfl)) h, app_keeps l (nwObs (lenN l + 1) id t s sh) S⟩
    · cases h4
      rw [he] at h
      exact ⟨fun _ _ => fun_call _ mixed (by kernel_rfl) (by kernel_rfl) (no_loops (by kernel_rfl)) h, fun l i _ => .inl (copyvs_refl_ObE _)⟩
  · cases hv
def rNwE : Ent PR A := ⟨n_replica_New, _, rNw_ok⟩
end Go.Crc
/- Calls of scripts on replicas. Conditions: none. A text of this seat's numbers. -/
set_option linter.unusedVariables false
set_option linter.unusedSimpArgs false
set_option maxRecDepth 100000
namespace Go.Crc
open Go.Vm Go.Pack Go.Rec Go.RowKit
structure Op11 where
  kd : Int
  N : Int
  m : Msg
  w : Bool
def rsB (z : RpS) : List Int := nwB (z.b.take z.n.toNat)
def rsN (z : RpS) : Int := scanN ((z.b.take z.n.toNat).take 65536)
def rsZ (z : RpS) : RpS := ⟨z.id, z.te, rdL (rsB z), rdS (rsB z), rsB z, rsN z, false⟩
def dsZ (z : RpS) (x : Op11) : RpS := bif x.kd == 0 then tkZ z x.m else bif x.kd == 1 then csR z x.N else bif x.kd == 2 then { z with o := x.w } else z
def dsOK (z : RpS) (id t : Int) (s : List Int) (sh : List (List Int)) : Bool := goodR z && (conOK t s sh id && (rdG (rsB z) && (decide (id = z.id) && decide (t = z.te))))
end Go.Crc
