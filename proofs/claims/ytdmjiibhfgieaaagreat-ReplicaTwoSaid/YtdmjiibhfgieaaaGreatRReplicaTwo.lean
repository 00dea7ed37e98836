/- The law ReplicaTwo: two replicas of one metalog, of which each got some of the same entries, have the same ones, as far as both have them, for every input. Conditions: none. -/
import Derived.Test.YtdmjiibhfgieaaaGreatRows
import Derived.Test.YtdmjiibhfgieaaaGreatWs
import Derived.WalkKit
import Derived.ProofKit
import Derived.OpenShut
import Derived.ShutString
import Derived.ChangeOld
import Derived.Below
import Derived.SizedLaws
import Derived.Carry
namespace Go.Proofs.YtdmjiibhfgieaaaGreat.replicaTwo
open Go.ChangeShapes Go.WideShapes Go.ChangeAt Go.RowKit
open Go.Vm Go.Crc
set_option linter.unusedVariables false
theorem own : ownKnob Tryz.prog.godebug = none := by kernel_rfl
theorem laidOut : laidOutB Tryz.prog = true := by kernel_rfl
set_option maxRecDepth 100000 in
theorem lifted (os : Os) (started : os.Started) (H : Type) (enc : TypeId × Value → H) :
    ReturnsInHanded {} Tryz.checked os 3 .any (Rows.replicaTwoSpec.pre6 enc Tryz.prog Tryz.f3 Rows.replicaTwoRow.domain false) (Rows.replicaTwoSpec.post enc Tryz.prog Tryz.f3 false true false false) := by
  refine returnsInHanded_of_change_sized (C := Tryz.checked) own started (by kernel_rfl) Tryz.func3
    (ChangeSpec.witness6 (enc := enc) (C := Tryz.checked) false ⟨#[], #[.agg #[.int .i64 0, .slice none 0 0, .slice none 0 0], .slice none 0 0, .agg #[.slice none 0 0, .slice none 0 0]], []⟩ 8 (by kernel_rfl) (by kernel_rfl) (by kernel_rfl) (by kernel_rfl)) ?_
  intro W base args ds gs before hval0 hW hcnd hsz0 _
  have hsz : (DataW.weightsEach Tryz.prog (Tryz.f3.params.toList ++ Rows.replicaTwoSpec.plain.varTypes Tryz.prog) (ds ++ gs)).all (· ≤ reachBytes) = true := hsz0
  have hval : ∀ (j : Nat) t v, Tryz.f3.params[j]? = some t → args[j]? = some v → Value.okWide Tryz.prog W .any base t v := hval0
  have hW' := hW
  obtain ⟨p, q, hA0, hV, rfl, hfz, hnd⟩ := hW
  have hA : DataW.TrodAll enc Tryz.prog W 0 (fun _ => true) true Tryz.f3.params.toList args.toList ds p := hA0
  rw [Tryz.params3] at hA hval hsz
  obtain ⟨v0, vs0, d0, ds0, p0, q0, hargs, rfl, rfl, h0, r0⟩ := trodAll_cons hA
  obtain ⟨v1, vs1, d1, ds1, p1, q1, rfl, rfl, rfl, h1, r1⟩ := trodAll_cons r0
  obtain ⟨v2, vs2, d2, ds2, p2, q2, rfl, rfl, rfl, h2, r2⟩ := trodAll_cons r1
  obtain ⟨rfl, rfl, rfl⟩ := trodAll_nil r2
  obtain rfl : args = #[v0, v1, v2] := by cases args; simp_all
  obtain ⟨rfl, rfl⟩ := trodVars_none hV
  have k0 := h0
  have lt0 : ∀ x ∈ p0, x.block < W.heap.size := by obtain ⟨m, hm⟩ := k0; exact DataW.trod_lt m _ _ _ hm
  obtain ⟨y0, z0, g0⟩ := open_arg (P := Tryz.prog) (T := (.pair (.int .i64) (.pair (.slice (.int .i64)) (.slice (.slice (.int .i64)))))) (by kernel_rfl) (hval 0 25 v0 rfl rfl) h0 (sized_arg hsz (j := 0) (t := 25) rfl rfl)
  rw [show avOf Tryz.prog 25 (.pair (.int .i64) (.pair (.slice (.int .i64)) (.slice (.slice (.int .i64))))) y0 = .agg [.int .i64 y0.1, .slice (.int .i64) y0.2.1 .view, .slice (.slice (.int .i64)) y0.2.2 .view] by kernel_rfl] at g0
  have k1 := h1
  have lt1 : ∀ x ∈ p1, x.block < W.heap.size := by obtain ⟨m, hm⟩ := k1; exact DataW.trod_lt m _ _ _ hm
  obtain ⟨y1, z1, g1⟩ := open_arg (P := Tryz.prog) (T := (.slice (.pair (.int .i64) (.pair (.int .i64) (.pair (.slice (.int .i64)) (.pair (.int .i64) (.pair (.int .i64) (.int .i64)))))))) (by kernel_rfl) (hval 1 26 v1 rfl rfl) h1 (sized_arg hsz (j := 1) (t := 26) rfl rfl)
  rw [show avOf Tryz.prog 26 (.slice (.pair (.int .i64) (.pair (.int .i64) (.pair (.slice (.int .i64)) (.pair (.int .i64) (.pair (.int .i64) (.int .i64))))))) y1 = .slice (.pair (.int .i64) (.pair (.int .i64) (.pair (.slice (.int .i64)) (.pair (.int .i64) (.pair (.int .i64) (.int .i64)))))) y1 .view by kernel_rfl] at g1
  have k2 := h2
  have lt2 : ∀ x ∈ p2, x.block < W.heap.size := by obtain ⟨m, hm⟩ := k2; exact DataW.trod_lt m _ _ _ hm
  obtain ⟨y2, z2, g2⟩ := open_arg (P := Tryz.prog) (T := (.pair (.slice (.int .i64)) (.slice (.int .i64)))) (by kernel_rfl) (hval 2 27 v2 rfl rfl) h2 (sized_arg hsz (j := 2) (t := 27) rfl rfl)
  rw [show avOf Tryz.prog 27 (.pair (.slice (.int .i64)) (.slice (.int .i64))) y2 = .agg [.slice (.int .i64) y2.1 .view, .slice (.int .i64) y2.2 .view] by kernel_rfl] at g2
  clear hA0 hval0 hsz0 hsz
  refine (law_calls (P := Tryz.prog) (cfE_ok ETwo) mixed (cfg := cfgRp) (lf := lfTwo) (by kernel_rfl) two_loops (rep_two y0.1 y0.2.1 y0.2.2 y1 y2.1 y2.2) W #[v0, v1, v2] ⟨g0, g1, g2, trivial⟩).mono fun e W' ⟨he, bel⟩ => ?_
  subst he
  exact ⟨_, rfl, _, _, _, [], _, [], hW', trodAll_mk1 (shut_bool Tryz.underlying4 _), (trodAll_cons_mk (Below.trod laidOut (by kernel_rfl) (of_decide_eq_true (by kernel_rfl)) k0 bel lt0) (trodAll_cons_mk (Below.trod laidOut (by kernel_rfl) (of_decide_eq_true (by kernel_rfl)) k1 bel lt1) (trodAll_cons_mk (Below.trod laidOut (by kernel_rfl) (of_decide_eq_true (by kernel_rfl)) k2 bel lt2) trodAll_mk0))), rfl, bel.frame _, fun h => by cases h⟩
theorem over : Rows.replicaTwoRow.holds Tryz.pinned (OpenSpec.ofChange Rows.replicaTwoSpec) :=
  OpenClaim.holds_of_wide 3 Tryz.f3 rfl rfl rfl rfl rfl rfl rfl ⟨rfl, rfl, rfl, rfl, rfl⟩ rfl rfl rfl rfl rfl (by kernel_rfl) Tryz.func3 (by kernel_rfl)
    (of_decide_eq_true (by kernel_rfl)) (by unfold Func.isWrapper; first | (rw [if_pos (by decide +kernel)]; kernel_rfl) | (rw [if_neg (by decide +kernel)]; exact ⟨rfl, rfl⟩))
    (fun os started H enc _ => lifted os started H enc)
theorem proved : Rows.ReplicaTwoSaid := over
#print axioms proved
end Go.Proofs.YtdmjiibhfgieaaaGreat.replicaTwo
namespace Go.Proofs.YtdmjiibhfgieaaaGreat
/-- The row, under a short name, for the claim. -/
theorem replicaTwo_holds : Rows.ReplicaTwoSaid := replicaTwo.proved
end Go.Proofs.YtdmjiibhfgieaaaGreat
