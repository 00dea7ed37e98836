/- The law SegmentOpens: a segment that is opened anew, of what was synced, has all that was appended, and as many trimmed, for every input. Conditions: none. -/
import Derived.Test.YtgnfgckieigblaaRows
import Derived.Test.YtgnfgckieigblaaWl
import Derived.WalkKit
import Derived.ProofKit
import Derived.OpenShut
import Derived.ShutString
import Derived.ChangeOld
import Derived.Below
import Derived.SizedLaws
import Derived.Carry
namespace Go.Proofs.Ytgnfgckieigblaa.segmentOpens
open Go.ChangeShapes Go.WideShapes Go.ChangeAt Go.RowKit
open Go.Vm Go.Crc
set_option linter.unusedVariables false
theorem own : ownKnob Try.prog.godebug = none := by kernel_rfl
theorem laidOut : laidOutB Try.prog = true := by kernel_rfl
set_option maxRecDepth 100000 in
theorem lifted (os : Os) (started : os.Started) (H : Type) (enc : TypeId × Value → H) :
    ReturnsInHanded {} Try.checked os 6 .any (Rows.segmentOpensSpec.pre6 enc Try.prog Try.f6 Rows.segmentOpensRow.domain false) (Rows.segmentOpensSpec.post enc Try.prog Try.f6 false true false false) := by
  refine returnsInHanded_of_change_sized (C := Try.checked) own started (by kernel_rfl) Try.func6
    (ChangeSpec.witness6 (enc := enc) (C := Try.checked) false ⟨#[], #[.slice none 0 0, .int .i64 0], []⟩ 8 (by kernel_rfl) (by kernel_rfl) (by kernel_rfl) (by kernel_rfl)) ?_
  intro W base args ds gs before hval0 hW hcnd hsz0 _
  have hsz : (DataW.weightsEach Try.prog (Try.f6.params.toList ++ Rows.segmentOpensSpec.plain.varTypes Try.prog) (ds ++ gs)).all (· ≤ reachBytes) = true := hsz0
  have hval : ∀ (j : Nat) t v, Try.f6.params[j]? = some t → args[j]? = some v → Value.okWide Try.prog W .any base t v := hval0
  have hW' := hW
  obtain ⟨p, q, hA0, hV, rfl, hfz, hnd⟩ := hW
  have hA : DataW.TrodAll enc Try.prog W 0 (fun _ => true) true Try.f6.params.toList args.toList ds p := hA0
  rw [Try.params6] at hA hval hsz
  obtain ⟨v0, vs0, d0, ds0, p0, q0, hargs, rfl, rfl, h0, r0⟩ := trodAll_cons hA
  obtain ⟨v1, vs1, d1, ds1, p1, q1, rfl, rfl, rfl, h1, r1⟩ := trodAll_cons r0
  obtain ⟨rfl, rfl, rfl⟩ := trodAll_nil r1
  obtain rfl : args = #[v0, v1] := by cases args; simp_all
  obtain ⟨rfl, rfl⟩ := trodVars_none hV
  have k0 := h0
  have lt0 : ∀ x ∈ p0, x.block < W.heap.size := by obtain ⟨m, hm⟩ := k0; exact DataW.trod_lt m _ _ _ hm
  obtain ⟨y0, z0, g0⟩ := open_arg (P := Try.prog) (T := (.slice (.pair (.pair (.int .i64) (.int .i64)) (.pair (.slice (.int .i64)) .str)))) (by kernel_rfl) (hval 0 38 v0 rfl rfl) h0 (sized_arg hsz (j := 0) (t := 38) rfl rfl)
  rw [show avOf Try.prog 38 (.slice (.pair (.pair (.int .i64) (.int .i64)) (.pair (.slice (.int .i64)) .str))) y0 = .slice (.pair (.pair (.int .i64) (.int .i64)) (.pair (.slice (.int .i64)) .str)) y0 .view by kernel_rfl] at g0
  have k1 := h1
  have lt1 : ∀ x ∈ p1, x.block < W.heap.size := by obtain ⟨m, hm⟩ := k1; exact DataW.trod_lt m _ _ _ hm
  obtain ⟨y1, z1, g1⟩ := open_arg (P := Try.prog) (T := (.int .i64)) (by kernel_rfl) (hval 1 3 v1 rfl rfl) h1 (sized_arg hsz (j := 1) (t := 3) rfl rfl)
  rw [show avOf Try.prog 3 (.int .i64) y1 = .int .i64 y1 by kernel_rfl] at g1
  clear hA0 hval0 hsz0 hsz
  refine (law_calls (P := Try.prog) (cfE_ok ESo) mixed (cfg := cfgS) (lf := lfSo) (by kernel_rfl) so_loops (seg_opens y0 y1 (sz_rec z0)) W #[v0, v1] ⟨g0, g1, trivial⟩).mono fun e W' ⟨he, bel⟩ => ?_
  subst he
  exact ⟨_, rfl, _, _, _, [], _, [], hW', trodAll_mk1 (shut_bool Try.underlying4 _), (trodAll_cons_mk (Below.trod laidOut (by kernel_rfl) (of_decide_eq_true (by kernel_rfl)) k0 bel lt0) (trodAll_cons_mk (Below.trod laidOut (by kernel_rfl) (of_decide_eq_true (by kernel_rfl)) k1 bel lt1) trodAll_mk0)), rfl, bel.frame _, fun h => by cases h⟩
theorem over : Rows.segmentOpensRow.holds Try.pinned (OpenSpec.ofChange Rows.segmentOpensSpec) :=
  OpenClaim.holds_of_wide 6 Try.f6 rfl rfl rfl rfl rfl rfl rfl ⟨rfl, rfl, rfl, rfl, rfl⟩ rfl rfl rfl rfl rfl (by kernel_rfl) Try.func6 (by kernel_rfl)
    (of_decide_eq_true (by kernel_rfl)) (by unfold Func.isWrapper; first | (rw [if_pos (by decide +kernel)]; kernel_rfl) | (rw [if_neg (by decide +kernel)]; exact ⟨rfl, rfl⟩))
    (fun os started H enc _ => lifted os started H enc)
theorem proved : Rows.SegmentOpensSaid := over
#print axioms proved
end Go.Proofs.Ytgnfgckieigblaa.segmentOpens
namespace Go.Proofs.Ytgnfgckieigblaa
/-- The row, under a short name, for the claim. -/
theorem segmentOpens_holds : Rows.SegmentOpensSaid := segmentOpens.proved
end Go.Proofs.Ytgnfgckieigblaa
