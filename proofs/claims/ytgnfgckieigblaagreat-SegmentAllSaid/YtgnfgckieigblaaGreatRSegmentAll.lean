/- The law SegmentAll: every call of any script is answered as the document says; which records there are, and are safe, is what it says, for every input. Conditions: none. -/
import Derived.Test.YtgnfgckieigblaaGreatRows
import Derived.Test.YtgnfgckieigblaaGreatWo
import Derived.WalkKit
import Derived.ProofKit
import Derived.OpenShut
import Derived.ShutString
import Derived.ChangeOld
import Derived.Below
import Derived.SizedLaws
import Derived.Carry
namespace Go.Proofs.YtgnfgckieigblaaGreat.segmentAll
open Go.ChangeShapes Go.WideShapes Go.ChangeAt Go.RowKit
open Go.Vm Go.Crc
set_option linter.unusedVariables false
theorem own : ownKnob Tryz.prog.godebug = none := by kernel_rfl
theorem laidOut : laidOutB Tryz.prog = true := by kernel_rfl
set_option maxRecDepth 100000 in
theorem lifted (os : Os) (started : os.Started) (H : Type) (enc : TypeId × Value → H) :
    ReturnsInHanded {} Tryz.checked os 3 .any (Rows.segmentAllSpec.pre6 enc Tryz.prog Tryz.f3 Rows.segmentAllRow.domain false) (Rows.segmentAllSpec.post enc Tryz.prog Tryz.f3 false true false false) := by
  refine returnsInHanded_of_change_sized (C := Tryz.checked) own started (by kernel_rfl) Tryz.func3
    (ChangeSpec.witness6 (enc := enc) (C := Tryz.checked) false ⟨#[], #[.slice none 0 0, .slice none 0 0], []⟩ 8 (by kernel_rfl) (by kernel_rfl) (by kernel_rfl) (by kernel_rfl)) ?_
  intro W base args ds gs before hval0 hW hcnd hsz0 _
  have hsz : (DataW.weightsEach Tryz.prog (Tryz.f3.params.toList ++ Rows.segmentAllSpec.plain.varTypes Tryz.prog) (ds ++ gs)).all (· ≤ reachBytes) = true := hsz0
  have hval : ∀ (j : Nat) t v, Tryz.f3.params[j]? = some t → args[j]? = some v → Value.okWide Tryz.prog W .any base t v := hval0
  have hW' := hW
  obtain ⟨p, q, hA0, hV, rfl, hfz, hnd⟩ := hW
  have hA : DataW.TrodAll enc Tryz.prog W 0 (fun _ => true) true Tryz.f3.params.toList args.toList ds p := hA0
  rw [Tryz.params3] at hA hval hsz
  obtain ⟨v0, vs0, d0, ds0, p0, q0, hargs, rfl, rfl, h0, r0⟩ := trodAll_cons hA
  obtain ⟨v1, vs1, d1, ds1, p1, q1, rfl, rfl, rfl, h1, r1⟩ := trodAll_cons r0
  obtain ⟨rfl, rfl, rfl⟩ := trodAll_nil r1
  obtain rfl : args = #[v0, v1] := by cases args; simp_all
  obtain ⟨rfl, rfl⟩ := trodVars_none hV
  have k0 := h0
  have lt0 : ∀ x ∈ p0, x.block < W.heap.size := by obtain ⟨m, hm⟩ := k0; exact DataW.trod_lt m _ _ _ hm
  obtain ⟨y0, z0, g0⟩ := open_arg (P := Tryz.prog) (T := (.slice (.int .u8))) (by kernel_rfl) (hval 0 22 v0 rfl rfl) h0 (sized_arg hsz (j := 0) (t := 22) rfl rfl)
  rw [show avOf Tryz.prog 22 (.slice (.int .u8)) y0 = .slice (.int .u8) y0 .view by kernel_rfl] at g0
  have k1 := h1
  have lt1 : ∀ x ∈ p1, x.block < W.heap.size := by obtain ⟨m, hm⟩ := k1; exact DataW.trod_lt m _ _ _ hm
  obtain ⟨y1, z1, g1⟩ := open_arg (P := Tryz.prog) (T := (.slice (.pair (.int .i64) (.pair (.int .i64) (.pair (.pair (.pair (.int .i64) (.int .i64)) (.pair (.slice (.int .i64)) .str)) .bool))))) (by kernel_rfl) (hval 1 23 v1 rfl rfl) h1 (sized_arg hsz (j := 1) (t := 23) rfl rfl)
  rw [show avOf Tryz.prog 23 (.slice (.pair (.int .i64) (.pair (.int .i64) (.pair (.pair (.pair (.int .i64) (.int .i64)) (.pair (.slice (.int .i64)) .str)) .bool)))) y1 = .slice (.pair (.int .i64) (.pair (.int .i64) (.pair (.pair (.pair (.int .i64) (.int .i64)) (.pair (.slice (.int .i64)) .str)) .bool))) y1 .view by kernel_rfl] at g1
  clear hA0 hval0 hsz0 hsz
  refine (law_calls (P := Tryz.prog) (cfE_ok ESa) mixed (cfg := cfgS) (lf := lfSa) (by kernel_rfl) sa_loops (seg_all y0 y1 (sz_bytesS z0)) W #[v0, v1] ⟨g0, g1, trivial⟩).mono fun e W' ⟨he, bel⟩ => ?_
  subst he
  exact ⟨_, rfl, _, _, _, [], _, [], hW', trodAll_mk1 (shut_bool Tryz.underlying4 _), (trodAll_cons_mk (Below.trod laidOut (by kernel_rfl) (of_decide_eq_true (by kernel_rfl)) k0 bel lt0) (trodAll_cons_mk (Below.trod laidOut (by kernel_rfl) (of_decide_eq_true (by kernel_rfl)) k1 bel lt1) trodAll_mk0)), rfl, bel.frame _, fun h => by cases h⟩
theorem over : Rows.segmentAllRow.holds Tryz.pinned (OpenSpec.ofChange Rows.segmentAllSpec) :=
  OpenClaim.holds_of_wide 3 Tryz.f3 rfl rfl rfl rfl rfl rfl rfl ⟨rfl, rfl, rfl, rfl, rfl⟩ rfl rfl rfl rfl rfl (by kernel_rfl) Tryz.func3 (by kernel_rfl)
    (of_decide_eq_true (by kernel_rfl)) (by unfold Func.isWrapper; first | (rw [if_pos (by decide +kernel)]; kernel_rfl) | (rw [if_neg (by decide +kernel)]; exact ⟨rfl, rfl⟩))
    (fun os started H enc _ => lifted os started H enc)
theorem proved : Rows.SegmentAllSaid := over
#print axioms proved
end Go.Proofs.YtgnfgckieigblaaGreat.segmentAll
namespace Go.Proofs.YtgnfgckieigblaaGreat
/-- The row, under a short name, for the claim. -/
theorem segmentAll_holds : Rows.SegmentAllSaid := segmentAll.proved
end Go.Proofs.YtgnfgckieigblaaGreat
