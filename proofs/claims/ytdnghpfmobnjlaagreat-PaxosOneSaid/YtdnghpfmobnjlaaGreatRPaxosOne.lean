/- The law PaxosOne: whatever is lost, doubled or late, whoever crashes, and however often three propose, never are two unlike configurations chosen, for every input. Conditions: none. -/
import Derived.Test.YtdnghpfmobnjlaaGreatRows
import Derived.Test.YtdnghpfmobnjlaaGreatWs
import Derived.WalkKit
import Derived.ProofKit
import Derived.OpenShut
import Derived.ShutString
import Derived.ChangeOld
import Derived.Below
import Derived.SizedLaws
import Derived.Carry
namespace Go.Proofs.YtdnghpfmobnjlaaGreat.paxosOne
open Go.ChangeShapes Go.WideShapes Go.ChangeAt Go.RowKit
open Go.Vm Go.Crc
set_option linter.unusedVariables false
theorem own : ownKnob Tryz.prog.godebug = none := by kernel_rfl
theorem laidOut : laidOutB Tryz.prog = true := by kernel_rfl
set_option maxRecDepth 100000 in
theorem lifted (os : Os) (started : os.Started) (H : Type) (enc : TypeId × Value → H) :
    ReturnsInHanded {} Tryz.checked os 4 .any (Rows.paxosOneSpec.pre6 enc Tryz.prog Tryz.f4 Rows.paxosOneRow.domain false) (Rows.paxosOneSpec.post enc Tryz.prog Tryz.f4 false true false false) := by
  refine returnsInHanded_of_change_sized (C := Tryz.checked) own started (by kernel_rfl) Tryz.func4
    (ChangeSpec.witness6 (enc := enc) (C := Tryz.checked) false ⟨#[], #[.slice none 0 0], []⟩ 8 (by kernel_rfl) (by kernel_rfl) (by kernel_rfl) (by kernel_rfl)) ?_
  intro W base args ds gs before hval0 hW hcnd hsz0 _
  have hsz : (DataW.weightsEach Tryz.prog (Tryz.f4.params.toList ++ Rows.paxosOneSpec.plain.varTypes Tryz.prog) (ds ++ gs)).all (· ≤ reachBytes) = true := hsz0
  have hval : ∀ (j : Nat) t v, Tryz.f4.params[j]? = some t → args[j]? = some v → Value.okWide Tryz.prog W .any base t v := hval0
  have hW' := hW
  obtain ⟨p, q, hA0, hV, rfl, hfz, hnd⟩ := hW
  have hA : DataW.TrodAll enc Tryz.prog W 0 (fun _ => true) true Tryz.f4.params.toList args.toList ds p := hA0
  rw [Tryz.params4] at hA hval hsz
  obtain ⟨v0, vs0, d0, ds0, p0, q0, hargs, rfl, rfl, h0, r0⟩ := trodAll_cons hA
  obtain ⟨rfl, rfl, rfl⟩ := trodAll_nil r0
  obtain rfl : args = #[v0] := by cases args; simp_all
  obtain ⟨rfl, rfl⟩ := trodVars_none hV
  have k0 := h0
  have lt0 : ∀ x ∈ p0, x.block < W.heap.size := by obtain ⟨m, hm⟩ := k0; exact DataW.trod_lt m _ _ _ hm
  obtain ⟨y0, z0, g0⟩ := open_arg (P := Tryz.prog) (T := (.slice (.pair (.int .i64) (.pair (.int .i64) (.int .i64))))) (by kernel_rfl) (hval 0 58 v0 rfl rfl) h0 (sized_arg hsz (j := 0) (t := 58) rfl rfl)
  rw [show avOf Tryz.prog 58 (.slice (.pair (.int .i64) (.pair (.int .i64) (.int .i64)))) y0 = .slice (.pair (.int .i64) (.pair (.int .i64) (.int .i64))) y0 .view by kernel_rfl] at g0
  clear hA0 hval0 hsz0 hsz
  refine (law_callsG (P := Tryz.prog) (cfE_ok EOn) mixed (GR := GRc) (γ0 := none) grc_stable2 (fun _ _ _ _ => trivial) (cfg := cfgPx) (lf := lf0) on_funGB on_ps on_hooks on_loops (pax_one y0) W #[v0] ⟨g0, trivial⟩).mono fun e W' ⟨he, bel⟩ => ?_
  subst he
  exact ⟨_, rfl, _, _, _, [], _, [], hW', trodAll_mk1 (shut_bool Tryz.underlying4 _), (trodAll_cons_mk (Below.trod laidOut (by kernel_rfl) (of_decide_eq_true (by kernel_rfl)) k0 bel lt0) trodAll_mk0), rfl, bel.frame _, fun h => by cases h⟩
theorem over : Rows.paxosOneRow.holds Tryz.pinned (OpenSpec.ofChange Rows.paxosOneSpec) :=
  OpenClaim.holds_of_wide 4 Tryz.f4 rfl rfl rfl rfl rfl rfl rfl ⟨rfl, rfl, rfl, rfl, rfl⟩ rfl rfl rfl rfl rfl (by kernel_rfl) Tryz.func4 (by kernel_rfl)
    (of_decide_eq_true (by kernel_rfl)) (by unfold Func.isWrapper; first | (rw [if_pos (by decide +kernel)]; kernel_rfl) | (rw [if_neg (by decide +kernel)]; exact ⟨rfl, rfl⟩))
    (fun os started H enc _ => lifted os started H enc)
theorem proved : Rows.PaxosOneSaid := over
#print axioms proved
end Go.Proofs.YtdnghpfmobnjlaaGreat.paxosOne
namespace Go.Proofs.YtdnghpfmobnjlaaGreat
/-- The row, under a short name, for the claim. -/
theorem paxosOne_holds : Rows.PaxosOneSaid := paxosOne.proved
end Go.Proofs.YtdnghpfmobnjlaaGreat
