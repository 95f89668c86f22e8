-- written by this session's own program, over the kit's print
import Derived.Test.YtghlhdjngihkoaaRows
import Derived.Test.YtghlhdjngihkoaaPMetricWorsex4
import Derived.Test.YtghlhdjngihkoaaPureMetricWorse
import Derived.Test.YtghlhdjngihkoaaWRds
import Derived.WalkKit
import Derived.ProofKit
import Derived.OpenShut
import Derived.ShutString
import Derived.ChangeOld
import Derived.Below
import Derived.SizedLaws
import Derived.Test.YtghlhdjngihkoaaWSized
namespace Go.Proofs.Ytghlhdjngihkoaa.metricWorse
open Go.ChangeShapes Go.WideShapes Go.ChangeAt Go.RowKit
open Go.ChangeMaps (open_string shut_string)
open Go.Proofs.YtghlhdjngihkoaaW.Rds Go.Proofs.YtghlhdjngihkoaaW.PrintWords Go.Proofs.Ytghlhdjngihkoaa.PMetricWorse
set_option linter.unusedVariables false
theorem own : ownKnob Try.prog.godebug = none := by kernel_rfl
theorem laidOut : laidOutB Try.prog = true := by kernel_rfl
set_option maxRecDepth 100000 in
set_option maxHeartbeats 4000000 in
theorem lifted (os : Os) (started : os.Started) (H : Type) (enc : TypeId × Value → H) :
    ReturnsInHanded {} Try.checked os 9 .any (Rows.metricWorseSpec.pre6 enc Try.prog Try.f9 Rows.metricWorseRow.domain false) (Rows.metricWorseSpec.post enc Try.prog Try.f9 false true false false) := by
  refine returnsInHanded_of_change_sized (C := Try.checked) own started (by kernel_rfl) Try.func9
    (ChangeSpec.witness6 (enc := enc) (C := Try.checked) false ⟨#[], #[.agg #[.int .i64 0, .int .i64 0, .int .i64 0], .agg #[.int .i64 0, .int .i64 0, .int .i64 0]], []⟩ 8 (by kernel_rfl) (by kernel_rfl) (by kernel_rfl) (by kernel_rfl)) ?_
  intro W base args ds gs before hval0 hW hcnd hsz0 _
  have hsz : (DataW.weightsEach Try.prog (Try.f9.params.toList ++ Rows.metricWorseSpec.plain.varTypes Try.prog) (ds ++ gs)).all (· ≤ reachBytes) = true := hsz0
  have hval : ∀ (j : Nat) t v, Try.f9.params[j]? = some t → args[j]? = some v → Value.okWide Try.prog W .any base t v := hval0
  have hW' := hW
  obtain ⟨p, q, hA0, hV, rfl, hfz, hnd⟩ := hW
  have hA : DataW.TrodAll enc Try.prog W 0 (fun _ => true) true Try.f9.params.toList args.toList ds p := hA0
  rw [Try.params9] at hA hval hsz
  obtain ⟨v0, vs0, d0, ds0, p0, q0, hargs, rfl, rfl, h0, r0⟩ := trodAll_cons hA
  obtain ⟨v1, vs1, d1, ds1, p1, q1, rfl, rfl, rfl, h1, r1⟩ := trodAll_cons r0
  obtain ⟨rfl, rfl, rfl⟩ := trodAll_nil r1
  obtain rfl : args = #[v0, v1] := by cases args; simp_all
  obtain ⟨rfl, rfl⟩ := trodVars_none hV
  have k0 := h0
  have lt0 : ∀ x ∈ p0, x.block < W.heap.size := by obtain ⟨m, hm⟩ := k0; exact DataW.trod_lt m _ _ _ hm
  obtain ⟨cs0, rfl, hs0⟩ := okWide_struct Try.underlying23 (hval 0 23 v0 rfl rfl)
  obtain ⟨fu0, hf0⟩ := h0
  obtain ⟨⟨a0_0, a0_1, a0_2⟩, hx0, ⟨ga0_0, ga0_1, ga0_2⟩⟩ := (Rds_pairs Try.underlying23 (by kernel_rfl) (RdsF_cons (Rds_int Try.underlying3) rfl (by kernel_rfl) (RdsF_cons (Rds_int Try.underlying3) rfl (by kernel_rfl) (RdsF_one (Rds_int Try.underlying3) rfl (by kernel_rfl))))) _ _ _ _ _ _ _ _ _ hf0
  obtain ⟨_, _, e0, rfl, ⟨_, _, rfl, rfl, rfl⟩⟩ := hx0
  obtain rfl : cs0 = #[.int .i64 a0_0, .int .i64 a0_1, .int .i64 a0_2] := arr_of e0
  have k1 := h1
  have lt1 : ∀ x ∈ p1, x.block < W.heap.size := by obtain ⟨m, hm⟩ := k1; exact DataW.trod_lt m _ _ _ hm
  obtain ⟨cs1, rfl, hs1⟩ := okWide_struct Try.underlying23 (hval 1 23 v1 rfl rfl)
  obtain ⟨fu1, hf1⟩ := h1
  obtain ⟨⟨a1_0, a1_1, a1_2⟩, hx1, ⟨ga1_0, ga1_1, ga1_2⟩⟩ := (Rds_pairs Try.underlying23 (by kernel_rfl) (RdsF_cons (Rds_int Try.underlying3) rfl (by kernel_rfl) (RdsF_cons (Rds_int Try.underlying3) rfl (by kernel_rfl) (RdsF_one (Rds_int Try.underlying3) rfl (by kernel_rfl))))) _ _ _ _ _ _ _ _ _ hf1
  obtain ⟨_, _, e1, rfl, ⟨_, _, rfl, rfl, rfl⟩⟩ := hx1
  obtain rfl : cs1 = #[.int .i64 a1_0, .int .i64 a1_1, .int .i64 a1_2] := arr_of e1
  clear hA0 hval0 hsz0 hsz
  obtain ⟨k, hp⟩ := Pure.MetricWorse a0_0 a0_1 a0_2 a1_0 a1_1 a1_2 ga0_0 ga0_1 ga0_2 ga1_0 ga1_1 ga1_2
  refine (PMetricWorse.octroilaw04_MetricWorse.calls k a0_0 a0_1 a0_2 a1_0 a1_1 a1_2 true W  ⟨rfl⟩ hp).mono fun e W' ⟨he, bel0⟩ => ?_
  have bel : Below W.heap.size W W' := bel0
  subst he
  exact ⟨_, rfl, _, _, _, [], _, [], hW', trodAll_mk1 (shut_bool Try.underlying4 _), (trodAll_cons_mk (Below.trod laidOut (by kernel_rfl) (of_decide_eq_true (by kernel_rfl)) k0 bel lt0) (trodAll_cons_mk (Below.trod laidOut (by kernel_rfl) (of_decide_eq_true (by kernel_rfl)) k1 bel lt1) trodAll_mk0)), rfl, bel.frame _, fun h => by cases h⟩
theorem over : Rows.metricWorseRow.holds Try.pinned (OpenSpec.ofChange Rows.metricWorseSpec) :=
  OpenClaim.holds_of_wide 9 Try.f9 rfl rfl rfl rfl rfl rfl rfl ⟨rfl, rfl, rfl, rfl, rfl⟩ rfl rfl rfl rfl rfl (by kernel_rfl) Try.func9 (by kernel_rfl)
    (of_decide_eq_true (by kernel_rfl)) (by unfold Func.isWrapper; first | (rw [if_pos (by decide +kernel)]; kernel_rfl) | (rw [if_neg (by decide +kernel)]; exact ⟨rfl, rfl⟩))
    (fun os started H enc _ => lifted os started H enc)
theorem proved : Rows.MetricWorseSaid := over
#print axioms proved
end Go.Proofs.Ytghlhdjngihkoaa.metricWorse
namespace Go.Proofs.Ytghlhdjngihkoaa
/-- The row, under a short name, for the claim. -/
theorem metricWorse_holds : Rows.MetricWorseSaid := metricWorse.proved
end Go.Proofs.Ytghlhdjngihkoaa
