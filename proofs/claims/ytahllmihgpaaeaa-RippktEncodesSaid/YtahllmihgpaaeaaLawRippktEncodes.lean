-- written by this session's own program, over the kit's print
import Derived.Test.YtahllmihgpaaeaaRows
import Derived.Test.YtahllmihgpaaeaaPRippktEncodesx6
import Derived.Test.YtahllmihgpaaeaaPureRippktEncodes
import Derived.Test.YtahllmihgpaaeaaWRds
import Derived.WalkKit
import Derived.ProofKit
import Derived.OpenShut
import Derived.ShutString
import Derived.ChangeOld
import Derived.Below
import Derived.SizedLaws
import Derived.Test.YtahllmihgpaaeaaWSized
namespace Go.Proofs.Ytahllmihgpaaeaa.rippktEncodes
open Go.ChangeShapes Go.WideShapes Go.ChangeAt Go.RowKit
open Go.ChangeMaps (open_string shut_string)
open Go.Proofs.YtahllmihgpaaeaaW.Rds Go.Proofs.YtahllmihgpaaeaaW.PrintWords Go.Proofs.Ytahllmihgpaaeaa.PRippktEncodes
set_option linter.unusedVariables false
theorem own : ownKnob Try.prog.godebug = none := by kernel_rfl
theorem laidOut : laidOutB Try.prog = true := by kernel_rfl
theorem rds38 : Rds Try.prog k38 38 g38 := Rds.mono (Rds_iso (fun x : S38 => (x.f0, x.f1)) (fun y_ => (⟨y_.1, y_.2⟩ : S38)) (fun _ => rfl) (Rds_pairs Try.underlying38 (by kernel_rfl) (RdsF_cons (Rds_int Try.underlying36) rfl (by kernel_rfl) (RdsF_one (Rds_int Try.underlying3) rfl (by kernel_rfl))))) (fun _ h_ => h_)
theorem rds41 : Rds Try.prog k41 41 g41 := Rds.mono (Rds_iso (fun x : S41 => (x.f0, x.f1, x.f2, x.f3)) (fun y_ => (⟨y_.1, y_.2.1, y_.2.2.1, y_.2.2.2⟩ : S41)) (fun _ => rfl) (Rds_pairs Try.underlying41 (by kernel_rfl) (RdsF_cons rds38 rfl (by kernel_rfl) (RdsF_cons (Rds_int Try.underlying39) rfl (by kernel_rfl) (RdsF_cons (Rds_int Try.underlying36) rfl (by kernel_rfl) (RdsF_one (Rds_int Try.underlying3) rfl (by kernel_rfl))))))) (fun _ h_ => h_)
set_option maxRecDepth 100000 in
set_option maxHeartbeats 4000000 in
theorem lifted (os : Os) (started : os.Started) (H : Type) (enc : TypeId × Value → H) :
    ReturnsInHanded {} Try.checked os 3 .any (Rows.rippktEncodesSpec.pre6 enc Try.prog Try.f3 Rows.rippktEncodesRow.domain false) (Rows.rippktEncodesSpec.post enc Try.prog Try.f3 false true false false) := by
  refine returnsInHanded_of_change_sized (C := Try.checked) own started (by kernel_rfl) Try.func3
    (ChangeSpec.witness6 (enc := enc) (C := Try.checked) false ⟨#[], #[.agg #[.int .i64 0, .bool false, .slice none 0 0]], []⟩ 8 (by kernel_rfl) (by kernel_rfl) (by kernel_rfl) (by kernel_rfl)) ?_
  intro W base args ds gs before hval0 hW hcnd hsz0 _
  have hsz : (DataW.weightsEach Try.prog (Try.f3.params.toList ++ Rows.rippktEncodesSpec.plain.varTypes Try.prog) (ds ++ gs)).all (· ≤ reachBytes) = true := hsz0
  have hval : ∀ (j : Nat) t v, Try.f3.params[j]? = some t → args[j]? = some v → Value.okWide Try.prog W .any base t v := hval0
  have hW' := hW
  obtain ⟨p, q, hA0, hV, rfl, hfz, hnd⟩ := hW
  have hA : DataW.TrodAll enc Try.prog W 0 (fun _ => true) true Try.f3.params.toList args.toList ds p := hA0
  rw [Try.params3] at hA hval hsz
  obtain ⟨v0, vs0, d0, ds0, p0, q0, hargs, rfl, rfl, h0, r0⟩ := trodAll_cons hA
  obtain ⟨rfl, rfl, rfl⟩ := trodAll_nil r0
  obtain rfl : args = #[v0] := by cases args; simp_all
  obtain ⟨rfl, rfl⟩ := trodVars_none hV
  have k0 := h0
  have lt0 : ∀ x ∈ p0, x.block < W.heap.size := by obtain ⟨m, hm⟩ := k0; exact DataW.trod_lt m _ _ _ hm
  obtain ⟨cs0, rfl, hs0⟩ := okWide_struct Try.underlying24 (hval 0 24 v0 rfl rfl)
  obtain ⟨fu0, hf0⟩ := h0
  obtain ⟨⟨a0_0, a0_1, l0_2⟩, hx0, ⟨ga0_0, ga0_1, ⟨gl0_2, gg0_2⟩⟩⟩ := (Rds_pairs Try.underlying24 (by kernel_rfl) (RdsF_cons (Rds_int Try.underlying3) rfl (by kernel_rfl) (RdsF_cons (Rds_bool Try.underlying4) rfl (by kernel_rfl) (RdsF_one (Rds_slice Try.underlying22 (by kernel_rfl) rds41) rfl (by kernel_rfl))))) _ _ _ _ _ _ _ _ _ hf0
  obtain ⟨_, _, e0, rfl, ⟨_, _, rfl, rfl, ⟨A0_2, c0_2, rfl, hc0_2, hr0_2⟩⟩⟩ := hx0
  obtain rfl : cs0 = #[.int .i64 a0_0, .bool a0_1, .slice A0_2 l0_2.length c0_2] := arr_of e0
  clear hA0 hval0 hsz0 hsz
  obtain ⟨k, hp⟩ := Pure.RippktEncodes a0_0 a0_1 l0_2 ga0_0 gl0_2 gg0_2
  refine (PRippktEncodes.octroilaw05_RippktEncodes.calls k a0_0 a0_1 _ _ l0_2 true W hr0_2 hc0_2 ⟨rfl⟩ hp).mono fun e W' ⟨he, bel0⟩ => ?_
  have bel : Below W.heap.size W W' := bel0
  subst he
  exact ⟨_, rfl, _, _, _, [], _, [], hW', trodAll_mk1 (shut_bool Try.underlying4 _), (trodAll_cons_mk (Below.trod laidOut (by kernel_rfl) (of_decide_eq_true (by kernel_rfl)) k0 bel lt0) trodAll_mk0), rfl, bel.frame _, fun h => by cases h⟩
theorem over : Rows.rippktEncodesRow.holds Try.pinned (OpenSpec.ofChange Rows.rippktEncodesSpec) :=
  OpenClaim.holds_of_wide 3 Try.f3 rfl rfl rfl rfl rfl rfl rfl ⟨rfl, rfl, rfl, rfl, rfl⟩ rfl rfl rfl rfl rfl (by kernel_rfl) Try.func3 (by kernel_rfl)
    (of_decide_eq_true (by kernel_rfl)) (by unfold Func.isWrapper; first | (rw [if_pos (by decide +kernel)]; kernel_rfl) | (rw [if_neg (by decide +kernel)]; exact ⟨rfl, rfl⟩))
    (fun os started H enc _ => lifted os started H enc)
theorem proved : Rows.RippktEncodesSaid := over
#print axioms proved
end Go.Proofs.Ytahllmihgpaaeaa.rippktEncodes
namespace Go.Proofs.Ytahllmihgpaaeaa
/-- The row, under a short name, for the claim. -/
theorem rippktEncodes_holds : Rows.RippktEncodesSaid := rippktEncodes.proved
end Go.Proofs.Ytahllmihgpaaeaa
