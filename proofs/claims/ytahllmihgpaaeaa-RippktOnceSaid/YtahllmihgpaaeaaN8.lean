import Derived.Test.YtahllmihgpaaeaaN7
set_option linter.unusedVariables false
namespace Go.Proofs.YtahllmihgpaaeaaS
theorem awake_spec {I : Ctx} : Fn Try.prog 10 #[] I [] (fun v h' => v = .bool true ∧ h' = []) := by
  refine r_octroilaw05_awake ?_
  refine h_call [] _ ca_rippkt_Encode (List.Perm.refl _) (fun hl => encode_spec (c := 1) (w := true) (es := []) ⟨[], RdC.nil _, rfl⟩) ?_
  rintro v h1 ⟨A, c, rfl, ho⟩
  have hr : encR 1 true [] = ([1, 2, 0, 0] ++ wholeB, 0) := rfl
  rw [hr] at ho ⊢
  have hl : ([1, 2, 0, 0] ++ wholeB : List UInt8).length = 24 := by simp [wholeB]
  refine ⟨getL [{ A := A, n := 24, c := c }, { i := 0 }], by rw [hl]; rfl, ?_⟩
  dsimp only [getL]
  dsimp only at ho
  rw [hl] at ho
  obtain ⟨a, rfl⟩ : ∃ a, A = some a := by
    cases A with
    | none => have := ho.some_of rfl; omega
    | some a => exact ⟨a, rfl⟩
  have hcl : Cells I (h1 ++ []) a (bC ([1, 2, 0, 0] ++ wholeB)) := ho.cells (hr := []) (List.Perm.refl _)
  refine h_yes rfl ?_
  refine h_yes rfl ?_
  refine h_index a rfl (sz := 1) (by kernel_rfl) (by omega) (by omega) rfl ?_
  refine h_loadI (by kernel_rfl) (hcl 0 (.int .u8 1) rfl) ?_
  refine h_yes rfl ?_
  refine h_index a rfl (sz := 1) (by kernel_rfl) (by omega) (by omega) rfl ?_
  refine h_loadI (by kernel_rfl) (hcl 1 (.int .u8 2) rfl) ?_
  refine h_yes rfl ?_
  refine h_index a rfl (sz := 1) (by kernel_rfl) (by omega) (by omega) rfl ?_
  refine h_loadI (by kernel_rfl) (hcl 23 (.int .u8 16) rfl) ?_
  exact h_end0 ⟨rfl, rfl⟩
end Go.Proofs.YtahllmihgpaaeaaS
