import Derived.Test.YtenlioajflbegaaDoorN2
set_option linter.unusedVariables false
namespace Go.Proofs.YtenlioajflbegaaDoorS
/-- The mask of a length. -/
def maskN (n : Nat) : Nat := 4294967296 - 2 ^ (32 - n)
def maskOf (n : Int) : Nat := maskN (min n.toNat 32)
theorem shl_mask : ∀ y : Fin 33, (4294967295 * 2 ^ y.1) % 4294967296 = 4294967296 - 2 ^ y.1 := by decide
theorem maskN_lt (n : Nat) : maskN n < 4294967296 := by
  unfold maskN
  have : 0 < 2 ^ (32 - n) := Nat.pow_pos (by decide)
  omega
theorem maskN_step : ∀ i : Fin 32, (maskN i.1 + 2147483648 / 2 ^ i.1) % 4294967296 = maskN (i.1 + 1) := by decide
theorem maskN_inj : ∀ a b : Fin 33, maskN a.1 = maskN b.1 → a = b := by decide +kernel
theorem mask_spec {I : Ctx} {n : Int} (hn : -9223372036854775808 ≤ n ∧ n ≤ 9223372036854775807) : Fn Tryd.prog 27 #[.int .i64 n] I [] (fun v h' => v = .int .u32 (maskOf n : Nat) ∧ h' = []) := by
  refine r_prefix_Mask _ ?_
  obtain ⟨y, hy, hy32⟩ : ∃ y : Nat, IntKind.wrap .i64 (32 - (if (if (32 : Int) < n then 32 else n : Int) > 0 then if (32 : Int) < n then 32 else n else 0)) = (y : Int) ∧ y = 32 - min n.toNat 32 := by
    refine ⟨32 - min n.toNat 32, ?_, rfl⟩
    by_cases h1 : (32 : Int) < n
    · simp only [if_pos h1]
      rw [if_pos (by omega), wrap64 (by omega)]
      omega
    · simp only [if_neg h1]
      by_cases h2 : n > 0
      · rw [if_pos h2, wrap64 (by omega)]
        omega
      · rw [if_neg h2, wrap64 (by omega)]
        omega
  rw [hy]
  refine h_shl (by omega) ?_
  refine h_end0 ⟨?_, rfl⟩
  dsimp only
  rw [Int.toNat_natCast, show min y IntKind.u32.bits = y from Nat.min_eq_left (by show y ≤ 32; omega)]
  have h3 : (4294967295 * 2 ^ y) % 4294967296 = 4294967296 - 2 ^ y := shl_mask ⟨y, by omega⟩
  have h4 : IntKind.u32.wrap (4294967295 * 2 ^ y) = ((maskOf n : Nat) : Int) := by
    rw [wrap32, show ((4294967295 : Int) * 2 ^ y) = ((4294967295 * 2 ^ y : Nat) : Int) by simp]
    rw [show (4294967296 : Int) = ((4294967296 : Nat) : Int) from rfl, ← Int.natCast_emod, h3]
    unfold maskOf maskN
    rw [hy32]
  rw [h4]
theorem rmask_loop {I : Ctx} {n : Int} (hn : -9223372036854775808 ≤ n ∧ n ≤ 9223372036854775807) :
    ∀ (q i : Nat) (u : Nat → Value) (h : Mem), i + q = min n.toNat 32 →
    Wp Tryd.prog 28 k_octroiref02_Mask_1 (t_octroiref02_Mask_1 n (maskN i : Nat) ((2147483648 / 2 ^ i : Nat) : Int) i u) I h (cl_ fun v h' => v = .int .u32 (maskOf n : Nat) ∧ h' = []) := by
  intro q
  induction q with
  | zero =>
    intro i u h hiq
    have hi : i = min n.toNat 32 := by omega
    refine r_octroiref02_Mask_1 _ _ _ _ _ ?_
    have hv : maskOf n = maskN i := by unfold maskOf; rw [hi]
    rw [hv]
    refine h_ite (fun h0 => ?_) (fun h0 => h_end0 ⟨rfl, rfl⟩)
    refine h_ite (fun h1 => ?_) (fun h1 => h_end0 ⟨rfl, rfl⟩)
    exfalso
    simp at h0 h1
    omega
  | succ q ih =>
    intro i u h hiq
    refine r_octroiref02_Mask_1 _ _ _ _ _ ?_
    refine h_yes (by simp; omega) ?_
    refine h_yes (by simp; omega) ?_
    refine h_stop fun hl => ?_
    have hs := maskN_step ⟨i, by omega⟩
    dsimp only at hs
    have h1 : IntKind.u32.wrap (((maskN i : Nat) : Int) + ((2147483648 / 2 ^ i : Nat) : Int)) = ((maskN (i + 1) : Nat) : Int) := by
      rw [← hs, wrap32, ← Int.natCast_add]
      rfl
    have h2 : IntKind.u32.wrap (Int.tdiv ((2147483648 / 2 ^ i : Nat) : Int) 2) = ((2147483648 / 2 ^ (i + 1) : Nat) : Int) := by
      have hle : 2147483648 / 2 ^ i ≤ 2147483648 := Nat.div_le_self ..
      rw [Nat.pow_succ, ← Nat.div_div_eq_div_mul]
      generalize 2147483648 / 2 ^ i = w at hle ⊢
      rw [Int.tdiv_eq_ediv_of_nonneg (by omega), wrap32]
      omega
    rw [h1, h2, wrapS (by omega)]
    exact ih (i + 1) _ _ (by omega)
theorem rmask_spec {I : Ctx} {n : Int} (hn : -9223372036854775808 ≤ n ∧ n ≤ 9223372036854775807) : Fn Tryd.prog 28 #[.int .i64 n] I [] (fun v h' => v = .int .u32 (maskOf n : Nat) ∧ h' = []) := by
  refine r_octroiref02_Mask _ ?_
  refine h_stop fun hl => ?_
  exact rmask_loop hn (min n.toNat 32) 0 _ _ (by omega)
end Go.Proofs.YtenlioajflbegaaDoorS
