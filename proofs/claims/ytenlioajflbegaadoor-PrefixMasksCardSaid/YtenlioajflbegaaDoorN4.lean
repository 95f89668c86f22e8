import Derived.Test.YtenlioajflbegaaDoorN3
set_option linter.unusedVariables false
namespace Go.Proofs.YtenlioajflbegaaDoorS
theorem and_mask {a n : Nat} (ha : a < 4294967296) (hn : n ≤ 32) : a &&& maskN n = a / 2 ^ (32 - n) * 2 ^ (32 - n) := by
  have hm : maskN n = (2 ^ n - 1) <<< (32 - n) := by
    rw [Nat.shiftLeft_eq, Nat.sub_mul, ← Nat.pow_add, show n + (32 - n) = 32 by omega, Nat.one_mul]
    rfl
  rw [hm, ← Nat.shiftRight_eq_div_pow, ← Nat.shiftLeft_eq]
  apply Nat.eq_of_testBit_eq
  intro i
  rw [Nat.testBit_and, Nat.testBit_shiftLeft, Nat.testBit_shiftLeft, Nat.testBit_two_pow_sub_one, Nat.testBit_shiftRight]
  by_cases h : 32 - n ≤ i
  · simp only [ge_iff_le, h, decide_true, Bool.true_and]
    rw [show 32 - n + (i - (32 - n)) = i by omega]
    by_cases h2 : i < 32
    · rw [decide_eq_true (show i - (32 - n) < n by omega), Bool.and_true]
    · have : a.testBit i = false := Nat.testBit_lt_two_pow (Nat.lt_of_lt_of_le ha (by rw [show (4294967296 : Nat) = 2 ^ 32 from rfl]; exact Nat.pow_le_pow_right (by decide) (by omega)))
      rw [this, Bool.false_and]
  · simp [h]
theorem bv_and {a b : Nat} (ha : a < 4294967296) (hb : b < 4294967296) : bitop .and .u32 (a : Int) (b : Int) = ((a &&& b : Nat) : Int) := by
  show IntKind.u32.wrap ((BitVec.ofInt 32 (a : Int) &&& BitVec.ofInt 32 (b : Int)).toNat : Int) = _
  rw [BitVec.ofInt_natCast, BitVec.ofInt_natCast, BitVec.toNat_and, BitVec.toNat_ofNat, BitVec.toNat_ofNat, Nat.mod_eq_of_lt (by omega), Nat.mod_eq_of_lt (by omega)]
  exact wrap32n (Nat.lt_of_le_of_lt Nat.and_le_left ha)
theorem bv_andNot {a n : Nat} (ha : a < 4294967296) (hn : n ≤ 32) : bitop .andNot .u32 (a : Int) (maskN n : Nat) = ((a % 2 ^ (32 - n) : Nat) : Int) := by
  show IntKind.u32.wrap ((BitVec.ofInt 32 (a : Int) &&& ~~~ BitVec.ofInt 32 ((maskN n : Nat) : Int)).toNat : Int) = _
  have hm := maskN_lt n
  have h1 : 2 ^ 32 - 1 - maskN n = 2 ^ (32 - n) - 1 := by
    have h1 : 0 < 2 ^ (32 - n) := Nat.pow_pos (by decide)
    have h2 : 2 ^ (32 - n) ≤ 2 ^ 32 := Nat.pow_le_pow_right (by decide) (by omega)
    unfold maskN
    omega
  rw [BitVec.ofInt_natCast, BitVec.ofInt_natCast, BitVec.toNat_and, BitVec.toNat_not, BitVec.toNat_ofNat, BitVec.toNat_ofNat, Nat.mod_eq_of_lt (by omega), Nat.mod_eq_of_lt (a := maskN n) (by omega), h1, Nat.and_two_pow_sub_one_eq_mod]
  exact wrap32n (Nat.lt_of_le_of_lt (Nat.mod_le ..) ha)
/-- May that be a prefix? -/
def mayB (a : Nat) (n : Int) : Bool := decide (0 ≤ n) && (decide (n ≤ 32) && decide (a % 2 ^ (32 - n.toNat) = 0))
theorem may_spec {I : Ctx} {a : Nat} {n : Int} (ha : a < 4294967296) (hn : -9223372036854775808 ≤ n ∧ n ≤ 9223372036854775807) :
    Fn Tryd.prog 16 #[.agg #[.int .u32 (a : Int), .int .i64 n]] I [] (fun v h' => v = .bool (mayB a n) ∧ h' = []) := by
  refine r_prefix_May _ _ ?_
  refine h_box fun g hg hI => ?_
  refine h_loadI (by kernel_rfl) (cell_own (j := 0) rfl rfl) ?_
  refine h_ite (fun h0 => ?_) (fun h0 => ?_)
  · have h0 : 0 ≤ n := by simp at h0; omega
    refine h_loadI (by kernel_rfl) (cell_own (j := 0) rfl rfl) ?_
    refine h_ite (fun h1 => ?_) (fun h1 => ?_)
    · have h1 : n ≤ 32 := by simp at h1; omega
      refine h_loadI (by kernel_rfl) (cell_own (j := 0) rfl rfl) ?_
      refine h_loadI (by kernel_rfl) (cell_own (j := 0) rfl rfl) ?_
      refine h_call0 (fun _ => { i := (maskOf n : Nat) }) ca_prefix_Mask (fun hl => mask_spec hn) rfl ?_
      refine h_pin (rwp_vN (rw_load1 (by kernel_rfl) (cell_own (j := 0) rfl rfl) rfl)) ?_
      refine h_end0 ⟨?_, rfl⟩
      have hmk : maskOf n = maskN n.toNat := by unfold maskOf; rw [Nat.min_eq_left (by omega)]
      dsimp only
      rw [hmk, bv_andNot ha (by omega)]
      unfold mayB
      rw [decide_eq_true h0, decide_eq_true h1, Bool.true_and, Bool.true_and]
      congr 1
      rw [Bool.eq_iff_iff]
      simp only [beq_iff_eq, decide_eq_true_eq]
      generalize a % 2 ^ (32 - n.toNat) = z
      omega
    · refine h_end0 ⟨?_, rfl⟩
      unfold mayB
      simp at h1
      rw [decide_eq_false (p := n ≤ 32) (by omega), Bool.false_and, Bool.and_false]
  · refine h_end0 ⟨?_, rfl⟩
    unfold mayB
    simp at h0
    rw [decide_eq_false (p := 0 ≤ n) (by omega), Bool.false_and]
theorem rmay_spec {I : Ctx} {a : Nat} {n : Int} (ha : a < 4294967296) (hn : -9223372036854775808 ≤ n ∧ n ≤ 9223372036854775807) :
    Fn Tryd.prog 29 #[.agg #[.int .u32 (a : Int), .int .i64 n]] I [] (fun v h' => v = .bool (mayB a n) ∧ h' = []) := by
  refine r_octroiref02_May _ _ ?_
  refine h_box fun g hg hI => ?_
  refine h_loadI (by kernel_rfl) (cell_own (j := 0) rfl rfl) ?_
  refine h_ite (fun h0 => ?_) (fun h0 => ?_)
  · have h0 : 0 ≤ n := by simp at h0; omega
    refine h_loadI (by kernel_rfl) (cell_own (j := 0) rfl rfl) ?_
    refine h_ite (fun h1 => ?_) (fun h1 => ?_)
    · have h1 : n ≤ 32 := by simp at h1; omega
      refine h_loadI (by kernel_rfl) (cell_own (j := 0) rfl rfl) ?_
      refine h_loadI (by kernel_rfl) (cell_own (j := 0) rfl rfl) ?_
      refine h_loadI (by kernel_rfl) (cell_own (j := 0) rfl rfl) ?_
      refine h_call0 (fun _ => { i := (maskOf n : Nat) }) ca_octroiref02_Mask (fun hl => rmask_spec hn) rfl ?_
      refine h_pin (rwp_vN (rw_load1 (by kernel_rfl) (cell_own (j := 0) rfl rfl) rfl)) ?_
      refine h_pin (rwp_vN (rw_load1 (by kernel_rfl) (cell_own (j := 0) rfl rfl) rfl)) ?_
      refine h_end0 ⟨?_, rfl⟩
      have hmk : maskOf n = maskN n.toNat := by unfold maskOf; rw [Nat.min_eq_left (by omega)]
      dsimp only
      rw [hmk, bv_and ha (maskN_lt _), and_mask ha (by omega)]
      unfold mayB
      rw [decide_eq_true h0, decide_eq_true h1, Bool.true_and, Bool.true_and]
      congr 1
      rw [Bool.eq_iff_iff]
      have := Nat.div_add_mod a (2 ^ (32 - n.toNat))
      rw [Nat.mul_comm] at this
      simp only [beq_iff_eq, decide_eq_true_eq]
      generalize a / 2 ^ (32 - n.toNat) * 2 ^ (32 - n.toNat) = w at this ⊢
      generalize a % 2 ^ (32 - n.toNat) = z at this ⊢
      omega
    · refine h_end0 ⟨?_, rfl⟩
      unfold mayB
      simp at h1
      rw [decide_eq_false (p := n ≤ 32) (by omega), Bool.false_and, Bool.and_false]
  · refine h_end0 ⟨?_, rfl⟩
    unfold mayB
    simp at h0
    rw [decide_eq_false (p := 0 ≤ n) (by omega), Bool.false_and]
end Go.Proofs.YtenlioajflbegaaDoorS
