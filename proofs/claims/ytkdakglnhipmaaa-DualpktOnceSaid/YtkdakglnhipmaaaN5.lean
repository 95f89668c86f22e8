import Derived.Test.YtkdakglnhipmaaaN4
import Derived.Test.YtkdakglnhipmaaaSV
set_option linter.unusedVariables false
namespace Go.Proofs.YtkdakglnhipmaaaS
/-! Sums of bytes, two by two. -/
def wt (i : Nat) : Nat := if i % 2 = 0 then 256 else 1
theorem wt_le (i : Nat) : wt i ≤ 256 := by unfold wt; split <;> omega
def psum : Nat → List UInt8 → Nat
  | _, [] => 0
  | i, b :: r => b.toNat * wt i + psum (i + 1) r
theorem psum_le : ∀ (l : List UInt8) (i : Nat), psum i l ≤ 65280 * l.length
  | [], i => Nat.zero_le _
  | b :: r, i => by
    have h1 := psum_le r (i + 1)
    have h2 := b.toNat_lt
    have h3 : b.toNat * wt i ≤ 255 * 256 := Nat.mul_le_mul (by omega) (wt_le i)
    simp only [psum, List.length_cons]
    omega
/-- All that goes over 16 bits, added again. -/
def fold16 (n : Nat) : Nat := if n = 0 then 0 else (n - 1) % 65535 + 1
theorem fold16_step {n : Nat} (h : n > 65535) : fold16 (n % 65536 + n / 65536) = fold16 n := by
  unfold fold16
  rw [if_neg (by omega), if_neg (by omega)]
  omega
theorem fold16_small {n : Nat} (h : n ≤ 65535) : fold16 n = n := by unfold fold16; split <;> omega
theorem fold16_le (n : Nat) : fold16 n ≤ 65535 := by unfold fold16; split <;> omega
def sumN (l : List UInt8) : Nat := 65535 - fold16 (psum 0 l)
theorem bv_and64 {a : Nat} (ha : a < 18446744073709551616) : bitop .and .u64 (a : Int) 65535 = ((a % 65536 : Nat) : Int) := by
  show IntKind.u64.wrap ((BitVec.ofInt 64 (a : Int) &&& BitVec.ofInt 64 65535).toNat : Int) = _
  rw [BitVec.ofInt_natCast, show BitVec.ofInt 64 65535 = BitVec.ofNat 64 65535 from rfl, BitVec.toNat_and, BitVec.toNat_ofNat, BitVec.toNat_ofNat, Nat.mod_eq_of_lt (by omega), Nat.mod_eq_of_lt (by omega), show (65535 : Nat) = 2 ^ 16 - 1 from rfl, Nat.and_two_pow_sub_one_eq_mod]
  have : a % 2 ^ 16 < 65536 := Nat.mod_lt _ (by decide)
  have h2 : IntKind.u64.wrap ((a % 2 ^ 16 : Nat) : Int) = ((a % 2 ^ 16 : Nat) : Int) % 18446744073709551616 := rfl
  rw [h2]
  omega
theorem bv_xor16 {x : Nat} (hx : x ≤ 65535) : bitop .xor .u16 (IntKind.max .u16) (x : Int) = ((65535 - x : Nat) : Int) := by
  show IntKind.u16.wrap ((BitVec.ofInt 16 (IntKind.max .u16) ^^^ BitVec.ofInt 16 (x : Int)).toNat : Int) = _
  rw [BitVec.ofInt_natCast, show BitVec.ofInt 16 (IntKind.max .u16) = BitVec.allOnes 16 from rfl, BitVec.allOnes_xor, BitVec.toNat_not, BitVec.toNat_ofNat, Nat.mod_eq_of_lt (by omega)]
  exact wrap16n (by omega)
theorem wrap64u {n : Nat} (h : n < 18446744073709551616) : IntKind.u64.wrap (n : Int) = n := by
  have : IntKind.u64.wrap (n : Int) = (n : Int) % 18446744073709551616 := rfl
  rw [this]; omega
theorem sum_again {I : Ctx} : ∀ (d n : Nat) (u : Nat → Value) (h : Mem), n ≤ d → n < 9223372036854775808 →
    Wp Try.prog 37 k_num_Sum_3 (t_num_Sum_3 (n : Int) u) I h (cl_ fun v h' => v = .int .u16 ((65535 - fold16 n : Nat) : Int) ∧ h' = []) := by
  intro d
  induction d with
  | zero =>
    intro n u h hd hn
    refine r_num_Sum_3 _ _ ?_
    refine h_no (by simp; omega) ?_
    rw [wrap16n (by omega), bv_xor16 (by omega), fold16_small (by omega)]
    exact h_end0 ⟨rfl, rfl⟩
  | succ d ih =>
    intro n u h hd hn
    refine r_num_Sum_3 _ _ ?_
    refine h_ite (fun t => ?_) (fun t => ?_)
    · have t : n > 65535 := by simp at t; omega
      rw [bv_and64 (by omega), fdiv_pow, ← Int.natCast_add, wrap64u (by omega)]
      refine h_stop fun hl => ?_
      rw [← fold16_step t]
      exact ih _ _ _ (by omega) (by omega)
    · have t : n ≤ 65535 := by simp at t; omega
      rw [wrap16n (by omega), bv_xor16 (by omega), fold16_small (by omega)]
      exact h_end0 ⟨rfl, rfl⟩
theorem sum_once {I : Ctx} (n : Nat) (u : Nat → Value) (h : Mem) (hn : n < 9223372036854775808) :
    Wp Try.prog 37 k_num_Sum_2 (t_num_Sum_2 (n : Int) u) I h (cl_ fun v h' => v = .int .u16 ((65535 - fold16 n : Nat) : Int) ∧ h' = []) := by
  refine r_num_Sum_2 _ _ ?_
  refine h_ite (fun t => ?_) (fun t => ?_)
  · have t : n > 65535 := by simp at t; omega
    rw [bv_and64 (by omega), fdiv_pow, ← Int.natCast_add, wrap64u (by omega)]
    refine h_stop fun hl => ?_
    rw [← fold16_step t]
    exact sum_again _ _ _ _ (Nat.le_refl _) (by omega)
  · have t : n ≤ 65535 := by simp at t; omega
    rw [wrap16n (by omega), bv_xor16 (by omega), fold16_small (by omega)]
    exact h_end0 ⟨rfl, rfl⟩
theorem sum_loop {I : Ctx} {A : Option Addr} {n c : Nat} {l : List UInt8} (hr : RdB I A n l) (hn : n ≤ 1000000) :
    ∀ (q i x : Nat) (u : Nat → Value) (h : Mem), i + q = n → x + psum i (l.drop i) = psum 0 l →
    Wp Try.prog 37 k_num_Sum_1 (t_num_Sum_1 A n c x i u) I h (cl_ fun v h' => v = .int .u16 (sumN l : Nat) ∧ h' = []) := by
  have hln := hr.len
  have hle := psum_le l 0
  intro q
  induction q with
  | zero =>
    intro i x u h hi hx
    refine r_num_Sum_1 _ _ _ _ _ _ ?_
    refine h_no (by simp; omega) ?_
    refine h_stop fun hl => ?_
    rw [List.drop_of_length_le (by omega)] at hx
    have hx : x = psum 0 l := by simpa [psum] using hx
    rw [hx]
    exact sum_once _ _ _ (by omega)
  | succ q ih =>
    intro i x u h hi hx
    have hd : l.drop i = l[i] :: l.drop (i + 1) := List.drop_eq_getElem_cons (by omega)
    have hb := (l[i]'(by omega)).toNat_lt
    refine r_num_Sum_1 _ _ _ _ _ _ ?_
    refine h_yes (by simp; omega) ?_
    refine h_byte (e := 5) i (b := l[i]'(by omega)) (hr.rd.sub Sub.self) (List.getElem?_eq_getElem _) hr.len rfl (by kernel_rfl) (by kernel_rfl) (by kernel_rfl) fun a1 _ => ?_
    dsimp only
    rw [hd] at hx
    simp only [psum] at hx
    have hw : l[i].toNat * wt i ≤ 255 * 256 := Nat.mul_le_mul (by omega) (wt_le i)
    have hs : IntKind.wrap .u64 (IntKind.wrap .u64 ((l[i].toNat : Nat) : Int) * 2 ^ (min (IntKind.wrap .i64 (8 * (IntKind.wrap .i64 (1 - (Int.tmod (i : Int) 2))))).toNat IntKind.u64.bits)) = ((l[i].toNat * wt i : Nat) : Int) := by
      rw [wrap64u (by omega), Int.tmod_eq_emod_of_nonneg (by omega)]
      unfold wt
      by_cases h2 : i % 2 = 0
      · rw [show (i : Int) % 2 = 0 by omega, if_pos h2]
        rw [show (2 : Int) ^ (min (IntKind.wrap .i64 (8 * (IntKind.wrap .i64 (1 - 0)))).toNat IntKind.u64.bits) = 256 from by decide]
        rw [show ((l[i].toNat : Nat) : Int) * 256 = ((l[i].toNat * 256 : Nat) : Int) by omega]
        exact wrap64u (by omega)
      · rw [show (i : Int) % 2 = 1 by omega, if_neg h2]
        rw [show (2 : Int) ^ (min (IntKind.wrap .i64 (8 * (IntKind.wrap .i64 (1 - 1)))).toNat IntKind.u64.bits) = 1 from by decide]
        rw [Int.mul_one, Nat.mul_one]
        exact wrap64u (by omega)
    have h0 : (0 : Int) ≤ IntKind.wrap .i64 (8 * (IntKind.wrap .i64 (1 - (Int.tmod (i : Int) 2)))) := by
      rw [Int.tmod_eq_emod_of_nonneg (by omega), wrap64 (x := 1 - (i : Int) % 2) (by omega), wrap64 (by omega)]
      omega
    refine h_shl h0 ?_
    rw [hs]
    refine h_stop fun hl => ?_
    rw [← Int.natCast_add, wrap64u (by omega), wrapS (by omega)]
    exact ih (i + 1) _ _ _ (by omega) (by omega)
theorem sum_spec {I : Ctx} {A : Option Addr} {n c : Nat} {l : List UInt8} (hr : RdB I A n l) (hn : n ≤ 1000000) : Fn Try.prog 37 #[.slice A n c] I [] (fun v h' => v = .int .u16 (sumN l : Nat) ∧ h' = []) := by
  refine r_num_Sum _ _ _ ?_
  refine h_stop fun hl => ?_
  exact sum_loop hr hn n 0 0 _ _ (by omega) (by simp)
theorem rsum_again {I : Ctx} : ∀ (d n : Nat) (u : Nat → Value) (h : Mem), n ≤ d → n < 4611686018427387904 →
    Wp Try.prog 24 k_octroiref01_Sum_2 (t_octroiref01_Sum_2 (n : Int) u) I h (cl_ fun v h' => v = .int .u16 ((65535 - fold16 n : Nat) : Int) ∧ h' = []) := by
  intro d
  have fin : ∀ (n : Nat) (h : Mem), n ≤ 65535 → holds Try.prog 24 I (cl_ fun v h' => v = .int .u16 ((65535 - fold16 n : Nat) : Int) ∧ h' = []) (.done (.int .u16 (IntKind.wrap .u16 (IntKind.wrap .i64 (65535 - (n : Int)))))) h := by
    intro n h hn
    rw [wrap64 (by omega), show (65535 : Int) - (n : Int) = ((65535 - n : Nat) : Int) by omega, wrap16n (by omega), fold16_small hn]
    exact h_end0 ⟨rfl, rfl⟩
  induction d with
  | zero =>
    intro n u h hd hn
    refine r_octroiref01_Sum_2 _ _ ?_
    refine h_no (by simp; omega) ?_
    exact fin _ _ (by omega)
  | succ d ih =>
    intro n u h hd hn
    refine r_octroiref01_Sum_2 _ _ ?_
    refine h_ite (fun t => ?_) (fun t => ?_)
    · have t : n > 65535 := by simp at t; omega
      rw [Int.tmod_eq_emod_of_nonneg (by omega), Int.tdiv_eq_ediv_of_nonneg (by omega), wrap64 (x := (n : Int) / 65536) (by omega), wrap64 (by omega)]
      rw [show (n : Int) % 65536 + (n : Int) / 65536 = ((n % 65536 + n / 65536 : Nat) : Int) by omega]
      refine h_stop fun hl => ?_
      rw [← fold16_step t]
      exact ih _ _ _ (by omega) (by omega)
    · exact fin _ _ (by simp at t; omega)
theorem rsum_loop {I : Ctx} {A : Option Addr} {n c : Nat} {l : List UInt8} (hr : RdB I A n l) (hn : n ≤ 1000000) :
    ∀ (d i x : Nat) (u : Nat → Value) (h : Mem), n ≤ i + d → i % 2 = 0 → i ≤ n + 1 → x + psum i (l.drop i) = psum 0 l →
    Wp Try.prog 24 k_octroiref01_Sum_1 (t_octroiref01_Sum_1 A n c x i u) I h (cl_ fun v h' => v = .int .u16 (sumN l : Nat) ∧ h' = []) := by
  have hln := hr.len
  have hle := psum_le l 0
  intro d
  induction d with
  | zero =>
    intro i x u h hd h2 hi hx
    refine r_octroiref01_Sum_1 _ _ _ _ _ _ ?_
    refine h_no (by simp; omega) ?_
    refine h_stop fun hl => ?_
    rw [List.drop_of_length_le (by omega)] at hx
    have hx : x = psum 0 l := by simpa [psum] using hx
    rw [hx]
    exact rsum_again _ _ _ _ (Nat.le_refl _) (by omega)
  | succ d ih =>
    intro i x u h hd h2 hi hx
    refine r_octroiref01_Sum_1 _ _ _ _ _ _ ?_
    refine h_ite (fun t => ?_) (fun t => ?_)
    · have t : i < n := by simp at t; omega
      have hd1 : l.drop i = l[i] :: l.drop (i + 1) := List.drop_eq_getElem_cons (by omega)
      have hb := (l[i]'(by omega)).toNat_lt
      rw [hd1] at hx
      simp only [psum] at hx
      have hw : wt i = 256 := by unfold wt; rw [if_pos h2]
      have hw1 : wt (i + 1) = 1 := by unfold wt; rw [if_neg (by omega)]
      rw [hw] at hx
      refine h_byte (e := 5) i (b := l[i]'(by omega)) (hr.rd.sub Sub.self) (List.getElem?_eq_getElem _) hr.len rfl (by kernel_rfl) (by kernel_rfl) (by kernel_rfl) fun a1 _ => ?_
      dsimp only
      simp only [wrapS (n := i) (by omega)]
      refine h_ite (fun t2 => ?_) (fun t2 => ?_)
      · have t2 : i + 1 < n := by simp at t2; omega
        have hd2 : l.drop (i + 1) = l[i + 1] :: l.drop (i + 2) := List.drop_eq_getElem_cons (by omega)
        have hb2 := (l[i + 1]'(by omega)).toNat_lt
        rw [hd2] at hx
        simp only [psum] at hx
        rw [hw1, show i + 1 + 1 = i + 2 from rfl] at hx
        refine h_byte (e := 5) (i + 1) (b := l[i + 1]'(by omega)) (hr.rd.sub Sub.self) (List.getElem?_eq_getElem _) hr.len rfl (by kernel_rfl) (by kernel_rfl) (by kernel_rfl) fun a1 _ => ?_
        dsimp only
        refine h_stop fun hl => ?_
        rw [wrap64 (x := ((l[i].toNat : Nat) : Int)) (by omega), wrap64 (x := ((l[i + 1].toNat : Nat) : Int)) (by omega), wrap64 (x := ((l[i].toNat : Nat) : Int) * 256) (by omega), wrap64 (x := (x : Int) + ((l[i].toNat : Nat) : Int) * 256) (by omega), wrap64 (by omega), wrap64 (x := (i : Int) + 2) (by omega)]
        rw [show (x : Int) + ((l[i].toNat : Nat) : Int) * 256 + ((l[i + 1].toNat : Nat) : Int) = ((x + l[i].toNat * 256 + l[i + 1].toNat : Nat) : Int) by omega, show (i : Int) + 2 = ((i + 2 : Nat) : Int) by omega]
        exact ih (i + 2) _ _ _ (by omega) (by omega) (by omega) (by omega)
      · have t2 : n ≤ i + 1 := by simp at t2; omega
        rw [List.drop_of_length_le (by omega)] at hx
        refine h_stop fun hl => ?_
        rw [wrap64 (x := ((l[i].toNat : Nat) : Int)) (by omega), wrap64 (x := ((l[i].toNat : Nat) : Int) * 256) (by omega), wrap64 (x := (x : Int) + ((l[i].toNat : Nat) : Int) * 256) (by omega), wrap64 (x := (i : Int) + 2) (by omega)]
        rw [show (x : Int) + ((l[i].toNat : Nat) : Int) * 256 = ((x + l[i].toNat * 256 : Nat) : Int) by omega, show (i : Int) + 2 = ((i + 2 : Nat) : Int) by omega]
        refine ih (i + 2) _ _ _ (by omega) (by omega) (by omega) ?_
        rw [List.drop_of_length_le (by omega)]
        have e0 : psum (i + 1) [] = 0 := rfl
        have e1 : psum (i + 2) [] = 0 := rfl
        rw [e0, Nat.add_zero] at hx
        rw [e1, Nat.add_zero]
        exact hx
    · have t : n ≤ i := by simp at t; omega
      refine h_stop fun hl => ?_
      rw [List.drop_of_length_le (by omega)] at hx
      have hx : x = psum 0 l := by simpa [psum] using hx
      rw [hx]
      exact rsum_again _ _ _ _ (Nat.le_refl _) (by omega)
theorem rsum_spec {I : Ctx} {A : Option Addr} {n c : Nat} {l : List UInt8} (hr : RdB I A n l) (hn : n ≤ 1000000) : Fn Try.prog 24 #[.slice A n c] I [] (fun v h' => v = .int .u16 (sumN l : Nat) ∧ h' = []) := by
  refine r_octroiref01_Sum _ _ _ ?_
  refine h_stop fun hl => ?_
  exact rsum_loop hr hn n 0 0 _ _ (by omega) (by omega) (by omega) (by simp)
end Go.Proofs.YtkdakglnhipmaaaS
