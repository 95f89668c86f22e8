/-
Whole numbers as floats: of numbers from 0 to 2^40 the float is exact, so are sums of two, and they come back.
-/
import Derived.Laws.FloatArith
import Derived.Laws.ComplexArith
import Derived.Laws.Cover2
import Derived.Laws.Cover3
namespace Go.Proofs.YtghlhdjngihkoaaW.Fl
open Go Ieee

theorem two_ne (e : Nat) : 2 ^ e ≠ 0 := Nat.ne_of_gt (Nat.pow_pos (by decide))
theorem shl_eq (b p s e : Nat) (h : p + s = e) : (b * 2 ^ p) <<< s = b * 2 ^ e := by
  subst h
  rw [Nat.shiftLeft_eq, Nat.mul_assoc, ← Nat.pow_add]

theorem log2_mul (m e : Nat) (h : m ≠ 0) : (m * 2 ^ e).log2 = m.log2 + e := by
  have h1 : m * 2 ^ e ≠ 0 := Nat.mul_ne_zero h (two_ne _)
  rw [Nat.log2_eq_iff h1]
  have a := Nat.log2_self_le h
  have b := Nat.lt_log2_self (n := m)
  refine ⟨?_, ?_⟩
  · rw [Nat.pow_add]
    exact Nat.mul_le_mul_right _ a
  · rw [show m.log2 + e + 1 = (m.log2 + 1) + e by omega, Nat.pow_add]
    exact Nat.mul_lt_mul_of_pos_right b (Nat.pow_pos (by decide))

theorem cut_exact (way : Toward) (x drop : Nat) (hx : x ≠ 0) : way.cut false (x * 2 ^ drop) drop = x := by
  have hl : min drop ((x * 2 ^ drop).log2 + 2) = drop := by
    rw [log2_mul x drop hx]
    omega
  have hp : 0 < 2 ^ drop := Nat.pow_pos (by decide)
  unfold Toward.cut
  simp only [hl, Nat.one_shiftLeft, Nat.mul_mod_left, Nat.mul_div_cancel _ hp]
  cases way <;> simp

theorem cut_zero (way : Toward) (x : Nat) (hx : x ≠ 0) : way.cut false x 0 = x := by
  have := cut_exact way x 0 hx
  simpa using this

/-- The word of m, of any spelling of it. -/
def wordOf (m : Nat) : Nat := (m.log2 + 1022) * 2 ^ 52 + m * 2 ^ (52 - m.log2)

theorem kept_bounds (m : Nat) (h : m ≠ 0) (hm : m < 2 ^ 52) : 2 ^ 52 ≤ m * 2 ^ (52 - m.log2) ∧ m * 2 ^ (52 - m.log2) < 2 ^ 53 ∧ m.log2 < 52 := by
  have a := Nat.log2_self_le h
  have b := Nat.lt_log2_self (n := m)
  have c : m.log2 < 52 := (Nat.log2_lt h).2 hm
  have e : 2 ^ m.log2 * 2 ^ (52 - m.log2) = 2 ^ 52 := by rw [← Nat.pow_add]; congr 1; omega
  have e2 : 2 ^ (m.log2 + 1) * 2 ^ (52 - m.log2) = 2 ^ 53 := by rw [← Nat.pow_add]; congr 1; omega
  refine ⟨?_, ?_, c⟩
  · rw [← e]
    exact Nat.mul_le_mul_right _ a
  · rw [← e2]
    exact Nat.mul_lt_mul_of_pos_right b (Nat.pow_pos (by decide))

theorem nearest_exact (m e : Nat) (h : m ≠ 0) (hm : m < 2 ^ 52) (_he : e ≤ 1074) : double.nearest false (m * 2 ^ e) (-(e : Int)) = wordOf m := by
  have hk := kept_bounds m h hm
  have hl := log2_mul m e h
  have h0 : m * 2 ^ e ≠ 0 := Nat.mul_ne_zero h (two_ne _)
  have elp : double.leastPlace = -1074 := by decide
  have efb : double.fractionBits = 52 := rfl
  have ebn : double.binade = 2 ^ 52 := rfl
  have einf : double.infRung = 2047 * 2 ^ 52 := by decide
  unfold Format.nearest
  rw [if_neg h0]
  simp only [hl, elp, efb, ebn, einf]
  have last : max (-(e : Int) + ((m.log2 + e : Nat) : Int) - ((52 : Nat) : Int)) (-1074) = (m.log2 : Int) - 52 := by omega
  rw [last]
  have kept : Toward.even.cut false ((m * 2 ^ e) <<< (-(e : Int) - ((m.log2 : Int) - 52)).toNat) (((m.log2 : Int) - 52) - -(e : Int)).toNat = m * 2 ^ (52 - m.log2) := by
    have hne : m * 2 ^ (52 - m.log2) ≠ 0 := Nat.mul_ne_zero h (two_ne _)
    by_cases c : e + m.log2 ≤ 52
    · rw [show (-(e : Int) - ((m.log2 : Int) - 52)).toNat = 52 - m.log2 - e by omega, show (((m.log2 : Int) - 52) - -(e : Int)).toNat = 0 by omega, Nat.shiftLeft_eq, Nat.mul_assoc, ← Nat.pow_add, show e + (52 - m.log2 - e) = 52 - m.log2 by omega]
      exact cut_zero _ _ hne
    · rw [show (-(e : Int) - ((m.log2 : Int) - 52)).toNat = 0 by omega, show (((m.log2 : Int) - 52) - -(e : Int)).toNat = e + m.log2 - 52 by omega, Nat.shiftLeft_zero]
      have : m * 2 ^ e = m * 2 ^ (52 - m.log2) * 2 ^ (e + m.log2 - 52) := by rw [Nat.mul_assoc, ← Nat.pow_add]; congr 2; omega
      rw [this]
      exact cut_exact _ _ _ hne
  rw [kept]
  have e3 : ((m.log2 : Int) - 52 - -1074).toNat = m.log2 + 1022 := by omega
  rw [e3]
  unfold Format.word wordOf
  simp only [Bool.false_eq_true, if_false]
  rw [Nat.min_eq_left]
  have h1 : (m.log2 + 1022) * 2 ^ 52 ≤ 1073 * 2 ^ 52 := Nat.mul_le_mul_right _ (by omega)
  have h2 : 1073 * 2 ^ 52 + 2 ^ 53 ≤ 2047 * 2 ^ 52 := by decide
  exact Nat.le_trans (Nat.add_le_add h1 (Nat.le_of_lt hk.2.1)) h2

theorem read_word (m : Nat) (h : m ≠ 0) (hm : m < 2 ^ 52) : double.read (wordOf m) = .number false (m * 2 ^ (52 - m.log2)) ((m.log2 : Int) - 52) := by
  have hk := kept_bounds m h hm
  have elp : double.leastPlace = -1074 := by decide
  have ebn : double.binade = 4503599627370496 := rfl
  have einf : double.infRung = 9218868437227405312 := by decide
  have esg : double.signWeight = 9223372036854775808 := rfl
  have ew : wordOf m = (m.log2 + 1022) * 4503599627370496 + m * 2 ^ (52 - m.log2) := rfl
  have p52 : (2 : Nat) ^ 52 = 4503599627370496 := rfl
  have p53 : (2 : Nat) ^ 53 = 9007199254740992 := rfl
  rw [p52, p53] at hk
  unfold Format.read
  simp only [elp, ebn, einf, esg]
  generalize m * 2 ^ (52 - m.log2) = K at *
  generalize m.log2 = L at *
  rw [ew]
  have a1 : ((L + 1022) * 4503599627370496 + K) / 9223372036854775808 = 0 := by omega
  have a2 : ((L + 1022) * 4503599627370496 + K) % 9223372036854775808 = (L + 1022) * 4503599627370496 + K := by omega
  rw [a1, a2, if_neg (by omega), if_pos (by omega)]
  have a3 : 4503599627370496 + ((L + 1022) * 4503599627370496 + K) % 4503599627370496 = K := by omega
  have a4 : ((L + 1022) * 4503599627370496 + K) / 4503599627370496 - 1 = L + 1022 := by omega
  rw [a3, a4]
  have a5 : (-1074 : Int) + ((L + 1022 : Nat) : Int) = (L : Int) - 52 := by omega
  rw [a5]
  rfl

/-- The float of a whole number. -/
theorem float_of (m : Nat) (hm : m < 2 ^ 52) : floatOfInt .f64 (m : Int) = if m = 0 then 0 else wordOf m := by
  unfold floatOfInt FloatKind.nearest FloatKind.encode
  show double.nearest (decide ((m : Int) < 0)) (m : Int).natAbs 0 = _
  rw [show decide ((m : Int) < 0) = false by simp, Int.natAbs_natCast]
  by_cases h : m = 0
  · subst h
    rfl
  · rw [if_neg h]
    have := nearest_exact m 0 h hm (by omega)
    simpa using this

theorem read_zero : double.read 0 = .number false 0 (-1074) := by decide

/-- A sum of two is exact. -/
theorem add_exact (a b : Nat) (ha : a < 2 ^ 50) (hb : b < 2 ^ 50) : double.add (floatOfInt .f64 (a : Int)) (floatOfInt .f64 (b : Int)) = some (floatOfInt .f64 ((a + b : Nat) : Int)) := by
  have p52 : (2 : Nat) ^ 52 = 4 * 2 ^ 50 := rfl
  rw [float_of a (by omega), float_of b (by omega), float_of (a + b) (by omega)]
  unfold Format.add
  by_cases h1 : a = 0
  · by_cases h2 : b = 0
    · subst h1 h2
      decide +kernel
    · have hk := kept_bounds b h2 (by omega)
      rw [if_pos h1, if_neg h2, if_neg (by omega), read_zero, read_word b h2 (by omega)]
      subst h1
      unfold Datum.sum
      have hmin : min (-1074 : Int) ((b.log2 : Int) - 52) = -1074 := by omega
      simp only [hmin, signed, Bool.false_eq_true, if_false, Option.map_some, Nat.zero_shiftLeft, Nat.zero_add, Int.natCast_zero]
      obtain ⟨E, hE⟩ : ∃ E : Nat, E = 1074 := ⟨_, rfl⟩
      rw [shl_eq b (52 - b.log2) ((b.log2 : Int) - 52 - -1074).toNat E (by omega), Int.zero_add]
      have hne : b * 2 ^ E ≠ 0 := Nat.mul_ne_zero h2 (two_ne _)
      have := nearest_exact b E h2 (by omega) (by omega)
      rw [show (-1074 : Int) = -(E : Int) by omega]
      generalize b * 2 ^ E = X at *
      rw [if_neg (by omega), show decide ((X : Int) < 0) = false by simp, Int.natAbs_natCast]
      exact congrArg some this
  · by_cases h2 : b = 0
    · have hk := kept_bounds a h1 (by omega)
      rw [if_neg h1, if_pos h2, if_neg (by omega), read_zero, read_word a h1 (by omega)]
      subst h2
      unfold Datum.sum
      have hmin : min ((a.log2 : Int) - 52) (-1074 : Int) = -1074 := by omega
      simp only [hmin, signed, Bool.false_eq_true, if_false, Option.map_some, Nat.zero_shiftLeft, Nat.add_zero, Int.natCast_zero]
      obtain ⟨E, hE⟩ : ∃ E : Nat, E = 1074 := ⟨_, rfl⟩
      rw [shl_eq a (52 - a.log2) ((a.log2 : Int) - 52 - -1074).toNat E (by omega), Int.add_zero]
      have hne : a * 2 ^ E ≠ 0 := Nat.mul_ne_zero h1 (two_ne _)
      have := nearest_exact a E h1 (by omega) (by omega)
      rw [show (-1074 : Int) = -(E : Int) by omega]
      generalize a * 2 ^ E = X at *
      rw [if_neg (by omega), show decide ((X : Int) < 0) = false by simp, Int.natAbs_natCast]
      exact congrArg some this
    · have hka := kept_bounds a h1 (by omega)
      have hkb := kept_bounds b h2 (by omega)
      rw [if_neg h1, if_neg h2, if_neg (by omega), read_word a h1 (by omega), read_word b h2 (by omega)]
      unfold Datum.sum
      obtain ⟨e, he, hmin⟩ : ∃ e : Nat, e ≤ 52 ∧ min ((a.log2 : Int) - 52) ((b.log2 : Int) - 52) = -(e : Int) := ⟨52 - min a.log2 b.log2, by omega, by omega⟩
      simp only [hmin, signed, Bool.false_eq_true, if_false, Option.map_some]
      have ea : (a * 2 ^ (52 - a.log2)) <<< ((a.log2 : Int) - 52 - -(e : Int)).toNat = a * 2 ^ e := by
        rw [Nat.shiftLeft_eq, Nat.mul_assoc, ← Nat.pow_add]
        congr 2
        omega
      have eb : (b * 2 ^ (52 - b.log2)) <<< ((b.log2 : Int) - 52 - -(e : Int)).toNat = b * 2 ^ e := by
        rw [Nat.shiftLeft_eq, Nat.mul_assoc, ← Nat.pow_add]
        congr 2
        omega
      rw [ea, eb]
      have es : ((a * 2 ^ e : Nat) : Int) + ((b * 2 ^ e : Nat) : Int) = (((a + b) * 2 ^ e : Nat) : Int) := by rw [Nat.add_mul]; rfl
      rw [es]
      have hne : (a + b) * 2 ^ e ≠ 0 := Nat.mul_ne_zero (by omega) (two_ne _)
      generalize hX : (a + b) * 2 ^ e = X at *
      rw [if_neg (by omega), show decide ((X : Int) < 0) = false by simp, Int.natAbs_natCast]
      have := nearest_exact (a + b) e (by omega) (by omega) (by omega)
      rw [hX] at this
      exact congrArg some this

/-- It comes back. -/
theorem back_exact (a : Nat) (ha : a < 2 ^ 50) : floatToIntVal .f64 (floatOfInt .f64 (a : Int)) .i64 = some (a : Int) := by
  have p52 : (2 : Nat) ^ 52 = 4 * 2 ^ 50 := rfl
  have p50 : (2 : Nat) ^ 50 = 1125899906842624 := rfl
  rw [float_of a (by omega)]
  unfold floatToIntVal FloatKind.decode
  show (match Datum.toInt .zero (double.read _) with | some n => _ | none => _) = _
  by_cases h : a = 0
  · subst h
    decide +kernel
  · have hk := kept_bounds a h (by omega)
    rw [if_neg h, read_word a h (by omega)]
    have e : Datum.toInt .zero (.number false (a * 2 ^ (52 - a.log2)) ((a.log2 : Int) - 52)) = some (a : Int) := by
      unfold Datum.toInt Datum.integral
      simp only [signed, Bool.false_eq_true, if_false]
      rw [show ((a.log2 : Int) - 52).toNat = 0 by omega, show (-((a.log2 : Int) - 52)).toNat = 52 - a.log2 by omega, Nat.shiftLeft_zero, Nat.shiftLeft_zero, cut_exact _ _ _ h]
    rw [e]
    have b1 : IntKind.min .i64 = -9223372036854775808 := by decide
    have b2 : IntKind.max .i64 = 9223372036854775807 := by decide
    simp only [b1, b2]
    rw [if_pos (by omega)]

section
variable {P : Program} (w : World)
@[go_sem] theorem run_cx_add (t : TypeId) (a b c d : Int) (a0 : 0 ≤ a) (a1 : a ≤ 1000000000) (b0 : 0 ≤ b) (b1 : b ≤ 1000000000) (c0 : 0 ≤ c) (c1 : c ≤ 1000000000) (d0 : 0 ≤ d) (d1 : d ≤ 1000000000) :
    (binOp .add t (.complex .f64 (floatOfInt .f64 a) (floatOfInt .f64 b)) (.complex .f64 (floatOfInt .f64 c) (floatOfInt .f64 d))).run P w = .ok (.complex .f64 (floatOfInt .f64 (a + c)) (floatOfInt .f64 (b + d))) w := by
  have p50 : (2 : Nat) ^ 50 = 1125899906842624 := rfl
  refine run_complex_sum w .add (Or.inl rfl) t .f64 _ _ _ _ _ _ ?_
  obtain ⟨a, rfl⟩ := Int.eq_ofNat_of_zero_le a0
  obtain ⟨b, rfl⟩ := Int.eq_ofNat_of_zero_le b0
  obtain ⟨c, rfl⟩ := Int.eq_ofNat_of_zero_le c0
  obtain ⟨d, rfl⟩ := Int.eq_ofNat_of_zero_le d0
  have h1 : floatBits .add .f64 (floatOfInt .f64 (a : Int)) (floatOfInt .f64 (c : Int)) = some (floatOfInt .f64 ((a + c : Nat) : Int)) := add_exact a c (by omega) (by omega)
  have h2 : floatBits .add .f64 (floatOfInt .f64 (b : Int)) (floatOfInt .f64 (d : Int)) = some (floatOfInt .f64 ((b + d : Nat) : Int)) := add_exact b d (by omega) (by omega)
  unfold cSumBits
  rw [h1, h2]
  rfl
@[go_sem] theorem run_fl_int (src dst : TypeId) (a : Int) (hs : (P.underlying src).isSome = true) (hd : P.underlying dst = some (.int .i64)) (a0 : 0 ≤ a) (a1 : a ≤ 2000000000) :
    (convert src dst (.float .f64 (floatOfInt .f64 a))).run P w = .ok (.int .i64 a) w := by
  have p50 : (2 : Nat) ^ 50 = 1125899906842624 := rfl
  refine run_convert_float_int w src dst .f64 .i64 _ a hs hd ?_
  obtain ⟨a, rfl⟩ := Int.eq_ofNat_of_zero_le a0
  exact back_exact a (by omega)
end
end Go.Proofs.YtghlhdjngihkoaaW.Fl
