import Derived.Test.YtenlioajflbegaaDoorN3
set_option linter.unusedVariables false
namespace Go.Proofs.YtenlioajflbegaaDoorS
/-- The bits that a mask has. -/
def bitsOf (m : Nat) : Option Nat := (List.range 33).find? (fun n => maskN n == m)
theorem bitsOf_some {m n : Nat} (hn : n ≤ 32) (h : maskN n = m) : bitsOf m = some n := by
  unfold bitsOf
  cases hf : (List.range 33).find? (fun n => maskN n == m) with
  | none =>
    rw [List.find?_eq_none] at hf
    have := hf n (List.mem_range.2 (by omega))
    simp [h] at this
  | some k =>
    have h1 := List.find?_some hf
    have h2 := List.mem_range.1 (List.mem_of_find?_eq_some hf)
    have h3 := maskN_inj ⟨k, h2⟩ ⟨n, by omega⟩ (by simp at h1; simp [h1, h])
    simp at h3
    rw [h3]
theorem bitsOf_none {m : Nat} (h : ∀ n, n ≤ 32 → maskN n ≠ m) : bitsOf m = none := by
  unfold bitsOf
  rw [List.find?_eq_none]
  intro n hn
  have := h n (by have := List.mem_range.1 hn; omega)
  simpa using this
theorem rbits_loop {I : Ctx} {m : Nat} : ∀ (q i : Nat) (u : Nat → Value) (h : Mem), i + q = 33 → (∀ n, n < i → maskN n ≠ m) →
    Wp Tryd.prog 26 k_octroiref02_Bits_1 (t_octroiref02_Bits_1 (m : Int) i u) I h (cl_ fun v h' => v = gotV .i64 (bitsOf m) ∧ h' = []) := by
  intro q
  induction q with
  | zero =>
    intro i u h hiq hno
    refine r_octroiref02_Bits_1 _ _ _ ?_
    refine h_no (by simp; omega) ?_
    rw [bitsOf_none (fun n hn => hno n (by omega))]
    exact h_end0 ⟨rfl, rfl⟩
  | succ q ih =>
    intro i u h hiq hno
    refine r_octroiref02_Bits_1 _ _ _ ?_
    refine h_yes (by simp; omega) ?_
    have hmk : maskOf (i : Int) = maskN i := by unfold maskOf; rw [Int.toNat_natCast, Nat.min_eq_left (by omega)]
    refine h_call0 (fun _ => { i := (maskOf (i : Int) : Nat) }) ca_octroiref02_Mask (fun hl => rmask_spec (by omega)) rfl ?_
    dsimp only
    rw [hmk]
    refine h_ite (fun h0 => ?_) (fun h0 => ?_)
    · have h0 : maskN i = m := by simp at h0; omega
      rw [bitsOf_some (by omega) h0]
      exact h_end0 ⟨rfl, rfl⟩
    · have h0 : maskN i ≠ m := by simp at h0; omega
      refine h_stop fun hl => ?_
      rw [wrapS (by omega)]
      refine ih (i + 1) _ _ (by omega) ?_
      intro n hn
      by_cases hni : n = i
      · subst hni; exact h0
      · exact hno n (by omega)
theorem rbits_spec {I : Ctx} {m : Nat} : Fn Tryd.prog 26 #[.int .u32 (m : Int)] I [] (fun v h' => v = gotV .i64 (bitsOf m) ∧ h' = []) := by
  refine r_octroiref02_Bits _ ?_
  refine h_stop fun hl => ?_
  exact rbits_loop 33 0 _ _ (by omega) (by omega)
/-- How many digits of two a number has. -/
def len2 (x : Nat) : Nat := if x = 0 then 0 else x.log2 + 1
theorem len2_shift {x : Nat} (h : 256 ≤ x) : len2 x = len2 (x / 256) + 8 := by
  have h0 : x / 256 ≠ 0 := by omega
  unfold len2
  rw [if_neg (by omega), if_neg h0]
  have h1 := Nat.log2_self_le h0
  have h2 := Nat.lt_log2_self (n := x / 256)
  have h3 : x.log2 = (x / 256).log2 + 8 := by
    rw [Nat.log2_eq_iff (by omega)]
    have e1 : 2 ^ ((x / 256).log2 + 8) = 2 ^ (x / 256).log2 * 256 := by rw [Nat.pow_add]
    have e2 : 2 ^ ((x / 256).log2 + 8 + 1) = 2 ^ ((x / 256).log2 + 1) * 256 := by rw [Nat.add_right_comm, Nat.pow_add]
    rw [e1, e2]
    omega
  omega
def tabOk (s : ByteArray) : Bool := s.size == 256 && (List.range 256).all fun i => match s[i]? with | some b => b.toNat == len2 i | none => false
theorem h_tab {P : Program} {I : Ctx} {f : FuncId} {Q : Value → Mem → Prop} {h : Mem} {k : (Nat → Leaf) → Tr} {t : TypeId} {s : ByteArray} {ik : IntKind} {i : Int} (ht : P.underlying t = some .string) (hs : tabOk s = true) (h0 : 0 ≤ i) (h1 : i < 256)
    (hk : holds P f I Q (k fun _ => { i := (len2 i.toNat : Nat) }) h) : holds P f I Q (.rd (Instr.index t (.string s) (.int ik i)) (.one (.sc (.int .u8))) k) h := by
  unfold tabOk at hs
  rw [Bool.and_eq_true, List.all_eq_true] at hs
  obtain ⟨hs1, hs2⟩ := hs
  have hsz : s.size = 256 := by simpa using hs1
  have hlt : i.toNat < s.size := by omega
  have h3 := hs2 i.toNat (List.mem_range.2 (by omega))
  rw [getElem?_pos s i.toNat hlt] at h3
  have h4 : (s[i.toNat]'hlt).toNat = len2 i.toNat := by simpa using h3
  refine h_rd (fun _ => { i := (len2 i.toNat : Nat) }) (rw_indexS ht h0 hlt ?_) hk
  rw [h4]
  rfl
set_option maxRecDepth 100000 in
theorem len_spec {I : Ctx} {x : Nat} (hx : x < 4294967296) : Fn Tryd.prog 42 #[.int .u32 (x : Int)] I [] (fun v h' => v = .int .i64 (len2 x : Nat) ∧ h' = []) := by
  have hle : ∀ y, y < 256 → len2 y ≤ 8 := by
    intro y hy
    unfold len2
    split
    · omega
    · have : y.log2 < 8 := (Nat.log2_lt (by omega)).2 hy
      omega
  have f16 : Int.fdiv (x : Int) (2 ^ 16) = ((x / 65536 : Nat) : Int) := fdiv_pow x 16
  have f8 : Int.fdiv (x : Int) (2 ^ 8) = ((x / 256 : Nat) : Int) := fdiv_pow x 8
  have f24 : Int.fdiv (((x / 65536 : Nat) : Int)) (2 ^ 8) = ((x / 65536 / 256 : Nat) : Int) := fdiv_pow (x / 65536) 8
  have w8 : ∀ y : Nat, y < 256 → IntKind.u8.wrap (y : Int) = (y : Int) := by intro y hy; rw [wrap8]; omega
  refine r_math_bits_Len32 _ ?_
  rw [f16, f8, f24]
  refine h_ite (fun h0 => ?_) (fun h0 => ?_)
  · have h0 : 65536 ≤ x := by simp at h0; omega
    have e1 : len2 x = len2 (x / 256) + 8 := len2_shift (by omega)
    have e2 : len2 (x / 256) = len2 (x / 65536) + 8 := by rw [len2_shift (x := x / 256) (by omega), Nat.div_div_eq_div_mul]
    refine h_ite (fun h1 => ?_) (fun h1 => ?_)
    · have h1 : 256 ≤ x / 65536 := by simp at h1; omega
      have e3 := len2_shift h1
      have hb : x / 65536 / 256 < 256 := by omega
      rw [w8 _ hb]
      refine h_tab rfl (by kernel_rfl) (by omega) (by omega) (h_end0 ⟨?_, rfl⟩)
      have := hle _ hb
      dsimp only
      rw [Int.toNat_natCast]
      generalize len2 (x / 65536 / 256) = z at this e3 ⊢
      rw [wrap64 (x := 16 + 8) (by omega), wrap64 (x := (z : Int)) (by omega), wrap64 (by omega)]
      congr 1
      omega
    · have h1 : x / 65536 < 256 := by simp at h1; omega
      rw [w8 _ h1]
      refine h_tab rfl (by kernel_rfl) (by omega) (by omega) (h_end0 ⟨?_, rfl⟩)
      have := hle _ h1
      dsimp only
      rw [Int.toNat_natCast]
      generalize len2 (x / 65536) = z at this e2 ⊢
      rw [wrap64 (x := (z : Int)) (by omega), wrap64 (by omega)]
      congr 1
      omega
  · have h0 : x < 65536 := by simp at h0; omega
    refine h_ite (fun h1 => ?_) (fun h1 => ?_)
    · have h1 : 256 ≤ x := by simp at h1; omega
      have e1 : len2 x = len2 (x / 256) + 8 := len2_shift h1
      have hb : x / 256 < 256 := by omega
      rw [w8 _ hb]
      refine h_tab rfl (by kernel_rfl) (by omega) (by omega) (h_end0 ⟨?_, rfl⟩)
      have := hle _ hb
      dsimp only
      rw [Int.toNat_natCast]
      generalize len2 (x / 256) = z at this e1 ⊢
      rw [wrap64 (x := 0 + 8) (by omega), wrap64 (x := (z : Int)) (by omega), wrap64 (by omega)]
      congr 1
      omega
    · have h1 : x < 256 := by simp at h1; omega
      rw [w8 _ h1]
      refine h_tab rfl (by kernel_rfl) (by omega) (by omega) (h_end0 ⟨?_, rfl⟩)
      have := hle _ h1
      dsimp only
      rw [Int.toNat_natCast]
      generalize len2 x = z at this ⊢
      rw [wrap64 (x := (z : Int)) (by omega), wrap64 (by omega)]
      congr 1
      omega
theorem len2_ones : ∀ j : Fin 33, len2 (2 ^ j.1 - 1) = j.1 := by decide +kernel
theorem len2_le {x : Nat} (hx : x < 4294967296) : len2 x ≤ 32 := by
  unfold len2
  split
  · omega
  · have : x.log2 < 32 := (Nat.log2_lt (by omega)).2 hx
    omega
theorem lead_spec {I : Ctx} {x : Nat} (hx : x < 4294967296) : Fn Tryd.prog 35 #[.int .u32 (x : Int)] I [] (fun v h' => v = .int .i64 ((32 - len2 x : Nat) : Int) ∧ h' = []) := by
  refine r_math_bits_LeadingZeros32 _ ?_
  refine h_call0 (fun _ => { i := (len2 x : Nat) }) ca_math_bits_Len32 (fun hl => len_spec hx) rfl ?_
  refine h_end0 ⟨?_, rfl⟩
  have := len2_le hx
  dsimp only
  rw [wrap64 (by omega)]
  congr 1
  omega
theorem bits_spec {I : Ctx} {m : Nat} (hm : m < 4294967296) : Fn Tryd.prog 25 #[.int .u32 (m : Int)] I [] (fun v h' => v = gotV .i64 (bitsOf m) ∧ h' = []) := by
  refine r_prefix_Bits _ ?_
  have hx : bitop .xor .u32 (IntKind.max .u32) (m : Int) = ((4294967295 - m : Nat) : Int) := by
    show IntKind.u32.wrap ((BitVec.ofInt 32 ((4294967295 : Nat) : Int) ^^^ BitVec.ofInt 32 (m : Int)).toNat : Int) = _
    have h1 : (BitVec.ofInt 32 ((4294967295 : Nat) : Int) ^^^ BitVec.ofInt 32 (m : Int)) = ~~~ BitVec.ofNat 32 m := by
      rw [BitVec.ofInt_natCast, BitVec.ofInt_natCast]
      show BitVec.allOnes 32 ^^^ BitVec.ofNat 32 m = _
      rw [BitVec.allOnes_xor]
    rw [h1, BitVec.toNat_not, BitVec.toNat_ofNat, Nat.mod_eq_of_lt (by omega)]
    rw [wrap32]
    omega
  rw [hx]
  have hl2 := len2_le (x := 4294967295 - m) (by omega)
  refine h_call0 (fun _ => { i := ((32 - len2 (4294967295 - m) : Nat) : Int) }) ca_math_bits_LeadingZeros32 (fun hl => lead_spec (by omega)) rfl ?_
  dsimp only
  have hmk : maskOf ((32 - len2 (4294967295 - m) : Nat) : Int) = maskN (32 - len2 (4294967295 - m)) := by unfold maskOf; rw [Int.toNat_natCast, Nat.min_eq_left (by omega)]
  refine h_call0 (fun _ => { i := (maskOf ((32 - len2 (4294967295 - m) : Nat) : Int) : Nat) }) ca_prefix_Mask (fun hl => mask_spec (by omega)) rfl ?_
  dsimp only
  rw [hmk]
  refine h_ite (fun h0 => ?_) (fun h0 => ?_)
  · have h0 : maskN (32 - len2 (4294967295 - m)) ≠ m := by simp at h0; omega
    rw [bitsOf_none (fun n hn he => ?_)]
    · exact h_end0 ⟨rfl, rfl⟩
    · apply h0
      have hp : 4294967295 - m = 2 ^ (32 - n) - 1 := by
        have h1 : 0 < 2 ^ (32 - n) := Nat.pow_pos (by decide)
        have h2 : 2 ^ (32 - n) ≤ 2 ^ 32 := Nat.pow_le_pow_right (by decide) (by omega)
        unfold maskN at he
        omega
      rw [hp, len2_ones ⟨32 - n, by omega⟩]
      dsimp only
      rw [show 32 - (32 - n) = n by omega]
      exact he
  · have h0 : maskN (32 - len2 (4294967295 - m)) = m := by simp at h0; omega
    rw [bitsOf_some (by omega) h0]
    exact h_end0 ⟨rfl, rfl⟩
end Go.Proofs.YtenlioajflbegaaDoorS
