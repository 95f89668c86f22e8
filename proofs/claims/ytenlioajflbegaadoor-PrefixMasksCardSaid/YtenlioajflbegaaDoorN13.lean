import Derived.Test.YtenlioajflbegaaDoorN12
import Derived.Test.YtenlioajflbegaaDoorTA
set_option linter.unusedVariables false
set_option maxRecDepth 20000
namespace Go.Proofs.YtenlioajflbegaaDoorS
theorem bv_or {a b : Nat} (ha : a < 4294967296) (hb : b < 4294967296) : bitop .or .u32 (a : Int) (b : Int) = ((a ||| b : Nat) : Int) := by
  have hlt : a ||| b < 4294967296 := Nat.or_lt_two_pow (n := 32) ha hb
  show IntKind.u32.wrap ((BitVec.ofInt 32 (a : Int) ||| BitVec.ofInt 32 (b : Int)).toNat : Int) = _
  rw [BitVec.ofInt_natCast, BitVec.ofInt_natCast, BitVec.toNat_or, BitVec.toNat_ofNat, BitVec.toNat_ofNat, Nat.mod_eq_of_lt (by omega), Nat.mod_eq_of_lt (by omega)]
  exact wrap32n hlt
/-- A prefix's two halves. -/
structure Half (a p d q : Nat) : Prop where
  pd : d = 2 ^ (31 - p)
  pos : 0 < d
  s1 : sh ((p + 1 : Nat) : Int) = 31 - p
  s0 : 2 ^ sh (p : Int) = 2 * d
  eq : a = 2 * d * q
  lt : a + d < 4294967296
  or : a ||| d = a + d
  dlt : d < 4294967296
theorem half_of {a p : Nat} (ha : a < 4294967296) (hp : p ≤ 31) (hm : mayB a p = true) : ∃ d q, Half a p d q := by
  have hmod := (may_mod hm).2.2
  have e1 : sh (p : Int) = 31 - p + 1 := by unfold sh; omega
  have hpos : 0 < 2 ^ (31 - p) := Nat.pow_pos (by decide)
  have h2 : 2 ^ sh (p : Int) = 2 * 2 ^ (31 - p) := by rw [e1, Nat.pow_succ, Nat.mul_comm]
  have hq := Nat.div_add_mod a (2 ^ sh (p : Int))
  rw [hmod, Nat.add_zero, h2] at hq
  have hall : 2 * 2 ^ (31 - p) * 2 ^ p = 4294967296 := by rw [Nat.mul_assoc, ← Nat.pow_add, show 31 - p + p = 31 by omega]
  generalize hqq : a / (2 * 2 ^ (31 - p)) = q at hq
  have hqlt : q < 2 ^ p := by
    rcases Nat.lt_or_ge q (2 ^ p) with h | h
    · exact h
    · have := Nat.mul_le_mul_left (2 * 2 ^ (31 - p)) h
      omega
  have hle := Nat.mul_le_mul_left (2 * 2 ^ (31 - p)) (show q + 1 ≤ 2 ^ p from hqlt)
  rw [Nat.mul_add, Nat.mul_one] at hle
  refine ⟨2 ^ (31 - p), q, rfl, hpos, by unfold sh; omega, h2, hq.symm, by omega, ?_, by omega⟩
  have := Nat.two_pow_add_eq_or_of_lt (i := 31 - p + 1) (b := 2 ^ (31 - p)) (by rw [Nat.pow_succ]; omega) q
  rw [Nat.pow_succ, Nat.mul_comm (2 ^ (31 - p)) 2, hq] at this
  exact this.symm
section
variable {a p d q x : Nat}
theorem Half.da (H : Half a p d q) : a / d = 2 * q ∧ a % d = 0 ∧ (a + d) / d = 2 * q + 1 ∧ (a + d) % d = 0 := by
  have e : a = d * (2 * q) := by rw [H.eq, Nat.mul_comm 2 d, Nat.mul_assoc]
  have h1 : a / d = 2 * q := by rw [e]; exact Nat.mul_div_cancel_left _ H.pos
  have h2 : a % d = 0 := by rw [e]; exact Nat.mul_mod_right _ _
  exact ⟨h1, h2, by rw [Nat.add_div_right _ H.pos, h1], by rw [Nat.add_mod_right, h2]⟩
theorem Half.may1 (H : Half a p d q) (hp : p ≤ 31) : mayB a ((p + 1 : Nat) : Int) = true ∧ mayB (a + d) ((p + 1 : Nat) : Int) = true := by
  obtain ⟨h1, h2, h3, h4⟩ := H.da
  have h5 : 2 ^ (32 - ((p + 1 : Nat) : Int).toNat) = d := by have := H.s1; unfold sh at this; rw [this, H.pd]
  unfold mayB
  rw [h5]
  simp only [Bool.and_eq_true, decide_eq_true_eq]
  exact ⟨⟨by omega, by omega, h2⟩, ⟨by omega, by omega, h4⟩⟩
theorem Half.make (H : Half a p d q) (hp : p ≤ 31) : makeP a ((p + 1 : Nat) : Int) = some (a, ((p + 1 : Nat) : Int)) ∧ makeP (a + d) ((p + 1 : Nat) : Int) = some (a + d, ((p + 1 : Nat) : Int)) := by
  obtain ⟨h1, h2, h3, h4⟩ := H.da
  unfold makeP
  rw [if_neg (by omega), if_neg (by omega), if_neg (by omega), if_neg (by omega), H.s1, ← H.pd]
  have h5 := Nat.div_add_mod a d
  have h6 := Nat.div_add_mod (a + d) d
  rw [h2, Nat.add_zero, Nat.mul_comm] at h5
  rw [h4, Nat.add_zero, Nat.mul_comm] at h6
  rw [h5, h6]
  exact ⟨rfl, rfl⟩
theorem Half.cov (H : Half a p d q) (hp : p ≤ 31) (hm : mayB a p = true) : coversB a ((p + 1 : Nat) : Int) (a + d) ((p + 1 : Nat) : Int) = false ∧ coversB (a + d) ((p + 1 : Nat) : Int) a ((p + 1 : Nat) : Int) = false ∧
    coversB a p a ((p + 1 : Nat) : Int) = true ∧ coversB a p (a + d) ((p + 1 : Nat) : Int) = true := by
  obtain ⟨h1, h2, h3, h4⟩ := H.da
  obtain ⟨m1, m2⟩ := H.may1 hp
  refine ⟨?_, ?_, ?_, ?_⟩
  · rw [Bool.eq_false_iff]; intro h; rw [cov_out, H.s1, ← H.pd, h1, h3] at h; omega
  · rw [Bool.eq_false_iff]; intro h; rw [cov_out, H.s1, ← H.pd, h1, h3] at h; omega
  · rw [cov_out]; exact ⟨m1, by omega, hm, rfl⟩
  · rw [cov_out]; refine ⟨m2, by omega, hm, ?_⟩
    rw [H.s0, Nat.mul_comm 2 d, ← Nat.div_div_eq_div_mul, ← Nat.div_div_eq_div_mul, h1, h3]
    omega
theorem Half.has (H : Half a p d q) (hp : p ≤ 31) (hm : mayB a p = true) : hasB a p x = (hasB a ((p + 1 : Nat) : Int) x || hasB (a + d) ((p + 1 : Nat) : Int) x) ∧ ¬ (hasB a ((p + 1 : Nat) : Int) x = true ∧ hasB (a + d) ((p + 1 : Nat) : Int) x = true) := by
  obtain ⟨h1, h2, h3, h4⟩ := H.da
  obtain ⟨m1, m2⟩ := H.may1 hp
  constructor
  · rw [Bool.eq_iff_iff, Bool.or_eq_true, has_out, has_out, has_out, H.s1, ← H.pd, h1, h3, H.s0, Nat.mul_comm 2 d, ← Nat.div_div_eq_div_mul, ← Nat.div_div_eq_div_mul, h1]
    constructor
    · rintro ⟨_, h⟩
      have : x / d = 2 * q ∨ x / d = 2 * q + 1 := by omega
      rcases this with h | h
      · exact .inl ⟨m1, h⟩
      · exact .inr ⟨m2, h⟩
    · rintro (⟨_, h⟩ | ⟨_, h⟩)
      · exact ⟨hm, by rw [h]⟩
      · exact ⟨hm, by rw [h]; omega⟩
  · rw [has_out, has_out, H.s1, ← H.pd, h1, h3]
    omega
end
set_option maxHeartbeats 4000000 in
theorem law_PrefixHalves {I : Ctx} (hg : Glob I) {a x : Nat} {n : Int} (ha : a < 4294967296) (hn : R64 n) (hx : x < 4294967296) :
    Fn Tryd.prog 6 #[.agg #[.int .u32 (a : Int), .int .i64 n], .int .u32 (x : Int)] I [] (fun v h' => v = .bool true ∧ h' = []) := by
  refine r_octroilaw02_PrefixHalves _ _ _ ?_
  (repeat ((first | refine h_box fun _ _ _ => ?_ | ((with_reducible show holds _ _ _ _ (.sem (Instr.alloc 24 _ _) _ _) _); refine h_alloc zb_Prefix fun _ _ _ => ?_) | ((with_reducible show holds _ _ _ _ (.rd (Instr.loadAt _ (.pointer _)) _ _) _); first | refine ldI (by repeat (first | exact mq0 | apply mq1 | apply mq2)) (by rfl) (by kernel_rfl) ?_ | refine la0 (by repeat (first | exact mq0 | apply mq1 | apply mq2)) (by rfl) (by kernel_rfl) ?_) | ((with_reducible show holds _ _ _ _ (.unit (Instr.storeAt _ _ _) _) _); refine stU (by repeat (first | exact Upd.here | apply Upd.there | apply Upd.right)) (by kernel_rfl) (by rfl) (by simp [Value.cells]) ?_)); try dsimp only [getL]))
  refine h_call0 (fun _ => { b := true }) ca_octroilaw02_awake (fun hl => awake_spec (hg.plus hl)) rfl ?_
  dsimp only
  refine h_no rfl ?_
  (repeat ((first | refine h_box fun _ _ _ => ?_ | ((with_reducible show holds _ _ _ _ (.sem (Instr.alloc 24 _ _) _ _) _); refine h_alloc zb_Prefix fun _ _ _ => ?_) | ((with_reducible show holds _ _ _ _ (.rd (Instr.loadAt _ (.pointer _)) _ _) _); first | refine ldI (by repeat (first | exact mq0 | apply mq1 | apply mq2)) (by rfl) (by kernel_rfl) ?_ | refine la0 (by repeat (first | exact mq0 | apply mq1 | apply mq2)) (by rfl) (by kernel_rfl) ?_) | ((with_reducible show holds _ _ _ _ (.unit (Instr.storeAt _ _ _) _) _); refine stU (by repeat (first | exact Upd.here | apply Upd.there | apply Upd.right)) (by kernel_rfl) (by rfl) (by simp [Value.cells]) ?_)); try dsimp only [getL]))
  refine h_call0 (fun _ => { b := mayB a n }) ca_prefix_May (fun hl => may_spec ha hn) rfl ?_
  dsimp only
  refine h_nite (fun t0 => h_end0 ⟨rfl, rfl⟩) (fun hm => ?_)
  (repeat ((first | refine h_box fun _ _ _ => ?_ | ((with_reducible show holds _ _ _ _ (.sem (Instr.alloc 24 _ _) _ _) _); refine h_alloc zb_Prefix fun _ _ _ => ?_) | ((with_reducible show holds _ _ _ _ (.rd (Instr.loadAt _ (.pointer _)) _ _) _); first | refine ldI (by repeat (first | exact mq0 | apply mq1 | apply mq2)) (by rfl) (by kernel_rfl) ?_ | refine la0 (by repeat (first | exact mq0 | apply mq1 | apply mq2)) (by rfl) (by kernel_rfl) ?_) | ((with_reducible show holds _ _ _ _ (.unit (Instr.storeAt _ _ _) _) _); refine stU (by repeat (first | exact Upd.here | apply Upd.there | apply Upd.right)) (by kernel_rfl) (by rfl) (by simp [Value.cells]) ?_)); try dsimp only [getL]))
  refine h_ite (fun t1 => h_end0 ⟨rfl, rfl⟩) (fun t1 => ?_)
  have h32 : n ≠ 32 := by simpa using t1
  obtain ⟨b0, b1⟩ := may_out hm
  obtain ⟨p, rfl⟩ := Int.eq_ofNat_of_zero_le b0
  have hp : p ≤ 31 := by omega
  obtain ⟨d, q, H⟩ := half_of ha hp hm
  obtain ⟨k1, k2⟩ := H.make hp
  obtain ⟨c1, c2, c3, c4⟩ := H.cov hp hm
  obtain ⟨g1, g2⟩ := H.has (x := x) hp hm
  have hA : a + d < 4294967296 := H.lt
  have hw1 : IntKind.wrap .i64 ((p : Int) + 1) = ((p + 1 : Nat) : Int) := by rw [wrap64 (by omega)]; omega
  have hn1 : R64 ((p + 1 : Nat) : Int) := by unfold R64; omega
  (repeat ((first | refine h_box fun _ _ _ => ?_ | ((with_reducible show holds _ _ _ _ (.sem (Instr.alloc 24 _ _) _ _) _); refine h_alloc zb_Prefix fun _ _ _ => ?_) | ((with_reducible show holds _ _ _ _ (.rd (Instr.loadAt _ (.pointer _)) _ _) _); first | refine ldI (by repeat (first | exact mq0 | apply mq1 | apply mq2)) (by rfl) (by kernel_rfl) ?_ | refine la0 (by repeat (first | exact mq0 | apply mq1 | apply mq2)) (by rfl) (by kernel_rfl) ?_) | ((with_reducible show holds _ _ _ _ (.unit (Instr.storeAt _ _ _) _) _); refine stU (by repeat (first | exact Upd.here | apply Upd.there | apply Upd.right)) (by kernel_rfl) (by rfl) (by simp [Value.cells]) ?_)); try dsimp only [getL]))
  simp only [hw1]
  refine h_call0 (getL [{ i := (a : Nat) }, { i := ((p + 1 : Nat) : Int) }, { i := 0 }]) ca_prefix_Make (fun hl => make_spec ha hn1) (by rw [k1]; rfl) ?_
  dsimp only [getL]
  (repeat ((first | refine h_box fun _ _ _ => ?_ | ((with_reducible show holds _ _ _ _ (.sem (Instr.alloc 24 _ _) _ _) _); refine h_alloc zb_Prefix fun _ _ _ => ?_) | ((with_reducible show holds _ _ _ _ (.rd (Instr.loadAt _ (.pointer _)) _ _) _); first | refine ldI (by repeat (first | exact mq0 | apply mq1 | apply mq2)) (by rfl) (by kernel_rfl) ?_ | refine la0 (by repeat (first | exact mq0 | apply mq1 | apply mq2)) (by rfl) (by kernel_rfl) ?_) | ((with_reducible show holds _ _ _ _ (.unit (Instr.storeAt _ _ _) _) _); refine stU (by repeat (first | exact Upd.here | apply Upd.there | apply Upd.right)) (by kernel_rfl) (by rfl) (by simp [Value.cells]) ?_)); try dsimp only [getL]))
  have hw2 : IntKind.wrap .u64 (IntKind.wrap .i64 (31 - (p : Int))) = ((31 - p : Nat) : Int) := by
    rw [wrap64 (x := 31 - (p : Int)) (by omega)]
    show (31 - (p : Int)) % 18446744073709551616 = _
    omega
  rw [hw2]
  refine h_shl (by omega) ?_
  dsimp only
  have hb : IntKind.bits .u32 = 32 := rfl
  have hw3 : IntKind.wrap .u32 (1 * 2 ^ (min (Int.toNat ((31 - p : Nat) : Int)) (IntKind.bits .u32))) = (d : Int) := by
    rw [hb, Int.toNat_natCast, Nat.min_eq_left (by omega), Int.one_mul, H.pd]
    have := H.dlt
    rw [H.pd] at this
    rw [show ((2 : Int) ^ (31 - p)) = ((2 ^ (31 - p) : Nat) : Int) by push_cast; rfl]
    exact wrap32n this
  rw [hw3]
  (repeat ((first | refine h_box fun _ _ _ => ?_ | ((with_reducible show holds _ _ _ _ (.sem (Instr.alloc 24 _ _) _ _) _); refine h_alloc zb_Prefix fun _ _ _ => ?_) | ((with_reducible show holds _ _ _ _ (.rd (Instr.loadAt _ (.pointer _)) _ _) _); first | refine ldI (by repeat (first | exact mq0 | apply mq1 | apply mq2)) (by rfl) (by kernel_rfl) ?_ | refine la0 (by repeat (first | exact mq0 | apply mq1 | apply mq2)) (by rfl) (by kernel_rfl) ?_) | ((with_reducible show holds _ _ _ _ (.unit (Instr.storeAt _ _ _) _) _); refine stU (by repeat (first | exact Upd.here | apply Upd.there | apply Upd.right)) (by kernel_rfl) (by rfl) (by simp [Value.cells]) ?_)); try dsimp only [getL]))
  rw [bv_or ha H.dlt, H.or]
  simp only [hw1]
  refine h_call0 (getL [{ i := (a + d : Nat) }, { i := ((p + 1 : Nat) : Int) }, { i := 0 }]) ca_prefix_Make (fun hl => make_spec hA hn1) (by rw [k2]; rfl) ?_
  dsimp only [getL]
  (repeat ((first | refine h_box fun _ _ _ => ?_ | ((with_reducible show holds _ _ _ _ (.sem (Instr.alloc 24 _ _) _ _) _); refine h_alloc zb_Prefix fun _ _ _ => ?_) | ((with_reducible show holds _ _ _ _ (.rd (Instr.loadAt _ (.pointer _)) _ _) _); first | refine ldI (by repeat (first | exact mq0 | apply mq1 | apply mq2)) (by rfl) (by kernel_rfl) ?_ | refine la0 (by repeat (first | exact mq0 | apply mq1 | apply mq2)) (by rfl) (by kernel_rfl) ?_) | ((with_reducible show holds _ _ _ _ (.unit (Instr.storeAt _ _ _) _) _); refine stU (by repeat (first | exact Upd.here | apply Upd.there | apply Upd.right)) (by kernel_rfl) (by rfl) (by simp [Value.cells]) ?_)); try dsimp only [getL]))
  refine h_no rfl ?_
  refine h_no rfl ?_
  (repeat ((first | refine h_box fun _ _ _ => ?_ | ((with_reducible show holds _ _ _ _ (.sem (Instr.alloc 24 _ _) _ _) _); refine h_alloc zb_Prefix fun _ _ _ => ?_) | ((with_reducible show holds _ _ _ _ (.rd (Instr.loadAt _ (.pointer _)) _ _) _); first | refine ldI (by repeat (first | exact mq0 | apply mq1 | apply mq2)) (by rfl) (by kernel_rfl) ?_ | refine la0 (by repeat (first | exact mq0 | apply mq1 | apply mq2)) (by rfl) (by kernel_rfl) ?_) | ((with_reducible show holds _ _ _ _ (.unit (Instr.storeAt _ _ _) _) _); refine stU (by repeat (first | exact Upd.here | apply Upd.there | apply Upd.right)) (by kernel_rfl) (by rfl) (by simp [Value.cells]) ?_)); try dsimp only [getL]))
  refine h_call0 (fun _ => { b := false }) ca_prefix_Covers (fun hl => covers_spec ha hn1 hA hn1) (by rw [c1]; rfl) ?_
  dsimp only
  refine h_no rfl ?_
  (repeat ((first | refine h_box fun _ _ _ => ?_ | ((with_reducible show holds _ _ _ _ (.sem (Instr.alloc 24 _ _) _ _) _); refine h_alloc zb_Prefix fun _ _ _ => ?_) | ((with_reducible show holds _ _ _ _ (.rd (Instr.loadAt _ (.pointer _)) _ _) _); first | refine ldI (by repeat (first | exact mq0 | apply mq1 | apply mq2)) (by rfl) (by kernel_rfl) ?_ | refine la0 (by repeat (first | exact mq0 | apply mq1 | apply mq2)) (by rfl) (by kernel_rfl) ?_) | ((with_reducible show holds _ _ _ _ (.unit (Instr.storeAt _ _ _) _) _); refine stU (by repeat (first | exact Upd.here | apply Upd.there | apply Upd.right)) (by kernel_rfl) (by rfl) (by simp [Value.cells]) ?_)); try dsimp only [getL]))
  refine h_call0 (fun _ => { b := false }) ca_prefix_Covers (fun hl => covers_spec hA hn1 ha hn1) (by rw [c2]; rfl) ?_
  dsimp only
  refine h_no rfl ?_
  (repeat ((first | refine h_box fun _ _ _ => ?_ | ((with_reducible show holds _ _ _ _ (.sem (Instr.alloc 24 _ _) _ _) _); refine h_alloc zb_Prefix fun _ _ _ => ?_) | ((with_reducible show holds _ _ _ _ (.rd (Instr.loadAt _ (.pointer _)) _ _) _); first | refine ldI (by repeat (first | exact mq0 | apply mq1 | apply mq2)) (by rfl) (by kernel_rfl) ?_ | refine la0 (by repeat (first | exact mq0 | apply mq1 | apply mq2)) (by rfl) (by kernel_rfl) ?_) | ((with_reducible show holds _ _ _ _ (.unit (Instr.storeAt _ _ _) _) _); refine stU (by repeat (first | exact Upd.here | apply Upd.there | apply Upd.right)) (by kernel_rfl) (by rfl) (by simp [Value.cells]) ?_)); try dsimp only [getL]))
  refine h_call0 (fun _ => { b := true }) ca_prefix_Covers (fun hl => covers_spec ha hn ha hn1) (by rw [c3]; rfl) ?_
  dsimp only
  refine h_no rfl ?_
  (repeat ((first | refine h_box fun _ _ _ => ?_ | ((with_reducible show holds _ _ _ _ (.sem (Instr.alloc 24 _ _) _ _) _); refine h_alloc zb_Prefix fun _ _ _ => ?_) | ((with_reducible show holds _ _ _ _ (.rd (Instr.loadAt _ (.pointer _)) _ _) _); first | refine ldI (by repeat (first | exact mq0 | apply mq1 | apply mq2)) (by rfl) (by kernel_rfl) ?_ | refine la0 (by repeat (first | exact mq0 | apply mq1 | apply mq2)) (by rfl) (by kernel_rfl) ?_) | ((with_reducible show holds _ _ _ _ (.unit (Instr.storeAt _ _ _) _) _); refine stU (by repeat (first | exact Upd.here | apply Upd.there | apply Upd.right)) (by kernel_rfl) (by rfl) (by simp [Value.cells]) ?_)); try dsimp only [getL]))
  refine h_call0 (fun _ => { b := true }) ca_prefix_Covers (fun hl => covers_spec ha hn hA hn1) (by rw [c4]; rfl) ?_
  dsimp only
  refine h_no rfl ?_
  (repeat ((first | refine h_box fun _ _ _ => ?_ | ((with_reducible show holds _ _ _ _ (.sem (Instr.alloc 24 _ _) _ _) _); refine h_alloc zb_Prefix fun _ _ _ => ?_) | ((with_reducible show holds _ _ _ _ (.rd (Instr.loadAt _ (.pointer _)) _ _) _); first | refine ldI (by repeat (first | exact mq0 | apply mq1 | apply mq2)) (by rfl) (by kernel_rfl) ?_ | refine la0 (by repeat (first | exact mq0 | apply mq1 | apply mq2)) (by rfl) (by kernel_rfl) ?_) | ((with_reducible show holds _ _ _ _ (.unit (Instr.storeAt _ _ _) _) _); refine stU (by repeat (first | exact Upd.here | apply Upd.there | apply Upd.right)) (by kernel_rfl) (by rfl) (by simp [Value.cells]) ?_)); try dsimp only [getL]))
  refine h_call0 (fun _ => { b := hasB a ((p + 1 : Nat) : Int) x }) ca_prefix_Has (fun hl => has_spec ha hn1 hx) rfl ?_
  dsimp only
  (repeat ((first | refine h_box fun _ _ _ => ?_ | ((with_reducible show holds _ _ _ _ (.sem (Instr.alloc 24 _ _) _ _) _); refine h_alloc zb_Prefix fun _ _ _ => ?_) | ((with_reducible show holds _ _ _ _ (.rd (Instr.loadAt _ (.pointer _)) _ _) _); first | refine ldI (by repeat (first | exact mq0 | apply mq1 | apply mq2)) (by rfl) (by kernel_rfl) ?_ | refine la0 (by repeat (first | exact mq0 | apply mq1 | apply mq2)) (by rfl) (by kernel_rfl) ?_) | ((with_reducible show holds _ _ _ _ (.unit (Instr.storeAt _ _ _) _) _); refine stU (by repeat (first | exact Upd.here | apply Upd.there | apply Upd.right)) (by kernel_rfl) (by rfl) (by simp [Value.cells]) ?_)); try dsimp only [getL]))
  refine h_call0 (fun _ => { b := hasB (a + d) ((p + 1 : Nat) : Int) x }) ca_prefix_Has (fun hl => has_spec hA hn1 hx) rfl ?_
  dsimp only
  (repeat ((first | refine h_box fun _ _ _ => ?_ | ((with_reducible show holds _ _ _ _ (.sem (Instr.alloc 24 _ _) _ _) _); refine h_alloc zb_Prefix fun _ _ _ => ?_) | ((with_reducible show holds _ _ _ _ (.rd (Instr.loadAt _ (.pointer _)) _ _) _); first | refine ldI (by repeat (first | exact mq0 | apply mq1 | apply mq2)) (by rfl) (by kernel_rfl) ?_ | refine la0 (by repeat (first | exact mq0 | apply mq1 | apply mq2)) (by rfl) (by kernel_rfl) ?_) | ((with_reducible show holds _ _ _ _ (.unit (Instr.storeAt _ _ _) _) _); refine stU (by repeat (first | exact Upd.here | apply Upd.there | apply Upd.right)) (by kernel_rfl) (by rfl) (by simp [Value.cells]) ?_)); try dsimp only [getL]))
  refine h_call0 (fun _ => { b := hasB a p x }) ca_prefix_Has (fun hl => has_spec ha hn hx) rfl ?_
  dsimp only
  rw [g1]
  revert g2
  cases hasB a ((p + 1 : Nat) : Int) x <;> cases hasB (a + d) ((p + 1 : Nat) : Int) x <;> intro g2
  · exact h_no rfl (h_yes rfl (h_no rfl (h_end0 ⟨rfl, rfl⟩)))
  · exact h_no rfl (h_yes rfl (h_no rfl (h_end0 ⟨rfl, rfl⟩)))
  · exact h_yes rfl (h_yes rfl (h_yes rfl (h_end0 ⟨rfl, rfl⟩)))
  · exact absurd ⟨rfl, rfl⟩ g2
end Go.Proofs.YtenlioajflbegaaDoorS
