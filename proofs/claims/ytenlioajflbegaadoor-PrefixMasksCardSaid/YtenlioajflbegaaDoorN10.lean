import Derived.Test.YtenlioajflbegaaDoorN31
import Derived.Test.YtenlioajflbegaaDoorN9
import Derived.Test.YtenlioajflbegaaDoorTA
set_option linter.unusedVariables false
set_option maxRecDepth 20000
namespace Go.Proofs.YtenlioajflbegaaDoorS
theorem bv_xor {a b : Nat} (ha : a < 4294967296) (hb : b < 4294967296) : bitop .xor .u32 (a : Int) (b : Int) = ((a ^^^ b : Nat) : Int) ∧ a ^^^ b < 4294967296 := by
  have hlt : a ^^^ b < 4294967296 := Nat.xor_lt_two_pow (n := 32) ha hb
  refine ⟨?_, hlt⟩
  show IntKind.u32.wrap ((BitVec.ofInt 32 (a : Int) ^^^ BitVec.ofInt 32 (b : Int)).toNat : Int) = _
  rw [BitVec.ofInt_natCast, BitVec.ofInt_natCast, BitVec.toNat_xor, BitVec.toNat_ofNat, BitVec.toNat_ofNat, Nat.mod_eq_of_lt (by omega), Nat.mod_eq_of_lt (by omega)]
  exact wrap32n hlt
theorem xor_div {x a k : Nat} : (x ^^^ a) / 2 ^ k = 0 ↔ x / 2 ^ k = a / 2 ^ k := by
  rw [← Nat.shiftRight_eq_div_pow, ← Nat.shiftRight_eq_div_pow, ← Nat.shiftRight_eq_div_pow, Nat.shiftRight_xor_distrib]
  constructor
  · intro h
    apply Nat.eq_of_testBit_eq
    intro i
    have := congrArg (fun z => z.testBit i) h
    simp only [Nat.testBit_xor, Nat.zero_testBit] at this
    revert this
    cases (x >>> k).testBit i <;> cases (a >>> k).testBit i <;> simp
  · intro h; rw [h, Nat.xor_self]
def sh (n : Int) : Nat := 32 - n.toNat
def hasB (a : Nat) (n : Int) (x : Nat) : Bool := mayB a n && decide (x / 2 ^ sh n = a / 2 ^ sh n)
def coversB (a : Nat) (n : Int) (b : Nat) (m : Int) : Bool := mayB b m && (decide (n ≤ m) && hasB a n b)
def lessB (a : Nat) (n : Int) (b : Nat) (m : Int) : Bool := decide (a < b) || (decide (a = b) && decide (n < m))
def makeP (a : Nat) (n : Int) : Option (Nat × Int) := if n < 0 then none else if n > 32 then none else some (a / 2 ^ sh n * 2 ^ sh n, n)
def resM (o : Option (Nat × Int)) : Value := match o with
  | some p => .tuple #[.agg #[.int .u32 (p.1 : Nat), .int .i64 p.2], .int .i64 0]
  | none => .tuple #[.agg #[.int .u32 0, .int .i64 0], .int .i64 1]
abbrev R64 (n : Int) : Prop := -9223372036854775808 ≤ n ∧ n ≤ 9223372036854775807
theorem may_mod {a : Nat} {n : Int} (h : mayB a n = true) : 0 ≤ n ∧ n ≤ 32 ∧ a % 2 ^ sh n = 0 := by
  unfold mayB at h
  simp only [Bool.and_eq_true, decide_eq_true_eq] at h
  exact ⟨h.1, h.2.1, h.2.2⟩
theorem mask_at {n : Int} (h0 : 0 ≤ n) (h1 : n ≤ 32) : maskOf n = maskN n.toNat := by unfold maskOf; rw [Nat.min_eq_left (by omega)]
theorem and_maskOf {a : Nat} {n : Int} (ha : a < 4294967296) (h0 : 0 ≤ n) (h1 : n ≤ 32) : bitop .and .u32 (a : Int) (maskOf n : Nat) = ((a / 2 ^ sh n * 2 ^ sh n : Nat) : Int) := by
  rw [mask_at h0 h1, bv_and ha (maskN_lt _), and_mask ha (by omega)]
  rfl
theorem mul_zero_pow {z k : Nat} : z * 2 ^ k = 0 ↔ z = 0 := by
  have : 0 < 2 ^ k := Nat.pow_pos (by decide)
  constructor
  · intro h
    rcases Nat.mul_eq_zero.1 h with h | h
    · exact h
    · omega
  · intro h; rw [h, Nat.zero_mul]
theorem has_spec {I : Ctx} {a x : Nat} {n : Int} (ha : a < 4294967296) (hn : R64 n) (hx : x < 4294967296) :
    Fn Tryd.prog 18 #[.agg #[.int .u32 (a : Int), .int .i64 n], .int .u32 (x : Int)] I [] (fun v h' => v = .bool (hasB a n x) ∧ h' = []) := by
  refine r_prefix_Has _ _ _ ?_
  (repeat ((first | refine h_box fun _ _ _ => ?_ | ((with_reducible show holds _ _ _ _ (.sem (Instr.alloc 24 _ _) _ _) _); refine h_alloc zb_Prefix fun _ _ _ => ?_) | ((with_reducible show holds _ _ _ _ (.rd (Instr.loadAt _ (.pointer _)) _ _) _); first | refine ldI (by repeat (first | exact mq0 | apply mq1 | apply mq2)) (by rfl) (by kernel_rfl) ?_ | refine la0 (by repeat (first | exact mq0 | apply mq1 | apply mq2)) (by rfl) (by kernel_rfl) ?_) | ((with_reducible show holds _ _ _ _ (.rd (loadVar _ _) _ _) _); refine lv0 (by repeat (first | exact mq0 | apply mq1 | apply mq2)) (by rfl) (by kernel_rfl) ?_) | ((with_reducible show holds _ _ _ _ (.unit (Instr.storeAt _ _ _) _) _); refine stU (by repeat (first | exact Upd.here | apply Upd.there | apply Upd.right)) (by kernel_rfl) (by rfl) (by simp [Value.cells]) ?_) | ((with_reducible show holds _ _ _ _ (.pin (vN (Instr.loadAt _ _)) _ _) _); first | refine pnA (by repeat (first | exact mq0 | apply mq1 | apply mq2)) (by rfl) (by kernel_rfl) ?_ | refine pn1 (by repeat (first | exact mq0 | apply mq1 | apply mq2)) (by rfl) (by kernel_rfl) ?_)); try dsimp only [getL]))
  refine h_call0 (fun _ => { b := mayB a n }) ca_prefix_May (fun hl => may_spec ha hn) rfl ?_
  dsimp only
  refine h_ite (fun t0 => ?_) (fun t0 => ?_)
  · obtain ⟨h0, h1, h2⟩ := may_mod t0
    (repeat ((first | refine h_box fun _ _ _ => ?_ | ((with_reducible show holds _ _ _ _ (.sem (Instr.alloc 24 _ _) _ _) _); refine h_alloc zb_Prefix fun _ _ _ => ?_) | ((with_reducible show holds _ _ _ _ (.rd (Instr.loadAt _ (.pointer _)) _ _) _); first | refine ldI (by repeat (first | exact mq0 | apply mq1 | apply mq2)) (by rfl) (by kernel_rfl) ?_ | refine la0 (by repeat (first | exact mq0 | apply mq1 | apply mq2)) (by rfl) (by kernel_rfl) ?_) | ((with_reducible show holds _ _ _ _ (.rd (loadVar _ _) _ _) _); refine lv0 (by repeat (first | exact mq0 | apply mq1 | apply mq2)) (by rfl) (by kernel_rfl) ?_) | ((with_reducible show holds _ _ _ _ (.unit (Instr.storeAt _ _ _) _) _); refine stU (by repeat (first | exact Upd.here | apply Upd.there | apply Upd.right)) (by kernel_rfl) (by rfl) (by simp [Value.cells]) ?_) | ((with_reducible show holds _ _ _ _ (.pin (vN (Instr.loadAt _ _)) _ _) _); first | refine pnA (by repeat (first | exact mq0 | apply mq1 | apply mq2)) (by rfl) (by kernel_rfl) ?_ | refine pn1 (by repeat (first | exact mq0 | apply mq1 | apply mq2)) (by rfl) (by kernel_rfl) ?_)); try dsimp only [getL]))
    refine h_call0 (fun _ => { i := (maskOf n : Nat) }) ca_prefix_Mask (fun hl => mask_spec hn) rfl ?_
    dsimp only
    (repeat ((first | refine h_box fun _ _ _ => ?_ | ((with_reducible show holds _ _ _ _ (.sem (Instr.alloc 24 _ _) _ _) _); refine h_alloc zb_Prefix fun _ _ _ => ?_) | ((with_reducible show holds _ _ _ _ (.rd (Instr.loadAt _ (.pointer _)) _ _) _); first | refine ldI (by repeat (first | exact mq0 | apply mq1 | apply mq2)) (by rfl) (by kernel_rfl) ?_ | refine la0 (by repeat (first | exact mq0 | apply mq1 | apply mq2)) (by rfl) (by kernel_rfl) ?_) | ((with_reducible show holds _ _ _ _ (.rd (loadVar _ _) _ _) _); refine lv0 (by repeat (first | exact mq0 | apply mq1 | apply mq2)) (by rfl) (by kernel_rfl) ?_) | ((with_reducible show holds _ _ _ _ (.unit (Instr.storeAt _ _ _) _) _); refine stU (by repeat (first | exact Upd.here | apply Upd.there | apply Upd.right)) (by kernel_rfl) (by rfl) (by simp [Value.cells]) ?_) | ((with_reducible show holds _ _ _ _ (.pin (vN (Instr.loadAt _ _)) _ _) _); first | refine pnA (by repeat (first | exact mq0 | apply mq1 | apply mq2)) (by rfl) (by kernel_rfl) ?_ | refine pn1 (by repeat (first | exact mq0 | apply mq1 | apply mq2)) (by rfl) (by kernel_rfl) ?_)); try dsimp only [getL]))
    refine h_end0 ⟨?_, rfl⟩
    obtain ⟨e, hlt⟩ := bv_xor hx ha
    rw [e, and_maskOf hlt h0 h1]
    unfold hasB
    rw [t0, Bool.true_and]
    congr 1
    rw [Bool.eq_iff_iff]
    simp only [beq_iff_eq, decide_eq_true_eq]
    rw [← xor_div, ← mul_zero_pow (k := sh n)]
    exact ⟨fun h => by exact_mod_cast h, fun h => by exact_mod_cast h⟩
  · refine h_end0 ⟨?_, rfl⟩
    unfold hasB; rw [t0]; rfl
theorem rhas_spec {I : Ctx} {a x : Nat} {n : Int} (ha : a < 4294967296) (hn : R64 n) (hx : x < 4294967296) :
    Fn Tryd.prog 20 #[.agg #[.int .u32 (a : Int), .int .i64 n], .int .u32 (x : Int)] I [] (fun v h' => v = .bool (hasB a n x) ∧ h' = []) := by
  refine r_octroiref02_Has _ _ _ ?_
  (repeat ((first | refine h_box fun _ _ _ => ?_ | ((with_reducible show holds _ _ _ _ (.sem (Instr.alloc 24 _ _) _ _) _); refine h_alloc zb_Prefix fun _ _ _ => ?_) | ((with_reducible show holds _ _ _ _ (.rd (Instr.loadAt _ (.pointer _)) _ _) _); first | refine ldI (by repeat (first | exact mq0 | apply mq1 | apply mq2)) (by rfl) (by kernel_rfl) ?_ | refine la0 (by repeat (first | exact mq0 | apply mq1 | apply mq2)) (by rfl) (by kernel_rfl) ?_) | ((with_reducible show holds _ _ _ _ (.rd (loadVar _ _) _ _) _); refine lv0 (by repeat (first | exact mq0 | apply mq1 | apply mq2)) (by rfl) (by kernel_rfl) ?_) | ((with_reducible show holds _ _ _ _ (.unit (Instr.storeAt _ _ _) _) _); refine stU (by repeat (first | exact Upd.here | apply Upd.there | apply Upd.right)) (by kernel_rfl) (by rfl) (by simp [Value.cells]) ?_) | ((with_reducible show holds _ _ _ _ (.pin (vN (Instr.loadAt _ _)) _ _) _); first | refine pnA (by repeat (first | exact mq0 | apply mq1 | apply mq2)) (by rfl) (by kernel_rfl) ?_ | refine pn1 (by repeat (first | exact mq0 | apply mq1 | apply mq2)) (by rfl) (by kernel_rfl) ?_)); try dsimp only [getL]))
  refine h_call0 (fun _ => { b := mayB a n }) ca_octroiref02_May (fun hl => rmay_spec ha hn) rfl ?_
  dsimp only
  refine h_ite (fun t0 => ?_) (fun t0 => ?_)
  · obtain ⟨h0, h1, h2⟩ := may_mod t0
    (repeat ((first | refine h_box fun _ _ _ => ?_ | ((with_reducible show holds _ _ _ _ (.sem (Instr.alloc 24 _ _) _ _) _); refine h_alloc zb_Prefix fun _ _ _ => ?_) | ((with_reducible show holds _ _ _ _ (.rd (Instr.loadAt _ (.pointer _)) _ _) _); first | refine ldI (by repeat (first | exact mq0 | apply mq1 | apply mq2)) (by rfl) (by kernel_rfl) ?_ | refine la0 (by repeat (first | exact mq0 | apply mq1 | apply mq2)) (by rfl) (by kernel_rfl) ?_) | ((with_reducible show holds _ _ _ _ (.rd (loadVar _ _) _ _) _); refine lv0 (by repeat (first | exact mq0 | apply mq1 | apply mq2)) (by rfl) (by kernel_rfl) ?_) | ((with_reducible show holds _ _ _ _ (.unit (Instr.storeAt _ _ _) _) _); refine stU (by repeat (first | exact Upd.here | apply Upd.there | apply Upd.right)) (by kernel_rfl) (by rfl) (by simp [Value.cells]) ?_) | ((with_reducible show holds _ _ _ _ (.pin (vN (Instr.loadAt _ _)) _ _) _); first | refine pnA (by repeat (first | exact mq0 | apply mq1 | apply mq2)) (by rfl) (by kernel_rfl) ?_ | refine pn1 (by repeat (first | exact mq0 | apply mq1 | apply mq2)) (by rfl) (by kernel_rfl) ?_)); try dsimp only [getL]))
    refine h_call0 (fun _ => { i := (maskOf n : Nat) }) ca_octroiref02_Mask (fun hl => rmask_spec hn) rfl ?_
    dsimp only
    (repeat ((first | refine h_box fun _ _ _ => ?_ | ((with_reducible show holds _ _ _ _ (.sem (Instr.alloc 24 _ _) _ _) _); refine h_alloc zb_Prefix fun _ _ _ => ?_) | ((with_reducible show holds _ _ _ _ (.rd (Instr.loadAt _ (.pointer _)) _ _) _); first | refine ldI (by repeat (first | exact mq0 | apply mq1 | apply mq2)) (by rfl) (by kernel_rfl) ?_ | refine la0 (by repeat (first | exact mq0 | apply mq1 | apply mq2)) (by rfl) (by kernel_rfl) ?_) | ((with_reducible show holds _ _ _ _ (.rd (loadVar _ _) _ _) _); refine lv0 (by repeat (first | exact mq0 | apply mq1 | apply mq2)) (by rfl) (by kernel_rfl) ?_) | ((with_reducible show holds _ _ _ _ (.unit (Instr.storeAt _ _ _) _) _); refine stU (by repeat (first | exact Upd.here | apply Upd.there | apply Upd.right)) (by kernel_rfl) (by rfl) (by simp [Value.cells]) ?_) | ((with_reducible show holds _ _ _ _ (.pin (vN (Instr.loadAt _ _)) _ _) _); first | refine pnA (by repeat (first | exact mq0 | apply mq1 | apply mq2)) (by rfl) (by kernel_rfl) ?_ | refine pn1 (by repeat (first | exact mq0 | apply mq1 | apply mq2)) (by rfl) (by kernel_rfl) ?_)); try dsimp only [getL]))
    refine h_end0 ⟨?_, rfl⟩
    rw [and_maskOf hx h0 h1]
    unfold hasB
    rw [t0, Bool.true_and]
    congr 1
    rw [Bool.eq_iff_iff]
    simp only [beq_iff_eq, decide_eq_true_eq]
    have h3 := Nat.div_add_mod a (2 ^ sh n)
    rw [h2, Nat.add_zero, Nat.mul_comm] at h3
    have hp : 0 < 2 ^ sh n := Nat.pow_pos (by decide)
    constructor
    · intro h
      have h4 : x / 2 ^ sh n * 2 ^ sh n = a / 2 ^ sh n * 2 ^ sh n := by rw [h3]; exact_mod_cast h
      exact Nat.eq_of_mul_eq_mul_right hp h4
    · intro h; rw [h, h3]
  · refine h_end0 ⟨?_, rfl⟩
    unfold hasB; rw [t0]; rfl
theorem covers_spec {I : Ctx} {a b : Nat} {n m : Int} (ha : a < 4294967296) (hn : R64 n) (hb : b < 4294967296) (hm : R64 m) :
    Fn Tryd.prog 17 #[.agg #[.int .u32 (a : Int), .int .i64 n], .agg #[.int .u32 (b : Int), .int .i64 m]] I [] (fun v h' => v = .bool (coversB a n b m) ∧ h' = []) := by
  refine r_prefix_Covers _ _ _ _ ?_
  (repeat ((first | refine h_box fun _ _ _ => ?_ | ((with_reducible show holds _ _ _ _ (.sem (Instr.alloc 24 _ _) _ _) _); refine h_alloc zb_Prefix fun _ _ _ => ?_) | ((with_reducible show holds _ _ _ _ (.rd (Instr.loadAt _ (.pointer _)) _ _) _); first | refine ldI (by repeat (first | exact mq0 | apply mq1 | apply mq2)) (by rfl) (by kernel_rfl) ?_ | refine la0 (by repeat (first | exact mq0 | apply mq1 | apply mq2)) (by rfl) (by kernel_rfl) ?_) | ((with_reducible show holds _ _ _ _ (.rd (loadVar _ _) _ _) _); refine lv0 (by repeat (first | exact mq0 | apply mq1 | apply mq2)) (by rfl) (by kernel_rfl) ?_) | ((with_reducible show holds _ _ _ _ (.unit (Instr.storeAt _ _ _) _) _); refine stU (by repeat (first | exact Upd.here | apply Upd.there | apply Upd.right)) (by kernel_rfl) (by rfl) (by simp [Value.cells]) ?_) | ((with_reducible show holds _ _ _ _ (.pin (vN (Instr.loadAt _ _)) _ _) _); first | refine pnA (by repeat (first | exact mq0 | apply mq1 | apply mq2)) (by rfl) (by kernel_rfl) ?_ | refine pn1 (by repeat (first | exact mq0 | apply mq1 | apply mq2)) (by rfl) (by kernel_rfl) ?_)); try dsimp only [getL]))
  refine h_call0 (fun _ => { b := mayB b m }) ca_prefix_May (fun hl => may_spec hb hm) rfl ?_
  dsimp only
  unfold coversB
  refine h_ite (fun t0 => ?_) (fun t0 => ?_)
  · (repeat ((first | refine h_box fun _ _ _ => ?_ | ((with_reducible show holds _ _ _ _ (.sem (Instr.alloc 24 _ _) _ _) _); refine h_alloc zb_Prefix fun _ _ _ => ?_) | ((with_reducible show holds _ _ _ _ (.rd (Instr.loadAt _ (.pointer _)) _ _) _); first | refine ldI (by repeat (first | exact mq0 | apply mq1 | apply mq2)) (by rfl) (by kernel_rfl) ?_ | refine la0 (by repeat (first | exact mq0 | apply mq1 | apply mq2)) (by rfl) (by kernel_rfl) ?_) | ((with_reducible show holds _ _ _ _ (.rd (loadVar _ _) _ _) _); refine lv0 (by repeat (first | exact mq0 | apply mq1 | apply mq2)) (by rfl) (by kernel_rfl) ?_) | ((with_reducible show holds _ _ _ _ (.unit (Instr.storeAt _ _ _) _) _); refine stU (by repeat (first | exact Upd.here | apply Upd.there | apply Upd.right)) (by kernel_rfl) (by rfl) (by simp [Value.cells]) ?_) | ((with_reducible show holds _ _ _ _ (.pin (vN (Instr.loadAt _ _)) _ _) _); first | refine pnA (by repeat (first | exact mq0 | apply mq1 | apply mq2)) (by rfl) (by kernel_rfl) ?_ | refine pn1 (by repeat (first | exact mq0 | apply mq1 | apply mq2)) (by rfl) (by kernel_rfl) ?_)); try dsimp only [getL]))
    rw [t0, Bool.true_and]
    refine h_ite (fun t1 => ?_) (fun t1 => ?_)
    · (repeat ((first | refine h_box fun _ _ _ => ?_ | ((with_reducible show holds _ _ _ _ (.sem (Instr.alloc 24 _ _) _ _) _); refine h_alloc zb_Prefix fun _ _ _ => ?_) | ((with_reducible show holds _ _ _ _ (.rd (Instr.loadAt _ (.pointer _)) _ _) _); first | refine ldI (by repeat (first | exact mq0 | apply mq1 | apply mq2)) (by rfl) (by kernel_rfl) ?_ | refine la0 (by repeat (first | exact mq0 | apply mq1 | apply mq2)) (by rfl) (by kernel_rfl) ?_) | ((with_reducible show holds _ _ _ _ (.rd (loadVar _ _) _ _) _); refine lv0 (by repeat (first | exact mq0 | apply mq1 | apply mq2)) (by rfl) (by kernel_rfl) ?_) | ((with_reducible show holds _ _ _ _ (.unit (Instr.storeAt _ _ _) _) _); refine stU (by repeat (first | exact Upd.here | apply Upd.there | apply Upd.right)) (by kernel_rfl) (by rfl) (by simp [Value.cells]) ?_) | ((with_reducible show holds _ _ _ _ (.pin (vN (Instr.loadAt _ _)) _ _) _); first | refine pnA (by repeat (first | exact mq0 | apply mq1 | apply mq2)) (by rfl) (by kernel_rfl) ?_ | refine pn1 (by repeat (first | exact mq0 | apply mq1 | apply mq2)) (by rfl) (by kernel_rfl) ?_)); try dsimp only [getL]))
      refine h_call0 (fun _ => { b := hasB a n b }) ca_prefix_Has (fun hl => has_spec ha hn hb) rfl ?_
      refine h_end0 ⟨?_, rfl⟩
      rw [t1, Bool.true_and]
    · refine h_end0 ⟨?_, rfl⟩
      rw [t1]; rfl
  · refine h_end0 ⟨?_, rfl⟩
    rw [t0]; rfl
theorem rcovers_spec {I : Ctx} {a b : Nat} {n m : Int} (ha : a < 4294967296) (hn : R64 n) (hb : b < 4294967296) (hm : R64 m) :
    Fn Tryd.prog 21 #[.agg #[.int .u32 (a : Int), .int .i64 n], .agg #[.int .u32 (b : Int), .int .i64 m]] I [] (fun v h' => v = .bool (coversB a n b m) ∧ h' = []) := by
  refine r_octroiref02_Covers _ _ _ _ ?_
  (repeat ((first | refine h_box fun _ _ _ => ?_ | ((with_reducible show holds _ _ _ _ (.sem (Instr.alloc 24 _ _) _ _) _); refine h_alloc zb_Prefix fun _ _ _ => ?_) | ((with_reducible show holds _ _ _ _ (.rd (Instr.loadAt _ (.pointer _)) _ _) _); first | refine ldI (by repeat (first | exact mq0 | apply mq1 | apply mq2)) (by rfl) (by kernel_rfl) ?_ | refine la0 (by repeat (first | exact mq0 | apply mq1 | apply mq2)) (by rfl) (by kernel_rfl) ?_) | ((with_reducible show holds _ _ _ _ (.rd (loadVar _ _) _ _) _); refine lv0 (by repeat (first | exact mq0 | apply mq1 | apply mq2)) (by rfl) (by kernel_rfl) ?_) | ((with_reducible show holds _ _ _ _ (.unit (Instr.storeAt _ _ _) _) _); refine stU (by repeat (first | exact Upd.here | apply Upd.there | apply Upd.right)) (by kernel_rfl) (by rfl) (by simp [Value.cells]) ?_) | ((with_reducible show holds _ _ _ _ (.pin (vN (Instr.loadAt _ _)) _ _) _); first | refine pnA (by repeat (first | exact mq0 | apply mq1 | apply mq2)) (by rfl) (by kernel_rfl) ?_ | refine pn1 (by repeat (first | exact mq0 | apply mq1 | apply mq2)) (by rfl) (by kernel_rfl) ?_)); try dsimp only [getL]))
  refine h_call0 (fun _ => { b := mayB b m }) ca_octroiref02_May (fun hl => rmay_spec hb hm) rfl ?_
  dsimp only
  (repeat ((first | refine h_box fun _ _ _ => ?_ | ((with_reducible show holds _ _ _ _ (.sem (Instr.alloc 24 _ _) _ _) _); refine h_alloc zb_Prefix fun _ _ _ => ?_) | ((with_reducible show holds _ _ _ _ (.rd (Instr.loadAt _ (.pointer _)) _ _) _); first | refine ldI (by repeat (first | exact mq0 | apply mq1 | apply mq2)) (by rfl) (by kernel_rfl) ?_ | refine la0 (by repeat (first | exact mq0 | apply mq1 | apply mq2)) (by rfl) (by kernel_rfl) ?_) | ((with_reducible show holds _ _ _ _ (.rd (loadVar _ _) _ _) _); refine lv0 (by repeat (first | exact mq0 | apply mq1 | apply mq2)) (by rfl) (by kernel_rfl) ?_) | ((with_reducible show holds _ _ _ _ (.unit (Instr.storeAt _ _ _) _) _); refine stU (by repeat (first | exact Upd.here | apply Upd.there | apply Upd.right)) (by kernel_rfl) (by rfl) (by simp [Value.cells]) ?_) | ((with_reducible show holds _ _ _ _ (.pin (vN (Instr.loadAt _ _)) _ _) _); first | refine pnA (by repeat (first | exact mq0 | apply mq1 | apply mq2)) (by rfl) (by kernel_rfl) ?_ | refine pn1 (by repeat (first | exact mq0 | apply mq1 | apply mq2)) (by rfl) (by kernel_rfl) ?_)); try dsimp only [getL]))
  refine h_call0 (fun _ => { b := hasB a n b }) ca_octroiref02_Has (fun hl => rhas_spec ha hn hb) rfl ?_
  dsimp only
  unfold coversB
  refine h_ite (fun t0 => ?_) (fun t0 => ?_)
  · rw [t0, Bool.true_and]
    refine h_ite (fun t1 => ?_) (fun t1 => ?_)
    · (repeat ((first | refine h_box fun _ _ _ => ?_ | ((with_reducible show holds _ _ _ _ (.sem (Instr.alloc 24 _ _) _ _) _); refine h_alloc zb_Prefix fun _ _ _ => ?_) | ((with_reducible show holds _ _ _ _ (.rd (Instr.loadAt _ (.pointer _)) _ _) _); first | refine ldI (by repeat (first | exact mq0 | apply mq1 | apply mq2)) (by rfl) (by kernel_rfl) ?_ | refine la0 (by repeat (first | exact mq0 | apply mq1 | apply mq2)) (by rfl) (by kernel_rfl) ?_) | ((with_reducible show holds _ _ _ _ (.rd (loadVar _ _) _ _) _); refine lv0 (by repeat (first | exact mq0 | apply mq1 | apply mq2)) (by rfl) (by kernel_rfl) ?_) | ((with_reducible show holds _ _ _ _ (.unit (Instr.storeAt _ _ _) _) _); refine stU (by repeat (first | exact Upd.here | apply Upd.there | apply Upd.right)) (by kernel_rfl) (by rfl) (by simp [Value.cells]) ?_) | ((with_reducible show holds _ _ _ _ (.pin (vN (Instr.loadAt _ _)) _ _) _); first | refine pnA (by repeat (first | exact mq0 | apply mq1 | apply mq2)) (by rfl) (by kernel_rfl) ?_ | refine pn1 (by repeat (first | exact mq0 | apply mq1 | apply mq2)) (by rfl) (by kernel_rfl) ?_)); try dsimp only [getL]))
      refine h_end0 ⟨?_, rfl⟩
      rw [t1, Bool.and_true]
    · refine h_end0 ⟨?_, rfl⟩
      rw [t1, Bool.and_false]
  · refine h_end0 ⟨?_, rfl⟩
    rw [t0]; rfl
theorem less_spec {I : Ctx} {a b : Nat} {n m : Int} : Fn Tryd.prog 22 #[.agg #[.int .u32 (a : Int), .int .i64 n], .agg #[.int .u32 (b : Int), .int .i64 m]] I [] (fun v h' => v = .bool (lessB a n b m) ∧ h' = []) := by
  refine r_prefix_Less _ _ _ _ ?_
  (repeat ((first | refine h_box fun _ _ _ => ?_ | ((with_reducible show holds _ _ _ _ (.sem (Instr.alloc 24 _ _) _ _) _); refine h_alloc zb_Prefix fun _ _ _ => ?_) | ((with_reducible show holds _ _ _ _ (.rd (Instr.loadAt _ (.pointer _)) _ _) _); first | refine ldI (by repeat (first | exact mq0 | apply mq1 | apply mq2)) (by rfl) (by kernel_rfl) ?_ | refine la0 (by repeat (first | exact mq0 | apply mq1 | apply mq2)) (by rfl) (by kernel_rfl) ?_) | ((with_reducible show holds _ _ _ _ (.rd (loadVar _ _) _ _) _); refine lv0 (by repeat (first | exact mq0 | apply mq1 | apply mq2)) (by rfl) (by kernel_rfl) ?_) | ((with_reducible show holds _ _ _ _ (.unit (Instr.storeAt _ _ _) _) _); refine stU (by repeat (first | exact Upd.here | apply Upd.there | apply Upd.right)) (by kernel_rfl) (by rfl) (by simp [Value.cells]) ?_) | ((with_reducible show holds _ _ _ _ (.pin (vN (Instr.loadAt _ _)) _ _) _); first | refine pnA (by repeat (first | exact mq0 | apply mq1 | apply mq2)) (by rfl) (by kernel_rfl) ?_ | refine pn1 (by repeat (first | exact mq0 | apply mq1 | apply mq2)) (by rfl) (by kernel_rfl) ?_)); try dsimp only [getL]))
  unfold lessB
  refine h_ite (fun t0 => ?_) (fun t0 => ?_)
  · have hne : a ≠ b := by intro e; rw [e] at t0; simp at t0
    (repeat ((first | refine h_box fun _ _ _ => ?_ | ((with_reducible show holds _ _ _ _ (.sem (Instr.alloc 24 _ _) _ _) _); refine h_alloc zb_Prefix fun _ _ _ => ?_) | ((with_reducible show holds _ _ _ _ (.rd (Instr.loadAt _ (.pointer _)) _ _) _); first | refine ldI (by repeat (first | exact mq0 | apply mq1 | apply mq2)) (by rfl) (by kernel_rfl) ?_ | refine la0 (by repeat (first | exact mq0 | apply mq1 | apply mq2)) (by rfl) (by kernel_rfl) ?_) | ((with_reducible show holds _ _ _ _ (.rd (loadVar _ _) _ _) _); refine lv0 (by repeat (first | exact mq0 | apply mq1 | apply mq2)) (by rfl) (by kernel_rfl) ?_) | ((with_reducible show holds _ _ _ _ (.unit (Instr.storeAt _ _ _) _) _); refine stU (by repeat (first | exact Upd.here | apply Upd.there | apply Upd.right)) (by kernel_rfl) (by rfl) (by simp [Value.cells]) ?_) | ((with_reducible show holds _ _ _ _ (.pin (vN (Instr.loadAt _ _)) _ _) _); first | refine pnA (by repeat (first | exact mq0 | apply mq1 | apply mq2)) (by rfl) (by kernel_rfl) ?_ | refine pn1 (by repeat (first | exact mq0 | apply mq1 | apply mq2)) (by rfl) (by kernel_rfl) ?_)); try dsimp only [getL]))
    refine h_end0 ⟨?_, rfl⟩
    rw [decide_eq_false hne, Bool.false_and, Bool.or_false]
    congr 1
    rw [Bool.eq_iff_iff]; simp only [decide_eq_true_eq]; omega
  · have he : a = b := by simp at t0; omega
    (repeat ((first | refine h_box fun _ _ _ => ?_ | ((with_reducible show holds _ _ _ _ (.sem (Instr.alloc 24 _ _) _ _) _); refine h_alloc zb_Prefix fun _ _ _ => ?_) | ((with_reducible show holds _ _ _ _ (.rd (Instr.loadAt _ (.pointer _)) _ _) _); first | refine ldI (by repeat (first | exact mq0 | apply mq1 | apply mq2)) (by rfl) (by kernel_rfl) ?_ | refine la0 (by repeat (first | exact mq0 | apply mq1 | apply mq2)) (by rfl) (by kernel_rfl) ?_) | ((with_reducible show holds _ _ _ _ (.rd (loadVar _ _) _ _) _); refine lv0 (by repeat (first | exact mq0 | apply mq1 | apply mq2)) (by rfl) (by kernel_rfl) ?_) | ((with_reducible show holds _ _ _ _ (.unit (Instr.storeAt _ _ _) _) _); refine stU (by repeat (first | exact Upd.here | apply Upd.there | apply Upd.right)) (by kernel_rfl) (by rfl) (by simp [Value.cells]) ?_) | ((with_reducible show holds _ _ _ _ (.pin (vN (Instr.loadAt _ _)) _ _) _); first | refine pnA (by repeat (first | exact mq0 | apply mq1 | apply mq2)) (by rfl) (by kernel_rfl) ?_ | refine pn1 (by repeat (first | exact mq0 | apply mq1 | apply mq2)) (by rfl) (by kernel_rfl) ?_)); try dsimp only [getL]))
    refine h_end0 ⟨?_, rfl⟩
    rw [decide_eq_true he, decide_eq_false (show ¬ a < b by omega)]
    rfl
theorem rless_spec {I : Ctx} {a b : Nat} {n m : Int} : Fn Tryd.prog 23 #[.agg #[.int .u32 (a : Int), .int .i64 n], .agg #[.int .u32 (b : Int), .int .i64 m]] I [] (fun v h' => v = .bool (lessB a n b m) ∧ h' = []) := by
  refine r_octroiref02_Less _ _ _ _ ?_
  (repeat ((first | refine h_box fun _ _ _ => ?_ | ((with_reducible show holds _ _ _ _ (.sem (Instr.alloc 24 _ _) _ _) _); refine h_alloc zb_Prefix fun _ _ _ => ?_) | ((with_reducible show holds _ _ _ _ (.rd (Instr.loadAt _ (.pointer _)) _ _) _); first | refine ldI (by repeat (first | exact mq0 | apply mq1 | apply mq2)) (by rfl) (by kernel_rfl) ?_ | refine la0 (by repeat (first | exact mq0 | apply mq1 | apply mq2)) (by rfl) (by kernel_rfl) ?_) | ((with_reducible show holds _ _ _ _ (.rd (loadVar _ _) _ _) _); refine lv0 (by repeat (first | exact mq0 | apply mq1 | apply mq2)) (by rfl) (by kernel_rfl) ?_) | ((with_reducible show holds _ _ _ _ (.unit (Instr.storeAt _ _ _) _) _); refine stU (by repeat (first | exact Upd.here | apply Upd.there | apply Upd.right)) (by kernel_rfl) (by rfl) (by simp [Value.cells]) ?_) | ((with_reducible show holds _ _ _ _ (.pin (vN (Instr.loadAt _ _)) _ _) _); first | refine pnA (by repeat (first | exact mq0 | apply mq1 | apply mq2)) (by rfl) (by kernel_rfl) ?_ | refine pn1 (by repeat (first | exact mq0 | apply mq1 | apply mq2)) (by rfl) (by kernel_rfl) ?_)); try dsimp only [getL]))
  unfold lessB
  refine h_ite (fun t0 => ?_) (fun t0 => ?_)
  · refine h_end0 ⟨?_, rfl⟩
    rw [decide_eq_true (show a < b by simp at t0; omega)]; rfl
  · have h0 : ¬ a < b := by simp at t0; omega
    (repeat ((first | refine h_box fun _ _ _ => ?_ | ((with_reducible show holds _ _ _ _ (.sem (Instr.alloc 24 _ _) _ _) _); refine h_alloc zb_Prefix fun _ _ _ => ?_) | ((with_reducible show holds _ _ _ _ (.rd (Instr.loadAt _ (.pointer _)) _ _) _); first | refine ldI (by repeat (first | exact mq0 | apply mq1 | apply mq2)) (by rfl) (by kernel_rfl) ?_ | refine la0 (by repeat (first | exact mq0 | apply mq1 | apply mq2)) (by rfl) (by kernel_rfl) ?_) | ((with_reducible show holds _ _ _ _ (.rd (loadVar _ _) _ _) _); refine lv0 (by repeat (first | exact mq0 | apply mq1 | apply mq2)) (by rfl) (by kernel_rfl) ?_) | ((with_reducible show holds _ _ _ _ (.unit (Instr.storeAt _ _ _) _) _); refine stU (by repeat (first | exact Upd.here | apply Upd.there | apply Upd.right)) (by kernel_rfl) (by rfl) (by simp [Value.cells]) ?_) | ((with_reducible show holds _ _ _ _ (.pin (vN (Instr.loadAt _ _)) _ _) _); first | refine pnA (by repeat (first | exact mq0 | apply mq1 | apply mq2)) (by rfl) (by kernel_rfl) ?_ | refine pn1 (by repeat (first | exact mq0 | apply mq1 | apply mq2)) (by rfl) (by kernel_rfl) ?_)); try dsimp only [getL]))
    rw [decide_eq_false h0, Bool.false_or]
    refine h_ite (fun t1 => ?_) (fun t1 => ?_)
    · (repeat ((first | refine h_box fun _ _ _ => ?_ | ((with_reducible show holds _ _ _ _ (.sem (Instr.alloc 24 _ _) _ _) _); refine h_alloc zb_Prefix fun _ _ _ => ?_) | ((with_reducible show holds _ _ _ _ (.rd (Instr.loadAt _ (.pointer _)) _ _) _); first | refine ldI (by repeat (first | exact mq0 | apply mq1 | apply mq2)) (by rfl) (by kernel_rfl) ?_ | refine la0 (by repeat (first | exact mq0 | apply mq1 | apply mq2)) (by rfl) (by kernel_rfl) ?_) | ((with_reducible show holds _ _ _ _ (.rd (loadVar _ _) _ _) _); refine lv0 (by repeat (first | exact mq0 | apply mq1 | apply mq2)) (by rfl) (by kernel_rfl) ?_) | ((with_reducible show holds _ _ _ _ (.unit (Instr.storeAt _ _ _) _) _); refine stU (by repeat (first | exact Upd.here | apply Upd.there | apply Upd.right)) (by kernel_rfl) (by rfl) (by simp [Value.cells]) ?_) | ((with_reducible show holds _ _ _ _ (.pin (vN (Instr.loadAt _ _)) _ _) _); first | refine pnA (by repeat (first | exact mq0 | apply mq1 | apply mq2)) (by rfl) (by kernel_rfl) ?_ | refine pn1 (by repeat (first | exact mq0 | apply mq1 | apply mq2)) (by rfl) (by kernel_rfl) ?_)); try dsimp only [getL]))
      refine h_end0 ⟨?_, rfl⟩
      rw [decide_eq_true (show a = b by simp at t1; omega)]; rfl
    · refine h_end0 ⟨?_, rfl⟩
      rw [decide_eq_false (show ¬ a = b by intro e; rw [e] at t1; simp at t1)]; rfl
theorem make_spec {I : Ctx} {a : Nat} {n : Int} (ha : a < 4294967296) (hn : R64 n) : Fn Tryd.prog 19 #[.int .u32 (a : Int), .int .i64 n] I [] (fun v h' => v = resM (makeP a n) ∧ h' = []) := by
  refine r_prefix_Make _ _ ?_
  (repeat ((first | refine h_box fun _ _ _ => ?_ | ((with_reducible show holds _ _ _ _ (.sem (Instr.alloc 24 _ _) _ _) _); refine h_alloc zb_Prefix fun _ _ _ => ?_) | ((with_reducible show holds _ _ _ _ (.rd (Instr.loadAt _ (.pointer _)) _ _) _); first | refine ldI (by repeat (first | exact mq0 | apply mq1 | apply mq2)) (by rfl) (by kernel_rfl) ?_ | refine la0 (by repeat (first | exact mq0 | apply mq1 | apply mq2)) (by rfl) (by kernel_rfl) ?_) | ((with_reducible show holds _ _ _ _ (.rd (loadVar _ _) _ _) _); refine lv0 (by repeat (first | exact mq0 | apply mq1 | apply mq2)) (by rfl) (by kernel_rfl) ?_) | ((with_reducible show holds _ _ _ _ (.unit (Instr.storeAt _ _ _) _) _); refine stU (by repeat (first | exact Upd.here | apply Upd.there | apply Upd.right)) (by kernel_rfl) (by rfl) (by simp [Value.cells]) ?_) | ((with_reducible show holds _ _ _ _ (.pin (vN (Instr.loadAt _ _)) _ _) _); first | refine pnA (by repeat (first | exact mq0 | apply mq1 | apply mq2)) (by rfl) (by kernel_rfl) ?_ | refine pn1 (by repeat (first | exact mq0 | apply mq1 | apply mq2)) (by rfl) (by kernel_rfl) ?_)); try dsimp only [getL]))
  unfold makeP
  refine h_ite (fun t0 => ?_) (fun t0 => ?_)
  · rw [if_pos (by simpa using t0)]
    (repeat ((first | refine h_box fun _ _ _ => ?_ | ((with_reducible show holds _ _ _ _ (.sem (Instr.alloc 24 _ _) _ _) _); refine h_alloc zb_Prefix fun _ _ _ => ?_) | ((with_reducible show holds _ _ _ _ (.rd (Instr.loadAt _ (.pointer _)) _ _) _); first | refine ldI (by repeat (first | exact mq0 | apply mq1 | apply mq2)) (by rfl) (by kernel_rfl) ?_ | refine la0 (by repeat (first | exact mq0 | apply mq1 | apply mq2)) (by rfl) (by kernel_rfl) ?_) | ((with_reducible show holds _ _ _ _ (.rd (loadVar _ _) _ _) _); refine lv0 (by repeat (first | exact mq0 | apply mq1 | apply mq2)) (by rfl) (by kernel_rfl) ?_) | ((with_reducible show holds _ _ _ _ (.unit (Instr.storeAt _ _ _) _) _); refine stU (by repeat (first | exact Upd.here | apply Upd.there | apply Upd.right)) (by kernel_rfl) (by rfl) (by simp [Value.cells]) ?_) | ((with_reducible show holds _ _ _ _ (.pin (vN (Instr.loadAt _ _)) _ _) _); first | refine pnA (by repeat (first | exact mq0 | apply mq1 | apply mq2)) (by rfl) (by kernel_rfl) ?_ | refine pn1 (by repeat (first | exact mq0 | apply mq1 | apply mq2)) (by rfl) (by kernel_rfl) ?_)); try dsimp only [getL]))
    exact h_end0 ⟨rfl, rfl⟩
  rw [if_neg (by simpa using t0)]
  refine h_ite (fun t1 => ?_) (fun t1 => ?_)
  · rw [if_pos (by simpa using t1)]
    (repeat ((first | refine h_box fun _ _ _ => ?_ | ((with_reducible show holds _ _ _ _ (.sem (Instr.alloc 24 _ _) _ _) _); refine h_alloc zb_Prefix fun _ _ _ => ?_) | ((with_reducible show holds _ _ _ _ (.rd (Instr.loadAt _ (.pointer _)) _ _) _); first | refine ldI (by repeat (first | exact mq0 | apply mq1 | apply mq2)) (by rfl) (by kernel_rfl) ?_ | refine la0 (by repeat (first | exact mq0 | apply mq1 | apply mq2)) (by rfl) (by kernel_rfl) ?_) | ((with_reducible show holds _ _ _ _ (.rd (loadVar _ _) _ _) _); refine lv0 (by repeat (first | exact mq0 | apply mq1 | apply mq2)) (by rfl) (by kernel_rfl) ?_) | ((with_reducible show holds _ _ _ _ (.unit (Instr.storeAt _ _ _) _) _); refine stU (by repeat (first | exact Upd.here | apply Upd.there | apply Upd.right)) (by kernel_rfl) (by rfl) (by simp [Value.cells]) ?_) | ((with_reducible show holds _ _ _ _ (.pin (vN (Instr.loadAt _ _)) _ _) _); first | refine pnA (by repeat (first | exact mq0 | apply mq1 | apply mq2)) (by rfl) (by kernel_rfl) ?_ | refine pn1 (by repeat (first | exact mq0 | apply mq1 | apply mq2)) (by rfl) (by kernel_rfl) ?_)); try dsimp only [getL]))
    exact h_end0 ⟨rfl, rfl⟩
  rw [if_neg (by simpa using t1)]
  refine h_call0 (fun _ => { i := (maskOf n : Nat) }) ca_prefix_Mask (fun hl => mask_spec hn) rfl ?_
  dsimp only
  rw [and_maskOf ha (by simp at t0; omega) (by simp at t1; omega)]
  (repeat ((first | refine h_box fun _ _ _ => ?_ | ((with_reducible show holds _ _ _ _ (.sem (Instr.alloc 24 _ _) _ _) _); refine h_alloc zb_Prefix fun _ _ _ => ?_) | ((with_reducible show holds _ _ _ _ (.rd (Instr.loadAt _ (.pointer _)) _ _) _); first | refine ldI (by repeat (first | exact mq0 | apply mq1 | apply mq2)) (by rfl) (by kernel_rfl) ?_ | refine la0 (by repeat (first | exact mq0 | apply mq1 | apply mq2)) (by rfl) (by kernel_rfl) ?_) | ((with_reducible show holds _ _ _ _ (.rd (loadVar _ _) _ _) _); refine lv0 (by repeat (first | exact mq0 | apply mq1 | apply mq2)) (by rfl) (by kernel_rfl) ?_) | ((with_reducible show holds _ _ _ _ (.unit (Instr.storeAt _ _ _) _) _); refine stU (by repeat (first | exact Upd.here | apply Upd.there | apply Upd.right)) (by kernel_rfl) (by rfl) (by simp [Value.cells]) ?_) | ((with_reducible show holds _ _ _ _ (.pin (vN (Instr.loadAt _ _)) _ _) _); first | refine pnA (by repeat (first | exact mq0 | apply mq1 | apply mq2)) (by rfl) (by kernel_rfl) ?_ | refine pn1 (by repeat (first | exact mq0 | apply mq1 | apply mq2)) (by rfl) (by kernel_rfl) ?_)); try dsimp only [getL]))
  exact h_end0 ⟨rfl, rfl⟩
theorem rmake_spec {I : Ctx} {a : Nat} {n : Int} (ha : a < 4294967296) (hn : R64 n) : Fn Tryd.prog 24 #[.int .u32 (a : Int), .int .i64 n] I [] (fun v h' => v = resM (makeP a n) ∧ h' = []) := by
  refine r_octroiref02_Make _ _ ?_
  (repeat ((first | refine h_box fun _ _ _ => ?_ | ((with_reducible show holds _ _ _ _ (.sem (Instr.alloc 24 _ _) _ _) _); refine h_alloc zb_Prefix fun _ _ _ => ?_) | ((with_reducible show holds _ _ _ _ (.rd (Instr.loadAt _ (.pointer _)) _ _) _); first | refine ldI (by repeat (first | exact mq0 | apply mq1 | apply mq2)) (by rfl) (by kernel_rfl) ?_ | refine la0 (by repeat (first | exact mq0 | apply mq1 | apply mq2)) (by rfl) (by kernel_rfl) ?_) | ((with_reducible show holds _ _ _ _ (.rd (loadVar _ _) _ _) _); refine lv0 (by repeat (first | exact mq0 | apply mq1 | apply mq2)) (by rfl) (by kernel_rfl) ?_) | ((with_reducible show holds _ _ _ _ (.unit (Instr.storeAt _ _ _) _) _); refine stU (by repeat (first | exact Upd.here | apply Upd.there | apply Upd.right)) (by kernel_rfl) (by rfl) (by simp [Value.cells]) ?_) | ((with_reducible show holds _ _ _ _ (.pin (vN (Instr.loadAt _ _)) _ _) _); first | refine pnA (by repeat (first | exact mq0 | apply mq1 | apply mq2)) (by rfl) (by kernel_rfl) ?_ | refine pn1 (by repeat (first | exact mq0 | apply mq1 | apply mq2)) (by rfl) (by kernel_rfl) ?_)); try dsimp only [getL]))
  unfold makeP
  refine h_ite (fun t0 => ?_) (fun t0 => ?_)
  · rw [if_pos (by simpa using t0)]
    (repeat ((first | refine h_box fun _ _ _ => ?_ | ((with_reducible show holds _ _ _ _ (.sem (Instr.alloc 24 _ _) _ _) _); refine h_alloc zb_Prefix fun _ _ _ => ?_) | ((with_reducible show holds _ _ _ _ (.rd (Instr.loadAt _ (.pointer _)) _ _) _); first | refine ldI (by repeat (first | exact mq0 | apply mq1 | apply mq2)) (by rfl) (by kernel_rfl) ?_ | refine la0 (by repeat (first | exact mq0 | apply mq1 | apply mq2)) (by rfl) (by kernel_rfl) ?_) | ((with_reducible show holds _ _ _ _ (.rd (loadVar _ _) _ _) _); refine lv0 (by repeat (first | exact mq0 | apply mq1 | apply mq2)) (by rfl) (by kernel_rfl) ?_) | ((with_reducible show holds _ _ _ _ (.unit (Instr.storeAt _ _ _) _) _); refine stU (by repeat (first | exact Upd.here | apply Upd.there | apply Upd.right)) (by kernel_rfl) (by rfl) (by simp [Value.cells]) ?_) | ((with_reducible show holds _ _ _ _ (.pin (vN (Instr.loadAt _ _)) _ _) _); first | refine pnA (by repeat (first | exact mq0 | apply mq1 | apply mq2)) (by rfl) (by kernel_rfl) ?_ | refine pn1 (by repeat (first | exact mq0 | apply mq1 | apply mq2)) (by rfl) (by kernel_rfl) ?_)); try dsimp only [getL]))
    exact h_end0 ⟨rfl, rfl⟩
  rw [if_neg (by simpa using t0)]
  refine h_ite (fun t1 => ?_) (fun t1 => ?_)
  · rw [if_pos (by simpa using t1)]
    (repeat ((first | refine h_box fun _ _ _ => ?_ | ((with_reducible show holds _ _ _ _ (.sem (Instr.alloc 24 _ _) _ _) _); refine h_alloc zb_Prefix fun _ _ _ => ?_) | ((with_reducible show holds _ _ _ _ (.rd (Instr.loadAt _ (.pointer _)) _ _) _); first | refine ldI (by repeat (first | exact mq0 | apply mq1 | apply mq2)) (by rfl) (by kernel_rfl) ?_ | refine la0 (by repeat (first | exact mq0 | apply mq1 | apply mq2)) (by rfl) (by kernel_rfl) ?_) | ((with_reducible show holds _ _ _ _ (.rd (loadVar _ _) _ _) _); refine lv0 (by repeat (first | exact mq0 | apply mq1 | apply mq2)) (by rfl) (by kernel_rfl) ?_) | ((with_reducible show holds _ _ _ _ (.unit (Instr.storeAt _ _ _) _) _); refine stU (by repeat (first | exact Upd.here | apply Upd.there | apply Upd.right)) (by kernel_rfl) (by rfl) (by simp [Value.cells]) ?_) | ((with_reducible show holds _ _ _ _ (.pin (vN (Instr.loadAt _ _)) _ _) _); first | refine pnA (by repeat (first | exact mq0 | apply mq1 | apply mq2)) (by rfl) (by kernel_rfl) ?_ | refine pn1 (by repeat (first | exact mq0 | apply mq1 | apply mq2)) (by rfl) (by kernel_rfl) ?_)); try dsimp only [getL]))
    exact h_end0 ⟨rfl, rfl⟩
  rw [if_neg (by simpa using t1)]
  refine h_call0 (fun _ => { i := (maskOf n : Nat) }) ca_octroiref02_Mask (fun hl => rmask_spec hn) rfl ?_
  dsimp only
  rw [and_maskOf ha (by simp at t0; omega) (by simp at t1; omega)]
  (repeat ((first | refine h_box fun _ _ _ => ?_ | ((with_reducible show holds _ _ _ _ (.sem (Instr.alloc 24 _ _) _ _) _); refine h_alloc zb_Prefix fun _ _ _ => ?_) | ((with_reducible show holds _ _ _ _ (.rd (Instr.loadAt _ (.pointer _)) _ _) _); first | refine ldI (by repeat (first | exact mq0 | apply mq1 | apply mq2)) (by rfl) (by kernel_rfl) ?_ | refine la0 (by repeat (first | exact mq0 | apply mq1 | apply mq2)) (by rfl) (by kernel_rfl) ?_) | ((with_reducible show holds _ _ _ _ (.rd (loadVar _ _) _ _) _); refine lv0 (by repeat (first | exact mq0 | apply mq1 | apply mq2)) (by rfl) (by kernel_rfl) ?_) | ((with_reducible show holds _ _ _ _ (.unit (Instr.storeAt _ _ _) _) _); refine stU (by repeat (first | exact Upd.here | apply Upd.there | apply Upd.right)) (by kernel_rfl) (by rfl) (by simp [Value.cells]) ?_) | ((with_reducible show holds _ _ _ _ (.pin (vN (Instr.loadAt _ _)) _ _) _); first | refine pnA (by repeat (first | exact mq0 | apply mq1 | apply mq2)) (by rfl) (by kernel_rfl) ?_ | refine pn1 (by repeat (first | exact mq0 | apply mq1 | apply mq2)) (by rfl) (by kernel_rfl) ?_)); try dsimp only [getL]))
  exact h_end0 ⟨rfl, rfl⟩
end Go.Proofs.YtenlioajflbegaaDoorS
