import Derived.Test.YtcfnliodgoenkaaN1
set_option linter.unusedVariables false
namespace Go.Proofs.YtcfnliodgoenkaaS
/-- The number of k bytes at place i. -/
def num (l : List UInt8) (i k : Nat) : Nat := val ((l.drop i).take k)
theorem num_lt (l : List UInt8) (i k : Nat) : num l i k < 256 ^ k := by
  have h := val_lt ((l.drop i).take k)
  have h2 : 256 ^ ((l.drop i).take k).length ≤ 256 ^ k := Nat.pow_le_pow_right (by omega) (by simp; omega)
  unfold num
  omega
theorem getB_in {l : List UInt8} {i k : Nat} (h : i + k ≤ l.length) : getB l (i : Int) k = some (num l i k) := by
  unfold getB num
  rw [if_pos (by omega), Int.toNat_natCast]
theorem get32_in {I : Ctx} {A : Option Addr} {n c : Nat} {l : List UInt8} {i : Nat} (hr : RdB I A n l) (hn : n ≤ c) (hc : n ≤ maxLen) (hi : i + 4 ≤ l.length) (hi2 : i < 1000000) :
    Fn Try.prog 66 #[.slice A n c, .int .i64 (i : Int)] I [] (fun v h' => v = .tuple #[.int .u32 (num l i 4 : Nat), .bool true] ∧ h' = []) := by
  have h := Get32_spec (i := (i : Int)) hr hn hc (by simp [Lit.wf, IntKind.min, IntKind.max, IntKind.signed, IntKind.bits]; omega)
  rw [getB_in hi] at h
  exact h
theorem get16_in {I : Ctx} {A : Option Addr} {n c : Nat} {l : List UInt8} {i : Nat} (hr : RdB I A n l) (hn : n ≤ c) (hc : n ≤ maxLen) (hi : i + 2 ≤ l.length) (hi2 : i < 1000000) :
    Fn Try.prog 50 #[.slice A n c, .int .i64 (i : Int)] I [] (fun v h' => v = .tuple #[.int .u16 (num l i 2 : Nat), .bool true] ∧ h' = []) := by
  have h := Get16_spec (i := (i : Int)) hr hn hc (by simp [Lit.wf, IntKind.min, IntKind.max, IntKind.signed, IntKind.bits]; omega)
  rw [getB_in hi] at h
  exact h
theorem rget_in {I : Ctx} {A : Option Addr} {n c i k : Nat} {l : List UInt8} (hr : RdB I A n l) (hn : n ≤ c) (hc : n ≤ maxLen) (hk : k ≤ 4) (hi : i + k ≤ l.length) :
    Fn Try.prog 54 #[.slice A n c, .int .i64 (i : Int), .int .i64 (k : Int)] I [] (fun v h' => v = .tuple #[.int .u32 (num l i k : Nat), .bool true] ∧ h' = []) := by
  have h := rget_spec (i := (i : Int)) (k := k) hr hk hn hc
  rw [getB_in hi] at h
  exact h
theorem byte_beq (b k : UInt8) : ((some b : Option UInt8) == some k) = (((b.toNat : Nat) : Int) == ((k.toNat : Nat) : Int)) := by
  rw [Bool.eq_iff_iff]
  simp only [beq_iff_eq, Option.some.injEq]
  rw [← UInt8.toNat_inj]
  omega
theorem num_at {l x y : List UInt8} {i k n : Nat} (hl : l = x ++ (be k n ++ y)) (hx : x.length = i) (hn : n < 256 ^ k) : num l i k = n := by
  unfold num
  have h1 : (l.drop i).take k = be k n := by
    rw [hl, ← hx, List.drop_left]
    exact List.take_left' (be_length k n)
  rw [h1, val_be, Nat.mod_eq_of_lt hn]
theorem be_num {l : List UInt8} {i k : Nat} (h : i + k ≤ l.length) : be k (num l i k) = (l.drop i).take k := by
  have h1 := be_val ((l.drop i).take k)
  have h2 : ((l.drop i).take k).length = k := by simp; omega
  rw [h2] at h1
  exact h1
theorem cut_app {l : List UInt8} (i k : Nat) : l.drop i = (l.drop i).take k ++ l.drop (i + k) := by
  rw [← List.drop_drop, List.take_append_drop]
end Go.Proofs.YtcfnliodgoenkaaS
