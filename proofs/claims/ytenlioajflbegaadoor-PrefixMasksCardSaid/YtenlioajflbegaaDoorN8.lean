import Derived.Test.YtenlioajflbegaaDoorN7
import Derived.Test.YtenlioajflbegaaDoorTA
set_option linter.unusedVariables false
namespace Go.Proofs.YtenlioajflbegaaDoorS
theorem h_byteS {P : Program} {I : Ctx} {f : FuncId} {Q : Value → Mem → Prop} {h : Mem} {k : (Nat → Leaf) → Tr} {t : TypeId} {l : List UInt8} {ik : IntKind} {x : Int} {b : UInt8} (i : Nat) (hb : l[i]? = some b) (hx : x = (i : Int)) (ht : P.underlying t = some .string)
    (hk : holds P f I Q (k fun _ => { i := (b.toNat : Int) }) h) : holds P f I Q (.rd (Instr.index t (.string (bS l)) (.int ik x)) (.one (.sc (.int .u8))) k) h := by
  subst hx
  obtain ⟨hlt, he⟩ := List.getElem?_eq_some_iff.1 hb
  refine h_rd _ (rw_indexS ht (by omega) (by rw [bS_size]; simpa using hlt) ?_) hk
  subst he
  rfl
theorem itoa_len (n : Int) (hn : -9223372036854775808 ≤ n ∧ n ≤ 9223372036854775807) : (Lib.itoa n).length ≤ 100 := (showL_len 0 n hn).2
theorem dig_byte {n : Nat} (h : n < 10) : IntKind.wrap .u8 (IntKind.wrap .i64 (48 + (n : Int))) = (((UInt8.ofNat (48 + n)).toNat : Nat) : Int) := by
  rw [wrap64 (by omega), wrap8, toNat_ofNat']
  omega
theorem digits_nat : ∀ (n : Nat), n ≤ 9223372036854775807 → ∀ I : Ctx,
    Fn Tryd.prog 34 #[.int .i64 (n : Int)] I [] (fun v h' => v = .string (bS (Lib.decDigits n)) ∧ h' = []) := by
  intro n
  induction n using Nat.strongRecOn with
  | _ n ih =>
    intro hn I
    refine r_octroiref02_digits _ ?_
    refine h_no (by simp) ?_
    refine h_ite (fun t0 => ?_) (fun t0 => ?_)
    · have h0 : n < 10 := by simp at t0; omega
      rw [dig_byte h0]
      refine h_row (e := 5) #[.int .u8 (((UInt8.ofNat (48 + n)).toNat : Nat) : Int)] (by kernel_rfl) fun g2 hg2 hI2 => ?_
      dsimp only
      refine h_toString (e := 5) (l := [UInt8.ofNat (48 + n)]) (by kernel_rfl) (by kernel_rfl) (by kernel_rfl) rfl (fun _ => ⟨_, rfl, cellsM' (by repeat (first | exact mq0 | apply mq1 | apply mq2)) rfl⟩) (by simp) ?_
      dsimp only
      refine h_end0 ⟨?_, rfl⟩
      rw [Lib.decDigits_one h0]
    · have h0 : ¬ n < 10 := by simp at t0; omega
      have e1 : IntKind.wrap .i64 (Int.tdiv (n : Int) 10) = ((n / 10 : Nat) : Int) := by
        rw [Int.tdiv_eq_ediv_of_nonneg (by omega), wrap64 (by omega)]; omega
      have e2 : Int.tmod (n : Int) 10 = ((n % 10 : Nat) : Int) := by rw [Int.tmod_eq_emod_of_nonneg (by omega)]; omega
      simp only [e1, e2]
      refine h_pcall (fun _ => { s := bS (Lib.decDigits (n / 10)) }) ca_octroiref02_digits (by kernel_rfl) (fun h hl => ih (n / 10) (by omega) (by omega) _) rfl ?_
      rw [dig_byte (Nat.mod_lt n (by decide))]
      refine h_row (e := 5) #[.int .u8 (((UInt8.ofNat (48 + n % 10)).toNat : Nat) : Int)] (by kernel_rfl) fun g2 hg2 hI2 => ?_
      dsimp only
      refine h_toString (e := 5) (l := [UInt8.ofNat (48 + n % 10)]) (by kernel_rfl) (by kernel_rfl) (by kernel_rfl) rfl (fun _ => ⟨_, rfl, cellsM' (by repeat (first | exact mq0 | apply mq1 | apply mq2)) rfl⟩) (by simp) ?_
      dsimp only
      have hlen := itoa_len ((n / 10 : Nat) : Int) (by omega)
      rw [itoa_nat] at hlen
      refine h_addS (by simp; omega) ?_
      refine h_end0 ⟨?_, rfl⟩
      rw [Lib.decDigits.eq_def n, dif_neg h0]
theorem digits_spec {I : Ctx} {n : Int} (hn : -9223372036854775807 ≤ n ∧ n ≤ 9223372036854775807) :
    Fn Tryd.prog 34 #[.int .i64 n] I [] (fun v h' => v = .string (bS (Lib.itoa n)) ∧ h' = []) := by
  by_cases h : n < 0
  · refine r_octroiref02_digits _ ?_
    refine h_yes (by simpa using h) ?_
    rw [wrap64 (x := 0 - n) (by omega), show (0 : Int) - n = ((n.natAbs : Nat) : Int) by omega]
    refine h_call0 (fun _ => { s := bS (Lib.decDigits n.natAbs) }) ca_octroiref02_digits (fun hl => digits_nat n.natAbs (by omega) _) rfl ?_
    dsimp only
    have hlen := itoa_len ((n.natAbs : Nat) : Int) (by omega)
    rw [itoa_nat] at hlen
    refine h_addS (x := [45]) (by simp; omega) ?_
    refine h_end0 ⟨?_, rfl⟩
    unfold Lib.itoa
    rw [if_pos h]
    rfl
  · obtain ⟨k, rfl⟩ := Int.eq_ofNat_of_zero_le (by omega : 0 ≤ n)
    rw [itoa_nat]
    exact digits_nat k (by omega) I
theorem part_tmod {a i : Nat} (ha : a < 4294967296) (hi : i < 4) : IntKind.wrap .i64 (Int.tmod (Int.fdiv (a : Int) (2 ^ (min (Int.toNat ((8 * (3 - i) : Nat) : Int)) 32))) 256) = ((part a i : Nat) : Int) := by
  rw [show min (Int.toNat ((8 * (3 - i) : Nat) : Int)) 32 = 8 * (3 - i) by rw [Int.toNat_natCast]; omega, fdiv_pow]
  have := part_lt a i
  unfold part at this ⊢
  generalize a / 2 ^ (8 * (3 - i)) = z at this ⊢
  rw [Int.tmod_eq_emod_of_nonneg (by omega), show (z : Int) % 256 = ((z % 256 : Nat) : Int) by omega]
  exact wrap64 (by omega)
set_option maxRecDepth 20000 in
set_option maxHeartbeats 1000000 in
theorem rshow_spec {I : Ctx} {a : Nat} {n : Int} (ha : a < 4294967296) (hn : -9223372036854775807 ≤ n ∧ n ≤ 9223372036854775807) :
    Fn Tryd.prog 15 #[.agg #[.int .u32 (a : Int), .int .i64 n]] I [] (fun v h' => v = .string (bS (showL a n)) ∧ h' = []) := by
  have hb : IntKind.bits .u32 = 32 := rfl
  have l0 := dec_len (part_lt a 0)
  have l1 := dec_len (part_lt a 1)
  have l2 := dec_len (part_lt a 2)
  have l3 := dec_len (part_lt a 3)
  have ln := itoa_len n (by omega)
  refine r_octroiref02_Show _ _ ?_
  ((first | refine h_box fun _ _ _ => ?_ | ((with_reducible show holds _ _ _ _ (.rd (Instr.loadAt _ (.pointer _)) _ _) _); refine ldI (by repeat (first | exact mq0 | apply mq1 | apply mq2)) (by rfl) (by kernel_rfl) ?_)); try dsimp only [getL])
  refine h_stop fun hl2 => ?_
  show Wp _ _ _ (t_octroiref02_Show_1 _ (bS []) 24 _) _ _ _
  refine r_octroiref02_Show_1 _ _ _ _ ?_
  refine h_yes (by decide) ?_
  ((first | refine h_box fun _ _ _ => ?_ | ((with_reducible show holds _ _ _ _ (.rd (Instr.loadAt _ (.pointer _)) _ _) _); refine ldI (by repeat (first | exact mq0 | apply mq1 | apply mq2)) (by rfl) (by kernel_rfl) ?_)); try dsimp only [getL])
  rw [show IntKind.wrap .u64 (24 : Int) = ((8 * (3 - 0) : Nat) : Int) from by decide]
  refine h_shr (by omega) ?_
  dsimp only
  rw [hb, part_tmod ha (by decide)]
  refine h_call0 (fun _ => { s := bS (Lib.decDigits (part a 0)) }) ca_octroiref02_digits (fun hl => digits_nat (part a 0) (by have := part_lt a 0; omega) _) rfl ?_
  dsimp only
  refine h_addS (by simp; omega) ?_
  dsimp only
  refine h_yes (by decide) ?_
  refine h_addS (y := [46]) (by simp; omega) ?_
  dsimp only
  refine h_stop fun hl2 => ?_
  rw [show IntKind.wrap .i64 (24 - 8 : Int) = 16 from by decide]
  refine r_octroiref02_Show_1 _ _ _ _ ?_
  refine h_yes (by decide) ?_
  ((first | refine h_box fun _ _ _ => ?_ | ((with_reducible show holds _ _ _ _ (.rd (Instr.loadAt _ (.pointer _)) _ _) _); refine ldI (by repeat (first | exact mq0 | apply mq1 | apply mq2)) (by rfl) (by kernel_rfl) ?_)); try dsimp only [getL])
  rw [show IntKind.wrap .u64 (16 : Int) = ((8 * (3 - 1) : Nat) : Int) from by decide]
  refine h_shr (by omega) ?_
  dsimp only
  rw [hb, part_tmod ha (by decide)]
  refine h_call0 (fun _ => { s := bS (Lib.decDigits (part a 1)) }) ca_octroiref02_digits (fun hl => digits_nat (part a 1) (by have := part_lt a 1; omega) _) rfl ?_
  dsimp only
  refine h_addS (by simp; omega) ?_
  dsimp only
  refine h_yes (by decide) ?_
  refine h_addS (y := [46]) (by simp; omega) ?_
  dsimp only
  refine h_stop fun hl2 => ?_
  rw [show IntKind.wrap .i64 (16 - 8 : Int) = 8 from by decide]
  refine r_octroiref02_Show_1 _ _ _ _ ?_
  refine h_yes (by decide) ?_
  ((first | refine h_box fun _ _ _ => ?_ | ((with_reducible show holds _ _ _ _ (.rd (Instr.loadAt _ (.pointer _)) _ _) _); refine ldI (by repeat (first | exact mq0 | apply mq1 | apply mq2)) (by rfl) (by kernel_rfl) ?_)); try dsimp only [getL])
  rw [show IntKind.wrap .u64 (8 : Int) = ((8 * (3 - 2) : Nat) : Int) from by decide]
  refine h_shr (by omega) ?_
  dsimp only
  rw [hb, part_tmod ha (by decide)]
  refine h_call0 (fun _ => { s := bS (Lib.decDigits (part a 2)) }) ca_octroiref02_digits (fun hl => digits_nat (part a 2) (by have := part_lt a 2; omega) _) rfl ?_
  dsimp only
  refine h_addS (by simp; omega) ?_
  dsimp only
  refine h_yes (by decide) ?_
  refine h_addS (y := [46]) (by simp; omega) ?_
  dsimp only
  refine h_stop fun hl2 => ?_
  rw [show IntKind.wrap .i64 (8 - 8 : Int) = 0 from by decide]
  refine r_octroiref02_Show_1 _ _ _ _ ?_
  refine h_yes (by decide) ?_
  ((first | refine h_box fun _ _ _ => ?_ | ((with_reducible show holds _ _ _ _ (.rd (Instr.loadAt _ (.pointer _)) _ _) _); refine ldI (by repeat (first | exact mq0 | apply mq1 | apply mq2)) (by rfl) (by kernel_rfl) ?_)); try dsimp only [getL])
  rw [show IntKind.wrap .u64 (0 : Int) = ((8 * (3 - 3) : Nat) : Int) from by decide]
  refine h_shr (by omega) ?_
  dsimp only
  rw [hb, part_tmod ha (by decide)]
  refine h_call0 (fun _ => { s := bS (Lib.decDigits (part a 3)) }) ca_octroiref02_digits (fun hl => digits_nat (part a 3) (by have := part_lt a 3; omega) _) rfl ?_
  dsimp only
  refine h_addS (by simp; omega) ?_
  dsimp only
  refine h_no (by decide) ?_
  refine h_stop fun hl2 => ?_
  rw [show IntKind.wrap .i64 (0 - 8 : Int) = -8 from by decide]
  refine r_octroiref02_Show_1 _ _ _ _ ?_
  refine h_no (by decide) ?_
  refine h_addS (y := [47]) (by simp; omega) ?_
  dsimp only
  ((first | refine h_box fun _ _ _ => ?_ | ((with_reducible show holds _ _ _ _ (.rd (Instr.loadAt _ (.pointer _)) _ _) _); refine ldI (by repeat (first | exact mq0 | apply mq1 | apply mq2)) (by rfl) (by kernel_rfl) ?_)); try dsimp only [getL])
  refine h_call0 (fun _ => { s := bS (Lib.itoa n) }) ca_octroiref02_digits (fun hl => digits_spec hn) rfl ?_
  dsimp only
  refine h_addS (by simp; omega) ?_
  refine h_end0 ⟨?_, rfl⟩
  rw [showL_eq]
  simp
end Go.Proofs.YtenlioajflbegaaDoorS
