import Derived.Test.YtahllmihgpaaeaaN10
set_option linter.unusedVariables false
namespace Go.Proofs.YtahllmihgpaaeaaS
/-- The number of k bytes at place i. -/
def num (l : List UInt8) (i k : Nat) : Nat := val ((l.drop i).take k)
theorem num_lt (l : List UInt8) (i k : Nat) : num l i k < 256 ^ k := by
  have h := val_lt ((l.drop i).take k)
  have h2 : 256 ^ ((l.drop i).take k).length ≤ 256 ^ k := Nat.pow_le_pow_right (by omega) (by simp; omega)
  unfold num
  omega
theorem getB_in {l : List UInt8} {i k : Nat} (h : i + k ≤ l.length) : getB l (i : Int) k = some (num l i k) := by
  unfold getB num
  rw [if_pos (by omega), Int.toNat_natCast]
/-- What 20 bytes are as an entry. -/
def readEnt (l : List UInt8) : Ent := ⟨num l 4 4, ((bitsOf (num l 8 4)).getD 0 : Nat), num l 2 2, num l 12 4, num l 16 4⟩
theorem bitsOf_le (m : Nat) : (bitsOf m).getD 0 ≤ 32 := by
  cases h : bitsOf m with
  | none => simp
  | some k =>
    have h2 := List.mem_range.1 (List.mem_of_find?_eq_some h)
    simp only [Option.getD_some]
    omega
theorem readEnt_ok (l : List UInt8) : (readEnt l).ok := by
  have h1 := num_lt l 4 4
  have h2 := num_lt l 2 2
  have h3 := num_lt l 12 4
  have h4 := num_lt l 16 4
  have h5 := bitsOf_le (num l 8 4)
  exact ⟨h1, ⟨by show _ ≤ (((bitsOf (num l 8 4)).getD 0 : Nat) : Int); omega, by show (((bitsOf (num l 8 4)).getD 0 : Nat) : Int) ≤ _; omega⟩, h2, h3, ⟨by show _ ≤ ((num l 16 4 : Nat) : Int); omega, by show ((num l 16 4 : Nat) : Int) ≤ _; omega⟩⟩
/-- Are they one? -/
def readOk (l : List UInt8) : Bool := (bitsOf (num l 8 4)).isSome && (entB (readEnt l) && (l[0]? == some 0 && l[1]? == some 2))
theorem get32_in {I : Ctx} {A : Option Addr} {n c : Nat} {l : List UInt8} {i : Nat} (hr : RdB I A n l) (hn : n ≤ c) (hc : n ≤ maxLen) (hi : i + 4 ≤ l.length) (hi2 : i < 1000000) :
    Fn Try.prog 40 #[.slice A n c, .int .i64 (i : Int)] I [] (fun v h' => v = .tuple #[.int .u32 (num l i 4 : Nat), .bool true] ∧ h' = []) := by
  have h := Get32_spec (i := (i : Int)) hr hn hc (by simp [Lit.wf, IntKind.min, IntKind.max, IntKind.signed, IntKind.bits]; omega)
  rw [getB_in hi] at h
  exact h
theorem get16_in {I : Ctx} {A : Option Addr} {n c : Nat} {l : List UInt8} {i : Nat} (hr : RdB I A n l) (hn : n ≤ c) (hc : n ≤ maxLen) (hi : i + 2 ≤ l.length) (hi2 : i < 1000000) :
    Fn Try.prog 41 #[.slice A n c, .int .i64 (i : Int)] I [] (fun v h' => v = .tuple #[.int .u16 (num l i 2 : Nat), .bool true] ∧ h' = []) := by
  have h := Get16_spec (i := (i : Int)) hr hn hc (by simp [Lit.wf, IntKind.min, IntKind.max, IntKind.signed, IntKind.bits]; omega)
  rw [getB_in hi] at h
  exact h
theorem byte_beq (b k : UInt8) : ((some b : Option UInt8) == some k) = (((b.toNat : Nat) : Int) == ((k.toNat : Nat) : Int)) := by
  rw [Bool.eq_iff_iff]
  simp only [beq_iff_eq, Option.some.injEq]
  rw [← UInt8.toNat_inj]
  omega
theorem get_spec' {I : Ctx} {A : Option Addr} {c : Nat} {l : List UInt8} (hr : RdB I A 20 l) (hn : 20 ≤ c) :
    Fn Try.prog 35 #[.slice A 20 c] I [] (fun v h' => v = .tuple #[(readEnt l).v, .bool (readOk l)] ∧ h' = []) := by
  have hlen := hr.len
  have hc : 20 ≤ maxLen := by unfold maxLen; omega
  have up : ∀ {h : Mem}, Live I h → RdB (plus I h) A 20 l := fun hl => hr.up (Sub.self.up hl)
  refine r_rippkt_get _ _ _ ?_
  refine h_alloc zb_RipEntry_41 fun g hg hI => ?_
  refine h_call0 (getL [{ i := (num l 8 4 : Nat) }, { b := true }]) ca_num_Get32 (fun hl => get32_in (i := 8) (up hl) hn hc (by omega) (by omega)) rfl ?_
  refine h_call0 (getL [{ i := (num l 16 4 : Nat) }, { b := true }]) ca_num_Get32 (fun hl => get32_in (i := 16) (up hl) hn hc (by omega) (by omega)) rfl ?_
  refine h_call0 (getL [{ i := (num l 2 2 : Nat) }, { b := true }]) ca_num_Get16 (fun hl => get16_in (i := 2) (up hl) hn hc (by omega) (by omega)) rfl ?_
  dsimp only [getL]
  refine h_store 0 rfl (by kernel_rfl) (Nat.le_of_ble_eq_true rfl) (by simp [Value.cells]) ?_
  refine h_call0 (getL [{ i := (num l 4 4 : Nat) }, { b := true }]) ca_num_Get32 (fun hl => get32_in (i := 4) (up hl) hn hc (by omega) (by omega)) rfl ?_
  dsimp only [getL]
  refine h_store 0 rfl (by kernel_rfl) (Nat.le_of_ble_eq_true rfl) (by simp [Value.cells]) ?_
  refine h_call0 (getL [{ i := ((bitsOf (num l 8 4)).getD 0 : Nat) }, { b := (bitsOf (num l 8 4)).isSome }]) ca_prefix_Bits (fun hl => bits_spec (num_lt l 8 4)) rfl ?_
  dsimp only [getL]
  refine h_store 0 rfl (by kernel_rfl) (Nat.le_of_ble_eq_true rfl) (by simp [Value.cells]) ?_
  refine h_call0 (getL [{ i := (num l 12 4 : Nat) }, { b := true }]) ca_num_Get32 (fun hl => get32_in (i := 12) (up hl) hn hc (by omega) (by omega)) rfl ?_
  dsimp only [getL]
  refine h_store 0 rfl (by kernel_rfl) (Nat.le_of_ble_eq_true rfl) (by simp [Value.cells]) ?_
  have hm16 := num_lt l 16 4
  rw [wrap64 (x := ((num l 16 4 : Nat) : Int)) (by omega)]
  refine h_store 0 rfl (by kernel_rfl) (Nat.le_of_ble_eq_true rfl) (by simp [Value.cells]) ?_
  have fin : ∀ b : Bool, readOk l = b → holds Try.prog 35 I (cl_ fun v h' => v = .tuple #[(readEnt l).v, .bool (readOk l)] ∧ h' = []) (.rd (loadVar 41 ⟨g, 0, none⟩) (.one (.agg [.int .u32, .int .i64, .int .u16, .int .u32, .int .i64])) fun l15 =>
      .done (.tuple #[.agg #[.int .u32 ((l15 0).i), .int .i64 ((l15 1).i), .int .u16 ((l15 2).i), .int .u32 ((l15 3).i), .int .i64 ((l15 4).i)], .bool b])) [(g, .cells #[.int .u32 (num l 4 4 : Nat), .int .i64 ((bitsOf (num l 8 4)).getD 0 : Nat), .int .u16 (num l 2 2 : Nat), .int .u32 (num l 12 4 : Nat), .int .i64 (num l 16 4 : Nat)] 41 (0, 0))] := by
    intro b hb
    refine h_loadVA (cs := (readEnt l).cs) (getL [{ i := (num l 4 4 : Nat) }, { i := ((bitsOf (num l 8 4)).getD 0 : Nat) }, { i := (num l 2 2 : Nat) }, { i := (num l 12 4 : Nat) }, { i := (num l 16 4 : Nat) }]) (by kernel_rfl) (by kernel_rfl) (cells_at (j := 0) rfl rfl) rfl ?_
    exact h_end0 ⟨by rw [hb]; rfl, rfl⟩
  refine h_loadA (cs := (readEnt l).cs) (getL [{ i := (num l 4 4 : Nat) }, { i := ((bitsOf (num l 8 4)).getD 0 : Nat) }, { i := (num l 2 2 : Nat) }, { i := (num l 12 4 : Nat) }, { i := (num l 16 4 : Nat) }]) (by kernel_rfl) (by kernel_rfl) (cells_at (j := 0) rfl rfl) rfl ?_
  dsimp only [getL]
  refine h_ite (fun t1 => ?_) (fun t1 => ?_)
  · refine h_loadA (cs := (readEnt l).cs) (getL [{ i := (num l 4 4 : Nat) }, { i := ((bitsOf (num l 8 4)).getD 0 : Nat) }, { i := (num l 2 2 : Nat) }, { i := (num l 12 4 : Nat) }, { i := (num l 16 4 : Nat) }]) (by kernel_rfl) (by kernel_rfl) (cells_at (j := 0) rfl rfl) rfl ?_
    dsimp only [getL]
    refine h_call0 (v := .bool (entB (readEnt l))) (fun _ => { b := entB (readEnt l) }) ca_rippkt_may (fun hl => rpmay_spec (readEnt_ok l)) rfl ?_
    refine h_pin (rwp_vN (rw_loadA (cs := (readEnt l).cs) (by kernel_rfl) (by kernel_rfl) (cells_at (j := 0) rfl rfl) rfl)) ?_
    refine h_ite (fun t2 => ?_) (fun t2 => ?_)
    · obtain ⟨a, b0, rfl, hb0, hc0⟩ := hr.at (i := 0) (by omega)
      obtain ⟨a', b1, e, hb1, hc1⟩ := hr.at (i := 1) (by omega)
      injection e with e
      subst e
      refine h_index a rfl (sz := 1) (by kernel_rfl) (by omega) (by omega) rfl ?_
      refine h_loadI (by kernel_rfl) (hc0.sub Sub.self) ?_
      refine h_ite (fun t3 => ?_) (fun t3 => ?_)
      · refine h_index a rfl (sz := 1) (by kernel_rfl) (by omega) (by omega) rfl ?_
        refine h_loadI (by kernel_rfl) (hc1.sub Sub.self) ?_
        refine h_store 0 rfl (by kernel_rfl) (Nat.le_of_ble_eq_true rfl) (by simp [Value.cells]) ?_
        refine h_pin (rwp_vN (rw_load1 (by kernel_rfl) (hc1.sub Sub.self) rfl)) ?_
        refine h_pin (rwp_vN (rw_index (sz := 1) rfl (by kernel_rfl) (by omega) (by omega) rfl rfl)) ?_
        refine fin _ ?_
        have t2 : entB (readEnt l) = true := t2
        have t3 : (((b0.toNat : Nat) : Int) == 0) = true := t3
        unfold readOk
        rw [t1, t2, hb0, hb1, byte_beq, byte_beq]
        show (true && (true && ((((b0.toNat : Nat) : Int) == 0) && (((b1.toNat : Nat) : Int) == 2)))) = _
        rw [t3]
        rfl
      · refine h_store 0 rfl (by kernel_rfl) (Nat.le_of_ble_eq_true rfl) (by simp [Value.cells]) ?_
        refine fin false ?_
        have t2 : entB (readEnt l) = true := t2
        have t3 : (((b0.toNat : Nat) : Int) == 0) = false := t3
        unfold readOk
        rw [t1, t2, hb0, byte_beq]
        show (true && (true && ((((b0.toNat : Nat) : Int) == 0) && _))) = _
        rw [t3]
        rfl
    · refine h_store 0 rfl (by kernel_rfl) (Nat.le_of_ble_eq_true rfl) (by simp [Value.cells]) ?_
      refine fin false ?_
      have t2 : entB (readEnt l) = false := t2
      unfold readOk
      rw [t1, t2]
      rfl
  · refine h_store 0 rfl (by kernel_rfl) (Nat.le_of_ble_eq_true rfl) (by simp [Value.cells]) ?_
    refine fin false ?_
    unfold readOk
    rw [t1]
    rfl
end Go.Proofs.YtahllmihgpaaeaaS
