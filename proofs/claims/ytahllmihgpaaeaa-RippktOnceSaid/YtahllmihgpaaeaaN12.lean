import Derived.Test.YtahllmihgpaaeaaN11
set_option linter.unusedVariables false
namespace Go.Proofs.YtahllmihgpaaeaaS
theorem rentry_spec {I : Ctx} {e : Ent} (ho : e.ok) : Fn Try.prog 22 #[e.v] I [] (fun v h' => v = .bool (entB e) ∧ h' = []) := by
  refine r_octroiref05_entry _ _ _ _ _ ?_
  refine h_box fun g hg hI => ?_
  refine h_loadA (cs := [.int .u32 (e.a : Nat), .int .i64 e.n]) (getL [{ i := (e.a : Nat) }, { i := e.n }]) (by kernel_rfl) (by kernel_rfl) (cells_at (j := 0) rfl rfl) rfl ?_
  dsimp only [getL]
  refine h_call0 (fun _ => { b := mayB e.a e.n }) ca_octroiref02_May (fun hl => rmay_spec ho.a ho.n) rfl ?_
  refine h_ite (fun h0 => ?_) (fun h0 => ?_)
  · refine h_loadI (by kernel_rfl) (cell_own (j := 0) rfl rfl) ?_
    refine h_ite (fun h1 => ?_) (fun h1 => ?_)
    · refine h_loadI (by kernel_rfl) (cell_own (j := 0) rfl rfl) ?_
      refine h_end0 ⟨?_, rfl⟩
      dsimp only at h0 h1 ⊢
      unfold entB
      rw [h0]
      simp at h1
      simp [h1]
    · refine h_end0 ⟨?_, rfl⟩
      dsimp only at h0 h1 ⊢
      unfold entB
      rw [h0]
      simp at h1
      rw [decide_eq_false (p := 1 ≤ e.m) (by omega)]
      rfl
  · refine h_end0 ⟨?_, rfl⟩
    dsimp only at h0
    unfold entB
    rw [h0]
    rfl
theorem rget_in {I : Ctx} {A : Option Addr} {n c i k : Nat} {l : List UInt8} (hr : RdB I A n l) (hn : n ≤ c) (hc : n ≤ maxLen) (hk : k ≤ 4) (hi : i + k ≤ l.length) :
    Fn Try.prog 36 #[.slice A n c, .int .i64 (i : Int), .int .i64 (k : Int)] I [] (fun v h' => v = .tuple #[.int .u32 (num l i k : Nat), .bool true] ∧ h' = []) := by
  have h := rget_spec (i := (i : Int)) (k := k) hr hk hn hc
  rw [getB_in hi] at h
  exact h
theorem rread_spec {I : Ctx} {A : Option Addr} {c : Nat} {l : List UInt8} (hr : RdB I A 20 l) (hn : 20 ≤ c) :
    Fn Try.prog 27 #[.slice A 20 c] I [] (fun v h' => v = .tuple #[(readEnt l).v, .bool (readOk l)] ∧ h' = []) := by
  have hlen := hr.len
  have hc : 20 ≤ maxLen := by unfold maxLen; omega
  have up : ∀ {h : Mem}, Live I h → RdB (plus I h) A 20 l := fun hl => hr.up (Sub.self.up hl)
  refine r_octroiref05_read _ _ _ ?_
  refine h_alloc zb_RipEntry_41 fun g hg hI => ?_
  refine h_call0 (getL [{ i := (num l 2 2 : Nat) }, { b := true }]) ca_octroiref01_Get (fun hl => rget_in (i := 2) (k := 2) (up hl) hn hc (by omega) (by omega)) rfl ?_
  refine h_call0 (getL [{ i := (num l 4 4 : Nat) }, { b := true }]) ca_octroiref01_Get (fun hl => rget_in (i := 4) (k := 4) (up hl) hn hc (by omega) (by omega)) rfl ?_
  refine h_call0 (getL [{ i := (num l 8 4 : Nat) }, { b := true }]) ca_octroiref01_Get (fun hl => rget_in (i := 8) (k := 4) (up hl) hn hc (by omega) (by omega)) rfl ?_
  refine h_call0 (getL [{ i := (num l 12 4 : Nat) }, { b := true }]) ca_octroiref01_Get (fun hl => rget_in (i := 12) (k := 4) (up hl) hn hc (by omega) (by omega)) rfl ?_
  refine h_call0 (getL [{ i := (num l 16 4 : Nat) }, { b := true }]) ca_octroiref01_Get (fun hl => rget_in (i := 16) (k := 4) (up hl) hn hc (by omega) (by omega)) rfl ?_
  refine h_call0 (getL [{ i := ((bitsOf (num l 8 4)).getD 0 : Nat) }, { b := (bitsOf (num l 8 4)).isSome }]) ca_octroiref02_Bits (fun hl => rbits_spec) rfl ?_
  dsimp only [getL]
  have hm16 := num_lt l 16 4
  have hm2 := num_lt l 2 2
  rw [wrap64 (x := ((num l 16 4 : Nat) : Int)) (by omega), wrap16n (by omega)]
  refine h_alloc zb_RipEntry_41 fun g8 hg8 hI8 => ?_
  refine h_store 0 rfl (by kernel_rfl) (Nat.le_of_ble_eq_true rfl) (by simp [Value.cells]) ?_
  refine h_loadA (cs := (readEnt l).cs) (getL [{ i := (num l 4 4 : Nat) }, { i := ((bitsOf (num l 8 4)).getD 0 : Nat) }, { i := (num l 2 2 : Nat) }, { i := (num l 12 4 : Nat) }, { i := (num l 16 4 : Nat) }]) (by kernel_rfl) (by kernel_rfl) (cells_at (j := 0) rfl rfl) rfl ?_
  dsimp only [getL]
  refine h_call0 (v := .bool (entB (readEnt l))) (fun _ => { b := entB (readEnt l) }) ca_octroiref05_entry (fun hl => rentry_spec (readEnt_ok l)) rfl ?_
  refine h_loadA (cs := (readEnt l).cs) (getL [{ i := (num l 4 4 : Nat) }, { i := ((bitsOf (num l 8 4)).getD 0 : Nat) }, { i := (num l 2 2 : Nat) }, { i := (num l 12 4 : Nat) }, { i := (num l 16 4 : Nat) }]) (by kernel_rfl) (by kernel_rfl) (cells_at (j := 0) rfl rfl) rfl ?_
  dsimp only [getL]
  have fin : ∀ b : Bool, readOk l = b → holds Try.prog 27 I (cl_ fun v h' => v = .tuple #[(readEnt l).v, .bool (readOk l)] ∧ h' = []) (.rd (loadVar 41 ⟨g, 0, none⟩) (.one (.agg [.int .u32, .int .i64, .int .u16, .int .u32, .int .i64])) fun l15 =>
      .done (.tuple #[.agg #[.int .u32 ((l15 0).i), .int .i64 ((l15 1).i), .int .u16 ((l15 2).i), .int .u32 ((l15 3).i), .int .i64 ((l15 4).i)], .bool b])) [(g8, .cells (readEnt l).v.cells 41 (0, 0)), (g, .cells #[.int .u32 (num l 4 4 : Nat), .int .i64 ((bitsOf (num l 8 4)).getD 0 : Nat), .int .u16 (num l 2 2 : Nat), .int .u32 (num l 12 4 : Nat), .int .i64 (num l 16 4 : Nat)] 41 (0, 0))] := by
    intro b hb
    refine h_loadVA (cs := (readEnt l).cs) (getL [{ i := (num l 4 4 : Nat) }, { i := ((bitsOf (num l 8 4)).getD 0 : Nat) }, { i := (num l 2 2 : Nat) }, { i := (num l 12 4 : Nat) }, { i := (num l 16 4 : Nat) }]) (by kernel_rfl) (by kernel_rfl) (cells_at (j := 1) rfl rfl) rfl ?_
    exact h_end0 ⟨by rw [hb]; rfl, rfl⟩
  refine h_ite (fun t1 => ?_) (fun t1 => ?_)
  · skip
    refine h_ite (fun t2 => ?_) (fun t2 => ?_)
    · obtain ⟨a, b0, rfl, hb0, hc0⟩ := hr.at (i := 0) (by omega)
      obtain ⟨a', b1, e, hb1, hc1⟩ := hr.at (i := 1) (by omega)
      injection e with e
      subst e
      refine h_index a rfl (sz := 1) (by kernel_rfl) (by omega) (by omega) rfl ?_
      refine h_loadI (by kernel_rfl) (hc0.sub Sub.self) ?_
      refine h_ite (fun t3 => ?_) (fun t3 => ?_)
      · refine h_index a rfl (sz := 1) (by kernel_rfl) (by omega) (by omega) rfl ?_
        refine h_loadI (by kernel_rfl) (hc1.sub Sub.self) ?_
        refine h_store 1 rfl (by kernel_rfl) (Nat.le_of_ble_eq_true rfl) (by simp [Value.cells]) ?_
        refine h_pin (rwp_vN (rw_load1 (by kernel_rfl) (hc1.sub Sub.self) rfl)) ?_
        refine h_pin (rwp_vN (rw_index (sz := 1) rfl (by kernel_rfl) (by omega) (by omega) rfl rfl)) ?_
        refine fin _ ?_
        have t2 : entB (readEnt l) = true := t2
        have t3 : (((b0.toNat : Nat) : Int) == 0) = true := t3
        unfold readOk
        rw [t1, t2, hb0, hb1, byte_beq, byte_beq]
        show (true && (true && ((((b0.toNat : Nat) : Int) == 0) && (((b1.toNat : Nat) : Int) == 2)))) = _
        rw [t3]
        rfl
      · refine h_store 1 rfl (by kernel_rfl) (Nat.le_of_ble_eq_true rfl) (by simp [Value.cells]) ?_
        refine fin false ?_
        have t2 : entB (readEnt l) = true := t2
        have t3 : (((b0.toNat : Nat) : Int) == 0) = false := t3
        unfold readOk
        rw [t1, t2, hb0, byte_beq]
        show (true && (true && ((((b0.toNat : Nat) : Int) == 0) && _))) = _
        rw [t3]
        rfl
    · refine h_store 1 rfl (by kernel_rfl) (Nat.le_of_ble_eq_true rfl) (by simp [Value.cells]) ?_
      refine fin false ?_
      have t2 : entB (readEnt l) = false := t2
      unfold readOk
      rw [t1, t2]
      rfl
  · refine h_store 1 rfl (by kernel_rfl) (Nat.le_of_ble_eq_true rfl) (by simp [Value.cells]) ?_
    refine fin false ?_
    unfold readOk
    rw [t1]
    rfl
end Go.Proofs.YtahllmihgpaaeaaS

