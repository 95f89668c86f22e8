import Derived.Test.YtahllmihgpaaeaaN4
set_option linter.unusedVariables false
namespace Go.Proofs.YtahllmihgpaaeaaS
/-- A whole number as the machine has it. -/
abbrev inI (n : Int) : Prop := -9223372036854775808 ≤ n ∧ n ≤ 9223372036854775807
/-- An entry. -/
structure Ent where
  a : Nat
  n : Int
  tag : Nat
  next : Nat
  m : Int
structure Ent.ok (e : Ent) : Prop where
  a : e.a < 4294967296
  n : inI e.n
  tag : e.tag < 65536
  next : e.next < 4294967296
  m : inI e.m
abbrev Ent.cs (e : Ent) : List Value := [.int .u32 (e.a : Nat), .int .i64 e.n, .int .u16 (e.tag : Nat), .int .u32 (e.next : Nat), .int .i64 e.m]
abbrev Ent.v (e : Ent) : Value := .agg #[.int .u32 (e.a : Nat), .int .i64 e.n, .int .u16 (e.tag : Nat), .int .u32 (e.next : Nat), .int .i64 e.m]
/-- Its metric as a number of 32 bits. -/
def Ent.m32 (e : Ent) : Nat := (e.m % 4294967296).toNat
def encE (e : Ent) : List UInt8 := [0, 2] ++ (be 2 e.tag ++ (be 4 e.a ++ (be 4 (maskOf e.n) ++ (be 4 e.next ++ be 4 e.m32))))
def entB (e : Ent) : Bool := mayB e.a e.n && (decide (1 ≤ e.m) && decide (e.m ≤ 16))
theorem cell_mem {I : Ctx} {h : Mem} {b off : Nat} {arr : Array Value} {t : TypeId} {fz : Nat × Nat} {v : Value} (hm : (b, .cells arr t fz) ∈ h) (hv : arr[off]? = some v) : CellIs I h ⟨b, off, none⟩ v := ⟨rfl, arr, t, fz, .inl hm, hv⟩
theorem rpmay_spec {I : Ctx} {e : Ent} (ho : e.ok) : Fn Try.prog 17 #[e.v] I [] (fun v h' => v = .bool (entB e) ∧ h' = []) := by
  refine r_rippkt_may _ _ _ _ _ ?_
  refine h_box fun g hg hI => ?_
  refine h_loadA (cs := [.int .u32 (e.a : Nat), .int .i64 e.n]) (getL [{ i := (e.a : Nat) }, { i := e.n }]) (by kernel_rfl) (by kernel_rfl) (cells_at (j := 0) rfl rfl) rfl ?_
  dsimp only [getL]
  refine h_call0 (fun _ => { b := mayB e.a e.n }) ca_prefix_May (fun hl => may_spec ho.a ho.n) rfl ?_
  refine h_ite (fun h0 => ?_) (fun h0 => ?_)
  · refine h_loadI (by kernel_rfl) (cell_own (j := 0) rfl rfl) ?_
    refine h_ite (fun h1 => ?_) (fun h1 => ?_)
    · refine h_loadI (by kernel_rfl) (cell_own (j := 0) rfl rfl) ?_
      refine h_end0 ⟨?_, rfl⟩
      dsimp only at h0 h1 ⊢
      unfold entB
      rw [h0]
      simp at h1
      simp [h1]
    · refine h_end0 ⟨?_, rfl⟩
      dsimp only at h0 h1 ⊢
      unfold entB
      rw [h0]
      simp at h1
      rw [decide_eq_false (p := 1 ≤ e.m) (by omega)]
      rfl
  · refine h_end0 ⟨?_, rfl⟩
    dsimp only at h0
    unfold entB
    rw [h0]
    rfl
theorem odd_spec {I : Ctx} {e : Ent} (ho : e.ok) : Fn Try.prog 16 #[e.v] I [] (fun v h' => v = .bool (!entB e) ∧ h' = []) := by
  refine r_rippkt_Encode_fn1 _ _ _ _ _ ?_
  refine h_box fun g hg hI => ?_
  refine h_loadA (cs := e.cs) (getL [{ i := (e.a : Nat) }, { i := e.n }, { i := (e.tag : Nat) }, { i := (e.next : Nat) }, { i := e.m }]) (by kernel_rfl) (by kernel_rfl) (cells_at (j := 0) rfl rfl) rfl ?_
  dsimp only [getL]
  refine h_call0 (fun _ => { b := entB e }) ca_rippkt_may (fun hl => rpmay_spec ho) rfl ?_
  exact h_end0 ⟨rfl, rfl⟩
theorem rput_e {I : Ctx} {e : Ent} (ho : e.ok) : Fn Try.prog 20 #[e.v] I [] (GivesB (encE e)) := by
  refine r_rippkt_put _ _ _ _ _ ?_
  refine h_box fun g hg hI => ?_
  refine h_loadI (by kernel_rfl) (cell_own (j := 0) rfl rfl) ?_
  refine h_loadI (by kernel_rfl) (cell_own (j := 0) rfl rfl) ?_
  refine h_loadI (by kernel_rfl) (cell_own (j := 0) rfl rfl) ?_
  refine h_loadI (by kernel_rfl) (cell_own (j := 0) rfl rfl) ?_
  refine h_loadI (by kernel_rfl) (cell_own (j := 0) rfl rfl) ?_
  refine h_call [] _ ca_num_Put16 (List.Perm.refl _) (fun hl => Put16_spec ho.tag) ?_
  rintro v h1 ⟨A1, c1, rfl, ho1⟩
  refine ⟨fun _ => { A := A1, n := (be 2 e.tag).length, c := c1 }, rfl, ?_⟩
  have gm : ∀ (x : Mem), (g, Obj.cells e.v.cells 41 (0, 0)) ∈ x ++ [(g, Obj.cells e.v.cells 41 (0, 0))] := fun x => by simp
  refine h_pin (rwp_vN (rw_load1 (by kernel_rfl) (cell_mem (gm _) rfl) rfl)) ?_
  refine h_pin (rwp_vN (rw_load1 (by kernel_rfl) (cell_mem (gm _) rfl) rfl)) ?_
  refine h_pin (rwp_vN (rw_load1 (by kernel_rfl) (cell_mem (gm _) rfl) rfl)) ?_
  refine h_pin (rwp_vN (rw_load1 (by kernel_rfl) (cell_mem (gm _) rfl) rfl)) ?_
  refine h_call [] _ ca_num_Put32 (List.Perm.refl _) (fun hl => Put32_spec ho.a) ?_
  rintro v h2 ⟨A2, c2, rfl, ho2⟩
  refine ⟨fun _ => { A := A2, n := (be 4 e.a).length, c := c2 }, rfl, ?_⟩
  have gm2 : ∀ (x y : Mem), (g, Obj.cells e.v.cells 41 (0, 0)) ∈ y ++ (x ++ [(g, Obj.cells e.v.cells 41 (0, 0))]) := fun x y => by simp
  refine h_pin (rwp_vN (rw_load1 (by kernel_rfl) (cell_mem (gm2 _ _) rfl) rfl)) ?_
  refine h_pin (rwp_vN (rw_load1 (by kernel_rfl) (cell_mem (gm2 _ _) rfl) rfl)) ?_
  refine h_pin (rwp_vN (rw_load1 (by kernel_rfl) (cell_mem (gm2 _ _) rfl) rfl)) ?_
  refine h_call0 (fun _ => { i := (maskOf e.n : Nat) }) ca_prefix_Mask (fun hl => mask_spec ho.n) rfl ?_
  refine h_pin (rwp_vN (rw_load1 (by kernel_rfl) (cell_mem (gm2 _ _) rfl) rfl)) ?_
  refine h_pin (rwp_vN (rw_load1 (by kernel_rfl) (cell_mem (gm2 _ _) rfl) rfl)) ?_
  have hml : maskOf e.n < 4294967296 := maskN_lt _
  refine h_call [] _ ca_num_Put32 (List.Perm.refl _) (fun hl => Put32_spec hml) ?_
  rintro v h3 ⟨A3, c3, rfl, ho3⟩
  refine ⟨fun _ => { A := A3, n := (be 4 (maskOf e.n)).length, c := c3 }, rfl, ?_⟩
  have gm3 : ∀ (x y z : Mem), (g, Obj.cells e.v.cells 41 (0, 0)) ∈ z ++ (y ++ (x ++ [(g, Obj.cells e.v.cells 41 (0, 0))])) := fun x y z => by simp
  refine h_pin (rwp_vN (rw_load1 (by kernel_rfl) (cell_mem (gm3 _ _ _) rfl) rfl)) ?_
  refine h_pin (rwp_vN (rw_load1 (by kernel_rfl) (cell_mem (gm3 _ _ _) rfl) rfl)) ?_
  refine h_call [] _ ca_num_Put32 (List.Perm.refl _) (fun hl => Put32_spec ho.next) ?_
  rintro v h4 ⟨A4, c4, rfl, ho4⟩
  refine ⟨fun _ => { A := A4, n := (be 4 e.next).length, c := c4 }, rfl, ?_⟩
  have gm4 : ∀ (x y z w : Mem), (g, Obj.cells e.v.cells 41 (0, 0)) ∈ w ++ (z ++ (y ++ (x ++ [(g, Obj.cells e.v.cells 41 (0, 0))]))) := fun x y z w => by simp
  refine h_pin (rwp_vN (rw_load1 (by kernel_rfl) (cell_mem (gm4 _ _ _ _) rfl) rfl)) ?_
  dsimp only
  rw [show IntKind.wrap .u32 e.m = ((e.m32 : Nat) : Int) by rw [wrap32]; unfold Ent.m32; omega]
  refine h_call [] _ ca_num_Put32 (List.Perm.refl _) (fun hl => Put32_spec (n := e.m32) (by unfold Ent.m32; omega)) ?_
  rintro v h5 ⟨A5, c5, rfl, ho5⟩
  refine ⟨fun _ => { A := A5, n := (be 4 e.m32).length, c := c5 }, rfl, ?_⟩
  dsimp only
  refine h_row (e := 5) #[.int .u8 0, .int .u8 2] (by kernel_rfl) fun g6 hg6 hI6 => ?_
  refine h_row (e := 26) #[.slice (some ⟨g6, 0, none⟩) 2 2, .slice A1 (be 2 e.tag).length c1, .slice A2 (be 4 e.a).length c2, .slice A3 (be 4 (maskOf e.n)).length c3, .slice A4 (be 4 e.next).length c4, .slice A5 (be 4 e.m32).length c5] (by kernel_rfl) fun g7 hg7 hI7 => ?_
  refine h_call [] _ ca_slices_Concat_byte (List.Perm.refl _) (fun hl => concat_spec (ls := [[0, 2], be 2 e.tag, be 4 e.a, be 4 (maskOf e.n), be 4 e.next, be 4 e.m32])
    (cs := [.slice (some ⟨g6, 0, none⟩) 2 2, .slice A1 (be 2 e.tag).length c1, .slice A2 (be 4 e.a).length c2, .slice A3 (be 4 (maskOf e.n)).length c3, .slice A4 (be 4 e.next).length c4, .slice A5 (be 4 e.m32).length c5])
    (RdC.all hl (fun _ => ⟨_, rfl, cells_at (j := 0) rfl rfl⟩)) ?_ (by simp [total]) (by simp)) ?_
  · have own6 : OwnB (some ⟨g6, 0, none⟩) 2 2 [0, 2] [(g6, .cells #[.int .u8 0, .int .u8 2] 5 (0, 0))] := Own.row (n := 2) rfl
    refine ⟨_, _, rfl, ⟨_, 2, rfl, own6.rdb hl (fun x hx => ?_)⟩, _, _, rfl, ⟨_, _, rfl, ?_⟩, _, _, rfl, ⟨_, _, rfl, ?_⟩, _, _, rfl, ⟨_, _, rfl, ?_⟩, _, _, rfl, ⟨_, _, rfl, ?_⟩, _, _, rfl, ⟨_, _, rfl, ?_⟩, rfl⟩
    · rw [List.mem_singleton] at hx
      subst hx
      exact List.mem_cons_of_mem _ List.mem_cons_self
    · exact ho1.rdb hl (fun x hx => by simp [hx])
    · exact ho2.rdb hl (fun x hx => by simp [hx])
    · exact ho3.rdb hl (fun x hx => by simp [hx])
    · exact ho4.rdb hl (fun x hx => by simp [hx])
    · exact ho5.rdb hl (fun x hx => by simp [hx])
  rintro v h8 ⟨A8, c8, rfl, ho8⟩
  refine ⟨fun _ => { A := A8, n := (encE e).length, c := c8 }, by simp [Sh.val, Sh1.val, Sc.val, encE], ?_⟩
  refine h_end (h1 := h8) (List.Perm.refl _) ⟨A8, c8, rfl, ?_⟩
  have hf : [[0, 2], be 2 e.tag, be 4 e.a, be 4 (maskOf e.n), be 4 e.next, be 4 e.m32].flatten = encE e := by simp [encE]
  rw [hf] at ho8
  exact ho8
end Go.Proofs.YtahllmihgpaaeaaS
