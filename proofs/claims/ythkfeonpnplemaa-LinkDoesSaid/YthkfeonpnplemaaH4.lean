import Derived.Test.YthkfeonpnplemaaH3
set_option linter.unusedVariables false
namespace Go.Proofs.YthkfeonpnplemaaS
/-- What taking at place i leaves and answers. -/
def TakeQ (g : Nat) (L : List Pk) (i : Int) (v : Value) (h : Mem) : Prop :=
  if 0 ≤ i ∧ i < (L.length : Int) then ∃ p A c hB hR, L[i.toNat]? = some p ∧ v = .tuple #[p.v A p.B.length c, .bool true] ∧ h.Perm (hB ++ hR) ∧ OwnB A p.B.length c p.B hB ∧ p.B.length ≤ 1000000 ∧ BagRep 46 g (L.eraseIdx i.toNat) hR
  else v = .tuple #[noPk.v none 0 0, .bool false] ∧ BagRep 46 g L h
theorem take_spec {I : Ctx} {g : Nat} {L : List Pk} {h : Mem} {i : Int} (hrep : BagRep 46 g L h) (hbd : L.length ≤ 1000000) :
    Fn Try.prog 14 #[.pointer (some ⟨g, 0, none⟩), .int .i64 i] I h (TakeQ g L i) := by
  obtain ⟨A0, c0, cs, m, hb, hp, ho, hpk, hall⟩ := hrep
  refine Fn.perm ?_ hp
  refine r_link_Bag_Take _ _ ?_
  refine h_alloc zb_Packet fun g1 hg1 hI1 => ?_
  refine h_call [] _ ca_link_Bag_At (List.Perm.refl _) (fun hl => at_spec (BagRep.read (h := (g, .cells #[.slice A0 L.length c0] 46 (0, 0)) :: (m ++ hb)) ⟨A0, c0, cs, m, hb, List.Perm.refl _, ho, hpk, hall⟩ hl (fun x hx => List.mem_cons_of_mem _ hx))) ?_
  intro v h1 hq
  unfold AtQ at hq
  split at hq
  · rename_i hin
    obtain ⟨p, A, c, hLi, rfl, hoB, hbB⟩ := hq
    obtain ⟨k, rfl⟩ : ∃ k : Nat, i = k := ⟨i.toNat, by omega⟩
    have hk : k < L.length := by omega
    rw [Int.toNat_natCast] at hLi
    refine ⟨getL [{ i := p.d }, { i := p.f }, { i := p.t }, { A := A, n := p.B.length, c := c }, { b := true }], rfl, ?_⟩
    dsimp only [getL]
    refine h_alloc zb_Packet fun g3 hg3 hI3 => ?_
    refine h_store 0 rfl (by kernel_rfl) (Nat.le_of_ble_eq_true rfl) (by simp [Value.cells]) ?_
    refine holds_perm (cl_.aff _) (g := (g3, .cells #[.int .i64 p.d, .int .i64 p.f, .int .i64 p.t, .slice A p.B.length c] 29 (0, 0)) :: (g, .cells #[.slice A0 L.length c0] 46 (0, 0)) :: (g1, .cells #[.int .i64 0, .int .i64 0, .int .i64 0, .slice none 0 0] 29 (0, 0)) :: (m ++ (hb ++ h1))) (show List.Perm ((g3, .cells #[.int .i64 p.d, .int .i64 p.f, .int .i64 p.t, .slice A p.B.length c] 29 (0, 0)) :: (h1 ++ (g1, .cells #[.int .i64 0, .int .i64 0, .int .i64 0, .slice none 0 0] 29 (0, 0)) :: (g, .cells #[.slice A0 L.length c0] 46 (0, 0)) :: (m ++ hb))) _ from (perm_count fun D_ a_ => by simp only [Value.cells, List.count_append, List.count_cons, List.count_nil, List.nil_append, List.cons_append]; omega)) ?_
    refine h_yes rfl ?_
    refine h_loadL (by kernel_rfl) (by first | exact cell_own (j := 0) rfl rfl | exact cell_own (j := 1) rfl rfl | exact cell_own (j := 2) rfl rfl | exact cell_own (j := 3) rfl rfl | exact cell_own (j := 4) rfl rfl) ?_
    dsimp only
    rw [show IntKind.wrap .i64 ((k : Int) + 1) = ((k + 1 : Nat) : Int) from wrap64 (by omega)]
    refine h_call m ((g3, .cells #[.int .i64 p.d, .int .i64 p.f, .int .i64 p.t, .slice A p.B.length c] 29 (0, 0)) :: (g, .cells #[.slice A0 L.length c0] 46 (0, 0)) :: (g1, .cells #[.int .i64 0, .int .i64 0, .int .i64 0, .slice none 0 0] 29 (0, 0)) :: (hb ++ h1)) ca_slices_Delete_Packet (perm_count fun D_ a_ => by simp only [Value.cells, List.count_append, List.count_cons, List.count_nil, List.nil_append, List.cons_append]; omega) (fun hl => delete_spec ho hk hpk.plain hbd) ?_
    rintro v m2 ⟨rfl, ho2⟩
    refine ⟨fun _ => { A := A0, n := L.length - 1, c := c0 }, rfl, ?_⟩
    dsimp only
    refine holds_perm (cl_.aff _) (List.perm_append_comm) ?_
    refine h_store 1 rfl (by kernel_rfl) (Nat.le_of_ble_eq_true rfl) (by simp [Value.cells]) ?_
    refine h_loadA (cs := [.int .i64 p.d, .int .i64 p.f, .int .i64 p.t, .slice A p.B.length c]) (getL [{ i := p.d }, { i := p.f }, { i := p.t }, { A := A, n := p.B.length, c := c }]) (by kernel_rfl) (by kernel_rfl) (cells_at (j := 0) rfl rfl) rfl ?_; dsimp only [getL]
    refine h_store 2 rfl (by kernel_rfl) (Nat.le_of_ble_eq_true rfl) (by simp [Value.cells]) ?_
    refine h_loadVA (cs := [.int .i64 p.d, .int .i64 p.f, .int .i64 p.t, .slice A p.B.length c]) (getL [{ i := p.d }, { i := p.f }, { i := p.t }, { A := A, n := p.B.length, c := c }]) (by kernel_rfl) (by kernel_rfl) (cells_at (j := 2) rfl rfl) rfl ?_; dsimp only [getL]
    have hlen : (L.eraseIdx k).length = L.length - 1 := by rw [List.length_eraseIdx, if_pos hk]
    refine h_end (h1 := (h1 ++ ((g, .cells #[.slice A0 (L.length - 1) c0] 46 (0, 0)) :: (m2 ++ hb)))) (g := [(g3, .cells #[.int .i64 p.d, .int .i64 p.f, .int .i64 p.t, .slice A p.B.length c] 29 (0, 0)), (g1, .cells #[.int .i64 p.d, .int .i64 p.f, .int .i64 p.t, .slice A p.B.length c] 29 (0, 0))]) ?_ ?_
    · show List.Perm ((g3, .cells #[.int .i64 p.d, .int .i64 p.f, .int .i64 p.t, .slice A p.B.length c] 29 (0, 0)) :: (g, .cells #[.slice A0 (L.length - 1) c0] 46 (0, 0)) :: (g1, .cells #[.int .i64 p.d, .int .i64 p.f, .int .i64 p.t, .slice A p.B.length c] 29 (0, 0)) :: ((hb ++ h1) ++ m2)) _
      exact (perm_count fun D_ a_ => by simp only [Value.cells, List.count_append, List.count_cons, List.count_nil, List.nil_append, List.cons_append]; omega)
    · unfold TakeQ
      rw [if_pos hin, Int.toNat_natCast]
      refine ⟨p, A, c, h1, _, hLi, rfl, List.Perm.refl _, hoB, hbB, A0, c0, _, m2, hb, ?_, by rw [hlen]; exact ho2, ?_, fun q hq => hall q (List.mem_of_mem_eraseIdx hq)⟩
      · rw [hlen]
      · rw [List.eraseIdx_eq_take_drop_succ]
        exact (hpk.take k).append (hpk.drop (k + 1))
  · rename_i hin
    obtain ⟨rfl, rfl⟩ := hq
    refine ⟨getL [{ i := 0 }, { i := 0 }, { i := 0 }, { A := none, n := 0, c := 0 }, { b := false }], rfl, ?_⟩
    dsimp only [getL]
    refine h_alloc zb_Packet fun g3 hg3 hI3 => ?_
    refine h_store 0 rfl (by kernel_rfl) (Nat.le_of_ble_eq_true rfl) (by simp [Value.cells]) ?_
    refine h_no rfl ?_
    refine h_loadA (cs := [.int .i64 0, .int .i64 0, .int .i64 0, .slice none 0 0]) (getL [{ i := 0 }, { i := 0 }, { i := 0 }, { A := none, n := 0, c := 0 }]) (by kernel_rfl) (by kernel_rfl) (cells_at (j := 0) rfl rfl) rfl ?_; dsimp only [getL]
    refine h_store 1 rfl (by kernel_rfl) (Nat.le_of_ble_eq_true rfl) (by simp [Value.cells]) ?_
    refine h_loadVA (cs := [.int .i64 0, .int .i64 0, .int .i64 0, .slice none 0 0]) (getL [{ i := 0 }, { i := 0 }, { i := 0 }, { A := none, n := 0, c := 0 }]) (by kernel_rfl) (by kernel_rfl) (cells_at (j := 1) rfl rfl) rfl ?_; dsimp only [getL]
    refine h_endR [_, _] rfl ?_
    unfold TakeQ
    rw [if_neg hin]
    exact ⟨rfl, A0, c0, cs, m, hb, List.Perm.refl _, ho, hpk, hall⟩

/-- Is that one on the link? -/
def onLink (d x y : Int) (p : Pk) : Bool := p.d == d && (p.f == x && p.t == y || p.f == y && p.t == x)
theorem closure_spec {I : Ctx} {p : Pk} {A : Option Addr} {n c : Nat} {d x y : Int} {g0 g1 g2 : Nat} {arr0 arr1 arr2 : Nat × Nat} (h0 : I g0 = some (.cells #[.int .i64 d] 3 arr0)) (h1 : I g1 = some (.cells #[.int .i64 x] 3 arr1)) (h2 : I g2 = some (.cells #[.int .i64 y] 3 arr2)) :
    Fn Try.prog 24 #[p.v A n c, .pointer (some ⟨g0, 0, none⟩), .pointer (some ⟨g1, 0, none⟩), .pointer (some ⟨g2, 0, none⟩)] I [] (fun v h' => v = .bool (onLink d x y p) ∧ h' = []) := by
  refine r_link_Bag_Cut_1 _ _ _ _ _ _ _ _ _ ?_
  refine h_box fun g hg hI => ?_
  have fin : ∀ b : Bool, onLink d x y p = b → holds Try.prog 24 I (cl_ fun v h' => v = .bool (onLink d x y p) ∧ h' = []) (.done (.bool b)) [(g, .cells (p.v A n c).cells 29 (0, 0))] := fun b hb => h_end0 ⟨by rw [hb], rfl⟩
  have hc0 : CellIs I [(g, .cells (p.v A n c).cells 29 (0, 0))] ⟨g, 0, none⟩ (.int .i64 p.d) := cell_own (j := 0) rfl rfl
  have hc1 : CellIs I [(g, .cells (p.v A n c).cells 29 (0, 0))] ⟨g, 1, none⟩ (.int .i64 p.f) := cell_own (j := 0) rfl rfl
  have hc2 : CellIs I [(g, .cells (p.v A n c).cells 29 (0, 0))] ⟨g, 2, none⟩ (.int .i64 p.t) := cell_own (j := 0) rfl rfl
  have hd : CellIs I [(g, .cells (p.v A n c).cells 29 (0, 0))] ⟨g0, 0, none⟩ (.int .i64 d) := cell_J h0 rfl
  have hx : CellIs I [(g, .cells (p.v A n c).cells 29 (0, 0))] ⟨g1, 0, none⟩ (.int .i64 x) := cell_J h1 rfl
  have hy : CellIs I [(g, .cells (p.v A n c).cells 29 (0, 0))] ⟨g2, 0, none⟩ (.int .i64 y) := cell_J h2 rfl
  refine h_loadI (by kernel_rfl) hc0 ?_
  refine h_loadI (by kernel_rfl) hd ?_
  refine h_ite (fun e1 => ?_) (fun e1 => fin _ (by unfold onLink; dsimp only at e1; rw [e1]; rfl))
  refine h_loadI (by kernel_rfl) hc1 ?_
  refine h_loadI (by kernel_rfl) hx ?_
  refine h_ite (fun e2 => ?_) (fun e2 => ?_)
  · refine h_loadI (by kernel_rfl) hc2 ?_
    refine h_loadI (by kernel_rfl) hy ?_
    refine h_ite (fun e3 => fin _ (by unfold onLink; dsimp only at e1 e2 e3; rw [e1, e2, e3]; rfl)) (fun e3 => ?_)
    refine h_loadI (by kernel_rfl) hc1 ?_
    refine h_loadI (by kernel_rfl) hy ?_
    refine h_ite (fun e4 => ?_) (fun e4 => fin _ (by unfold onLink; dsimp only at e1 e2 e3 e4; rw [e1, e2, e3, e4]; rfl))
    refine h_loadI (by kernel_rfl) hc2 ?_
    refine h_loadI (by kernel_rfl) hx ?_
    exact fin _ (by unfold onLink; dsimp only at e1 e2 e3 e4 ⊢; rw [e1, e2, e3, e4]; simp)
  · refine h_loadI (by kernel_rfl) hc1 ?_
    refine h_loadI (by kernel_rfl) hy ?_
    refine h_ite (fun e4 => ?_) (fun e4 => fin _ (by unfold onLink; dsimp only at e1 e2 e4; rw [e1, e2, e4]; rfl))
    refine h_loadI (by kernel_rfl) hc2 ?_
    refine h_loadI (by kernel_rfl) hx ?_
    exact fin _ (by unfold onLink; dsimp only at e1 e2 e4 ⊢; rw [e1, e2, e4]; simp)
end Go.Proofs.YthkfeonpnplemaaS
