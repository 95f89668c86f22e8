import Derived.Test.YthkfeonpnplemaaH12
set_option linter.unusedVariables false
namespace Go.Proofs.YthkfeonpnplemaaS
theorem rcut_loop {I : Ctx} {g : Nat} {d x y : Int} {L : List Pk} {A0 : Option Addr} {c0 : Nat} {cs : List Value} {m hb : Mem} (hbd : L.length ≤ 1000000) (ho : Own 29 4 A0 L.length c0 cs m) (hpk : pksC (plus noC hb) L cs) (hall : ∀ p ∈ L, p.B.length ≤ 1000000) :
    ∀ (q i : Nat) (u : Nat → Value) (h mo jk : Mem) (A9 : Option Addr) (n9 c9 : Nat) (co : List Value), i + q = L.length → n9 = (left d x y (L.take i)).length → Own 29 4 A9 n9 c9 co mo → pksC (plus noC hb) (left d x y (L.take i)) co →
      h.Perm (mo ++ ((g, .cells #[.slice A0 L.length c0] 43 (0, 0)) :: (m ++ (hb ++ jk)))) →
    Wp Try.prog 21 k_octroiref20_Bag_Cut_1 (t_octroiref20_Bag_Cut_1 ⟨g, 0, none⟩ d x y A9 n9 c9 i u) I h
      (cl_ fun v h' => v = .int .i64 ((L.length - (left d x y L).length : Nat) : Int) ∧ BagRep 43 g (left d x y L) h') := by
  intro q
  induction q with
  | zero =>
    intro i u h mo jk A9 n9 c9 co hiq hn hoo hpo hp
    rw [List.take_of_length_le (by omega)] at hn hpo
    subst hn
    have hgm : (g, Obj.cells #[.slice A0 L.length c0] 43 (0, 0)) ∈ h := hp.mem_iff.2 (by simp)
    refine r_octroiref20_Bag_Cut_1 _ _ _ _ _ _ _ _ _ ?_
    refine h_loadL (by kernel_rfl) (cell_mem hgm rfl) ?_
    refine h_no (by simp; omega) ?_
    refine h_loadL (by kernel_rfl) (cell_mem hgm rfl) ?_
    refine holds_perm (cl_.aff _) (hp.trans (show List.Perm _ ((g, .cells #[.slice A0 L.length c0] 43 (0, 0)) :: (mo ++ (m ++ (hb ++ jk)))) from (perm_count fun D_ a_ => by simp only [Value.cells, List.count_append, List.count_cons, List.count_nil, List.nil_append, List.cons_append]; omega))) ?_
    refine h_store 0 rfl (by kernel_rfl) (Nat.le_of_ble_eq_true rfl) (by simp [Value.cells]) ?_
    have hle : (left d x y L).length ≤ L.length := List.length_filter_le ..
    refine h_end (h1 := (g, .cells #[.slice A9 (left d x y L).length c9] 43 (0, 0)) :: (mo ++ hb)) (g := m ++ jk) ?_ ⟨?_, A9, c9, co, mo, hb, List.Perm.refl _, hoo, hpo, fun q hq => hall q (List.mem_filter.1 hq).1⟩
    · show List.Perm ((g, .cells #[.slice A9 (left d x y L).length c9] 43 (0, 0)) :: (mo ++ (m ++ (hb ++ jk)))) _
      exact (perm_count fun D_ a_ => by simp only [Value.cells, List.count_append, List.count_cons, List.count_nil, List.nil_append, List.cons_append]; omega)
    · dsimp only
      rw [show (L.length : Int) - ((left d x y L).length : Int) = ((L.length - (left d x y L).length : Nat) : Int) by omega, wrap64 (by omega)]
  | succ q ih =>
    intro i u h mo jk A9 n9 c9 co hiq hn hoo hpo hp
    have hi : i < L.length := by omega
    have hgm : (g, Obj.cells #[.slice A0 L.length c0] 43 (0, 0)) ∈ h := hp.mem_iff.2 (by simp)
    have hmm : ∀ x ∈ m, x ∈ h := fun x hx => hp.mem_iff.2 (by simp [hx])
    obtain ⟨c4, ⟨A', n', c', rfl, hB⟩, hc4⟩ := hpk.get (List.getElem?_eq_getElem hi)
    obtain ⟨a, rfl, hcells⟩ := (ho.rd (I := I) hmm) (fun he => by have := hc4 0 _ rfl; rw [he] at this; simp at this)
    have htk : left d x y (L.take (i + 1)) = left d x y (L.take i) ++ left d x y [L[i]] := by
      rw [List.take_succ_eq_append_getElem hi]; exact List.filter_append ..
    have hn9 : n9 ≤ i := by rw [hn]; have : (left d x y (L.take i)).length ≤ (L.take i).length := List.length_filter_le ..; rw [List.length_take] at this; omega
    refine r_octroiref20_Bag_Cut_1 _ _ _ _ _ _ _ _ _ ?_
    refine h_loadL (by kernel_rfl) (cell_mem hgm rfl) ?_
    refine h_yes (by simp; omega) ?_
    refine h_loadL (by kernel_rfl) (cell_mem hgm rfl) ?_
    dsimp only
    refine h_index a rfl (sz := 4) (by kernel_rfl) (by omega) (by omega) rfl ?_
    dsimp only
    rw [Int.toNat_natCast]
    refine h_loadA (cs := [.int .i64 L[i].d, .int .i64 L[i].f, .int .i64 L[i].t, .slice A' n' c']) (getL [{ i := L[i].d }, { i := L[i].f }, { i := L[i].t }, { A := A', n := n', c := c' }]) (by kernel_rfl) (by kernel_rfl) (hcells.at _ hc4) rfl ?_; dsimp only [getL]
    refine h_alloc zb_Packet fun g5 hg5 hI5 => ?_
    refine h_store 0 rfl (by kernel_rfl) (Nat.le_of_ble_eq_true rfl) (by simp [Value.cells]) ?_
    have go : onLink d x y L[i] = true → ∀ u, holds Try.prog 21 I (cl_ fun v h' => v = .int .i64 ((L.length - (left d x y L).length : Nat) : Int) ∧ BagRep 43 g (left d x y L) h')
        (.stop k_octroiref20_Bag_Cut_1 (t_octroiref20_Bag_Cut_1 ⟨g, 0, none⟩ d x y A9 n9 c9 (IntKind.wrap .i64 ((i : Int) + 1)) u)) ((g5, .cells #[.int .i64 L[i].d, .int .i64 L[i].f, .int .i64 L[i].t, .slice A' n' c'] 29 (0, 0)) :: h) := by
      intro hon u
      have hl0 : left d x y [L[i]] = [] := by simp [left, hon]
      refine h_stop fun hl => ?_
      rw [wrapS (by omega)]
      refine ih (i + 1) _ _ mo ((g5, .cells #[.int .i64 L[i].d, .int .i64 L[i].f, .int .i64 L[i].t, .slice A' n' c'] 29 (0, 0)) :: jk) A9 n9 c9 co (by omega) (by rw [htk, hl0, List.append_nil]; exact hn) hoo (by rw [htk, hl0, List.append_nil]; exact hpo) ?_
      refine (hp.cons _).trans ?_
      exact (perm_count fun D_ a_ => by simp only [Value.cells, List.count_append, List.count_cons, List.count_nil, List.nil_append, List.cons_append]; omega)
    have app : onLink d x y L[i] = false → ∀ u : (Nat → Leaf) → (Nat → Leaf) → (Nat → Leaf) → Nat → Value, holds Try.prog 21 I (cl_ fun v h' => v = .int .i64 ((L.length - (left d x y L).length : Nat) : Int) ∧ BagRep 43 g (left d x y L) h')
        (.rd (Instr.loadAt 29 (.pointer (some ⟨g5, 0, none⟩))) (.one (.agg [.int .i64, .int .i64, .int .i64, .sl])) fun l7 =>
          (.sem (Instr.buildSlice 38 1 #[(0, .agg #[.int .i64 ((l7 0).i), .int .i64 ((l7 1).i), .int .i64 ((l7 2).i), .slice ((l7 3).A) ((l7 3).n) ((l7 3).c)])]) (.one (.sc (.row 1))) fun l8 =>
            (.nx (builtin .append #[38, 38] 38 #[false, false] #[.slice A9 n9 c9, .slice (some ⟨(l8 0).n, 0, none⟩) 1 1]) (.one (.sc (.sl))) fun l9 =>
              (.stop k_octroiref20_Bag_Cut_1 (t_octroiref20_Bag_Cut_1 ⟨g, 0, none⟩ d x y ((l9 0).A) ((l9 0).n) ((l9 0).c) (IntKind.wrap .i64 ((i : Int) + 1)) (u l7 l8 l9))))))
        ((g5, .cells #[.int .i64 L[i].d, .int .i64 L[i].f, .int .i64 L[i].t, .slice A' n' c'] 29 (0, 0)) :: h) := by
      intro hon u
      have hl0 : left d x y [L[i]] = [L[i]] := by simp [left, hon]
      refine h_loadA (cs := [.int .i64 L[i].d, .int .i64 L[i].f, .int .i64 L[i].t, .slice A' n' c']) (getL [{ i := L[i].d }, { i := L[i].f }, { i := L[i].t }, { A := A', n := n', c := c' }]) (by kernel_rfl) (by kernel_rfl) (cells_at (j := 0) rfl rfl) rfl ?_; dsimp only [getL]
      refine h_row (e := 29) #[.int .i64 L[i].d, .int .i64 L[i].f, .int .i64 L[i].t, .slice A' n' c'] (by kernel_rfl) fun g6 hg6 hI6 => ?_
      refine h_append (cl_.aff _) eb_Packet (by kernel_rfl) (fun _ => ⟨_, rfl, cells_at (j := 0) (cs := [.int .i64 L[i].d, .int .i64 L[i].f, .int .i64 L[i].t, .slice A' n' c']) rfl rfl⟩) (fun h => by cases h) rfl (by simp) (m := mo)
        (hr := (g, .cells #[.slice (some a) L.length c0] 43 (0, 0)) :: (m ++ (hb ++ ((g6, .cells #[.int .i64 L[i].d, .int .i64 L[i].f, .int .i64 L[i].t, .slice A' n' c'] 29 (0, 0)) :: (g5, .cells #[.int .i64 L[i].d, .int .i64 L[i].f, .int .i64 L[i].t, .slice A' n' c'] 29 (0, 0)) :: jk)))) ?_ hoo (by omega) (by omega) ?_
      · refine ((hp.cons _).cons _).trans ?_
        exact (perm_count fun D_ a_ => by simp only [Value.cells, List.count_append, List.count_cons, List.count_nil, List.nil_append, List.cons_append]; omega)
      intro A2 c2 m2 ho2
      refine h_stop fun hl => ?_
      rw [wrapS (by omega)]
      refine ih (i + 1) _ _ m2 ((g6, .cells #[.int .i64 L[i].d, .int .i64 L[i].f, .int .i64 L[i].t, .slice A' n' c'] 29 (0, 0)) :: (g5, .cells #[.int .i64 L[i].d, .int .i64 L[i].f, .int .i64 L[i].t, .slice A' n' c'] 29 (0, 0)) :: jk) A2 (n9 + 1) c2 _ (by omega) (by rw [htk, hl0, List.length_append, hn]; rfl) ho2 (by rw [htk, hl0]; exact hpo.append ⟨_, [], by simp, ⟨A', n', c', rfl, hB⟩, rfl⟩) (List.Perm.refl _)
    have ev : ∀ b : Bool, (L[i].d == d && (L[i].f == x && L[i].t == y || L[i].f == y && L[i].t == x)) = b → onLink d x y L[i] = b := fun b h => h
    refine h_loadI (by kernel_rfl) (cell_own (j := 0) rfl rfl) ?_
    refine h_ite (fun e1 => app (ev _ (by simp at e1; simp [e1])) _) (fun e1 => ?_)
    have e1 : L[i].d = d := by simpa using e1
    refine h_loadI (by kernel_rfl) (cell_own (j := 0) rfl rfl) ?_
    refine h_ite (fun e2 => ?_) (fun e2 => ?_)
    · have e2 : L[i].f ≠ x := by simpa using e2
      refine h_loadI (by kernel_rfl) (cell_own (j := 0) rfl rfl) ?_
      refine h_ite (fun e3 => app (ev _ (by simp at e3; simp [e2, e3])) _) (fun e3 => ?_)
      have e3 : L[i].f = y := by simpa using e3
      refine h_loadI (by kernel_rfl) (cell_own (j := 0) rfl rfl) ?_
      refine h_ite (fun e4 => app (ev _ (by simp at e4; simp [e2, e4])) _) (fun e4 => go (ev _ (by simp at e4; simp [e1, e3, e4])) _)
    · have e2 : L[i].f = x := by simpa using e2
      refine h_loadI (by kernel_rfl) (cell_own (j := 0) rfl rfl) ?_
      refine h_ite (fun e3 => ?_) (fun e3 => go (ev _ (by simp at e3; simp [e1, e2, e3])) _)
      have e3 : L[i].t ≠ y := by simpa using e3
      refine h_loadI (by kernel_rfl) (cell_own (j := 0) rfl rfl) ?_
      refine h_ite (fun e4 => app (ev _ (by simp at e4; simp [e3, e4])) _) (fun e4 => ?_)
      have e4 : L[i].f = y := by simpa using e4
      refine h_loadI (by kernel_rfl) (cell_own (j := 0) rfl rfl) ?_
      refine h_ite (fun e5 => app (ev _ (by simp at e5; simp [e3, e5])) _) (fun e5 => go (ev _ (by simp at e5; simp [e1, e4, e5])) _)
theorem rcut_spec {I : Ctx} {g : Nat} {L : List Pk} {h : Mem} {d x y : Int} (hrep : BagRep 43 g L h) (hbd : L.length ≤ 1000000) :
    Fn Try.prog 21 #[.pointer (some ⟨g, 0, none⟩), .int .i64 d, .int .i64 x, .int .i64 y] I h (fun v h' => v = .int .i64 ((L.length - (left d x y L).length : Nat) : Int) ∧ BagRep 43 g (left d x y L) h') := by
  obtain ⟨A0, c0, cs, m, hb, hp, ho, hpk, hall⟩ := hrep
  refine r_octroiref20_Bag_Cut _ _ _ _ ?_
  refine h_stop fun hl => ?_
  exact rcut_loop hbd ho hpk hall L.length 0 _ h [] [] none 0 0 [] (by omega) rfl (Own.nil _ _) rfl (by simpa using hp)
end Go.Proofs.YthkfeonpnplemaaS
