import Derived.Test.YthkfeonpnplemaaH14
set_option linter.unusedVariables false
namespace Go.Proofs.YthkfeonpnplemaaS
abbrev PB (g : Nat) (p : Pk) (A : Option Addr) (n c : Nat) : Nat × Obj := (g, .cells #[.int .i64 p.d, .int .i64 p.f, .int .i64 p.t, .slice A n c] 29 (0, 0))
theorem does_loop1 {J : Ctx} {g y6 : Nat} {A : Option Addr} {c : Nat} {l : List Opp} (hops : OpsIn J A l) (hbd : l.length ≤ 100) (hB : ∀ o ∈ l, o.p.B.length ≤ 300) :
    ∀ (q i : Nat) (u : Nat → Value) (h hb1 hb2 : Mem) (L : List Pk), i + q = l.length → (∃ jk, h.Perm (hb1 ++ (hb2 ++ jk))) → BagRep 46 g L hb1 → BagRep 43 y6 L hb2 → L.length ≤ i →
    Wp Try.prog 5 k_octroilaw20_LinkDoes_1 (t_octroilaw20_LinkDoes_1 A l.length c (some ⟨g, 0, none⟩) y6 i u) J h YES := by
  intro q
  induction q with
  | zero =>
    intro i u h hb1 hb2 L hiq hp hrep1 hrep2 hL
    refine r_octroilaw20_LinkDoes_1 _ _ _ _ _ _ _ ?_
    refine h_no (by simp; omega) ?_
    exact h_end0 ⟨rfl, rfl⟩
  | succ q ih =>
    rintro i u h hb1 hb2 L hiq ⟨jk, hp⟩ hrep1 hrep2 hL
    have hi : i < l.length := by omega
    obtain ⟨a, A', n', c', rfl, hr, hc⟩ := hops.get hi
    have hn' := hr.len
    have hBi := hB _ (List.getElem_mem hi)
    have hs1 : ∀ x ∈ hb1, x ∈ h := fun x hx => hp.mem_iff.2 (by simp [hx])
    have hs2 : ∀ x ∈ hb2, x ∈ h := fun x hx => hp.mem_iff.2 (by simp [hx])
    refine r_octroilaw20_LinkDoes_1 _ _ _ _ _ _ _ ?_
    refine h_yes (by simp; omega) ?_
    refine h_index a rfl (sz := 6) (by kernel_rfl) (by omega) (by omega) rfl ?_
    dsimp only
    rw [Int.toNat_natCast]
    refine h_loadI (by kernel_rfl) (by have := (hc 0 _ rfl).sub (h := h) Sub.self; rwa [addr_add0] at this) ?_
    dsimp only
    refine h_ite (fun e0 => ?_) (fun e0 => ?_)
    · -- Send
      refine h_index a rfl (sz := 6) (by kernel_rfl) (by omega) (by omega) rfl ?_
      dsimp only
      rw [Int.toNat_natCast]
      refine h_loadA (cs := [.int .i64 l[i].p.d, .int .i64 l[i].p.f, .int .i64 l[i].p.t, .slice A' n' c']) (getL [{ i := l[i].p.d }, { i := l[i].p.f }, { i := l[i].p.t }, { A := A', n := n', c := c' }]) (by kernel_rfl) (by kernel_rfl) (fun q v hq => by rw [add_add]; exact (hc (2 + q) v (by rw [Nat.add_comm]; exact hq)).sub Sub.self) rfl ?_; dsimp only [getL]
      refine h_alloc zb_Packet fun g13 hg13 hI13 => ?_
      refine h_store 0 rfl (by kernel_rfl) (Nat.le_of_ble_eq_true rfl) (by simp [Value.cells]) ?_
      refine h_loadL (by kernel_rfl) (by first | exact cell_own (j := 0) rfl rfl | exact cell_own (j := 1) rfl rfl | exact cell_own (j := 2) rfl rfl | exact cell_own (j := 3) rfl rfl | exact cell_own (j := 4) rfl rfl) ?_
      dsimp only
      refine h_append (cl_.aff _) eb_uint8 (by kernel_rfl) (hr.rd.sub Sub.self) hr.nil (by simp; exact hn') (bC_plain l[i].p.B) (m := []) (hr := PB g13 l[i].p A' n' c' :: h) (List.Perm.refl _) (Own.nil _ _) (by omega) (by omega) ?_
      intro A1 c1 hO ho
      simp only [Nat.zero_add, List.nil_append] at ho ⊢
      have ho : OwnB A1 n' c1 l[i].p.B hO := ho
      refine holds_perm (cl_.aff _) (List.perm_append_comm) ?_
      refine h_store 0 rfl (by kernel_rfl) (Nat.le_of_ble_eq_true rfl) (by simp [Value.cells]) ?_
      refine h_loadA (cs := [.int .i64 l[i].p.d, .int .i64 l[i].p.f, .int .i64 l[i].p.t, .slice A1 n' c1]) (getL [{ i := l[i].p.d }, { i := l[i].p.f }, { i := l[i].p.t }, { A := A1, n := n', c := c1 }]) (by kernel_rfl) (by kernel_rfl) (cells_at (j := 0) rfl rfl) rfl ?_; dsimp only [getL]
      refine h_call hb1 (PB g13 l[i].p A1 n' c1 :: (hO ++ (hb2 ++ jk))) ca_link_Bag_Send ?_ (fun hl => ?_) (Qc := fun v h' => v = undef ∧ BagRep 46 g (L ++ [l[i].p]) h') ?_
      · refine ((hp.append_right hO).cons _).trans ?_
        show List.Perm (PB g13 l[i].p A1 n' c1 :: ((hb1 ++ (hb2 ++ jk)) ++ hO)) _
        exact (perm_count fun D_ a_ => by simp only [Value.cells, List.count_append, List.count_cons, List.count_nil, List.nil_append, List.cons_append]; omega)
      · have hl2 : Live J (PB g13 l[i].p A1 n' c1 :: (hO ++ (hb2 ++ jk))) := by
          have h3 : Live J ((PB g13 l[i].p A1 n' c1 :: (hO ++ (hb2 ++ jk))) ++ hb1) := hl.perm (by
            refine ((hp.append_right hO).cons _).trans ?_
            show List.Perm (PB g13 l[i].p A1 n' c1 :: ((hb1 ++ (hb2 ++ jk)) ++ hO)) _
            exact (perm_count fun D_ a_ => by simp only [Value.cells, List.count_append, List.count_cons, List.count_nil, List.nil_append, List.cons_append]; omega))
          exact h3.left
        exact send_spec (p := l[i].p) (c := c1) hrep1 (ho.rdb hl2 (fun x hx => List.mem_cons_of_mem _ (List.mem_append_left _ hx))) (by omega) (by omega)
      rintro v h1 ⟨rfl, hrep1'⟩
      refine ⟨fun _ => {}, rfl, ?_⟩
      refine h_index a rfl (sz := 6) (by kernel_rfl) (by omega) (by omega) rfl ?_
      dsimp only
      rw [Int.toNat_natCast]
      refine h_loadA (cs := [.int .i64 l[i].p.d, .int .i64 l[i].p.f, .int .i64 l[i].p.t, .slice A' n' c']) (getL [{ i := l[i].p.d }, { i := l[i].p.f }, { i := l[i].p.t }, { A := A', n := n', c := c' }]) (by kernel_rfl) (by kernel_rfl) (fun q v hq => by rw [add_add]; exact (hc (2 + q) v (by rw [Nat.add_comm]; exact hq)).sub Sub.self) rfl ?_; dsimp only [getL]
      refine h_call hb2 (h1 ++ (PB g13 l[i].p A1 n' c1 :: (hO ++ jk))) ca_octroiref20_Bag_Send ?_ (fun hl => ?_) (Qc := fun v h' => v = undef ∧ BagRep 43 y6 (L ++ [l[i].p]) h') ?_
      · exact (perm_count fun D_ a_ => by simp only [Value.cells, List.count_append, List.count_cons, List.count_nil, List.nil_append, List.cons_append]; omega)
      · exact rsend_spec (p := l[i].p) (c := c') hrep2 (hr.up fun b o hb => plus_split hl (perm_count fun D_ a_ => by simp only [Value.cells, List.count_append, List.count_cons, List.count_nil, List.nil_append, List.cons_append]; omega) (Sub.self.up hl b o hb)) (by omega) (by omega)
      rintro v h2 ⟨rfl, hrep2'⟩
      refine ⟨fun _ => {}, rfl, ?_⟩
      refine h_stop fun hl => ?_
      refine does_loop2 (y9 := g13) (hb1 := h1) (hb2 := h2) (by omega) hrep1' hrep2' ?_ n' 0 _ _ hO jk l[i].p.d l[i].p.f l[i].p.t A1 n' c1 _ (Nat.zero_add _) (by omega) (show List.Perm (h2 ++ (h1 ++ (PB g13 l[i].p A1 n' c1 :: (hO ++ jk)))) (PB g13 l[i].p A1 n' c1 :: (hO ++ (h1 ++ (h2 ++ jk)))) from (perm_count fun D_ a_ => by simp only [Value.cells, List.count_append, List.count_cons, List.count_nil, List.nil_append, List.cons_append]; omega)) ho
      intro u3 h3 hp3
      exact ih (i + 1) u3 h3 h1 h2 _ (by omega) hp3 hrep1' hrep2' (by simp; omega)
    refine h_ite (fun e1 => ?_) (fun e1 => ?_)
    · -- At
      refine h_index a rfl (sz := 6) (by kernel_rfl) (by omega) (by omega) rfl ?_
      dsimp only
      rw [Int.toNat_natCast]
      refine h_loadI (by kernel_rfl) ((hc 1 _ rfl).sub Sub.self) ?_
      dsimp only
      refine h_call [] _ ca_link_Bag_At (List.Perm.refl _) (fun hl => at_spec (hrep1.read hl hs1)) ?_
      intro v h1 hq
      obtain ⟨p, A1, n1, c1, b, rfl, ho, hn1, hK⟩ : ∃ (p : Pk) (A1 : Option Addr) (n1 c1 : Nat) (b : Bool), v = .tuple #[p.v A1 n1 c1, .bool b] ∧ OwnB A1 n1 c1 p.B h1 ∧ n1 ≤ 1000000 ∧
          ∀ (K : Ctx) (v2 : Value), RAtQ K L l[i].i v2 → ∃ A2 n2 c2, v2 = .tuple #[p.v A2 n2 c2, .bool b] ∧ RdB K A2 n2 p.B := by
        unfold AtQ at hq
        split at hq
        · rename_i hin
          obtain ⟨p, A1, c1, hLi, rfl, hoB, hbB⟩ := hq
          refine ⟨p, A1, p.B.length, c1, true, rfl, hoB, by omega, ?_⟩
          intro K v2 hq2
          unfold RAtQ at hq2
          rw [if_pos hin, hLi] at hq2
          obtain ⟨p2, A2, n2, c2, hpe, rfl, hrB, -⟩ := hq2
          injection hpe with hpe
          subst hpe
          exact ⟨A2, n2, c2, rfl, hrB⟩
        · rename_i hin
          obtain ⟨rfl, rfl⟩ := hq
          refine ⟨noPk, none, 0, 0, false, rfl, Own.nil _ _, by omega, ?_⟩
          intro K v2 hq2
          unfold RAtQ at hq2
          rw [if_neg hin] at hq2
          exact ⟨none, 0, 0, hq2, noB⟩
      refine ⟨getL [{ i := p.d }, { i := p.f }, { i := p.t }, { A := A1, n := n1, c := c1 }, { b := b }], rfl, ?_⟩
      dsimp only [getL]
      refine h_alloc zb_Packet fun g24 hg24 hI24 => ?_
      refine h_store 0 rfl (by kernel_rfl) (Nat.le_of_ble_eq_true rfl) (by simp [Value.cells]) ?_
      refine h_index a rfl (sz := 6) (by kernel_rfl) (by omega) (by omega) rfl ?_
      dsimp only
      rw [Int.toNat_natCast]
      refine h_loadI (by kernel_rfl) ((hc 1 _ rfl).sub Sub.self) ?_
      dsimp only
      refine holds_live fun hl0 => ?_
      refine h_call [] _ ca_octroiref20_Bag_At (List.Perm.refl _) (fun hl => rat_spec (hrep2.read hl (fun x hx => List.mem_cons_of_mem _ (List.mem_append_right _ (hs2 x hx))))) ?_
      rintro v2 h2 ⟨hq2, rfl⟩
      obtain ⟨A2, n2, c2, rfl, hrB⟩ := hK _ _ hq2
      refine ⟨getL [{ i := p.d }, { i := p.f }, { i := p.t }, { A := A2, n := n2, c := c2 }, { b := b }], rfl, ?_⟩
      dsimp only [getL]
      refine h_alloc zb_Packet fun g28 hg28 hI28 => ?_
      refine h_store 0 rfl (by kernel_rfl) (Nat.le_of_ble_eq_true rfl) (by simp [Value.cells]) ?_
      refine h_loadA (cs := [.int .i64 p.d, .int .i64 p.f, .int .i64 p.t, .slice A1 n1 c1]) (getL [{ i := p.d }, { i := p.f }, { i := p.t }, { A := A1, n := n1, c := c1 }]) (by kernel_rfl) (by kernel_rfl) (cells_at (j := 1) rfl rfl) rfl ?_; dsimp only [getL]
      refine h_loadA (cs := [.int .i64 p.d, .int .i64 p.f, .int .i64 p.t, .slice A2 n2 c2]) (getL [{ i := p.d }, { i := p.f }, { i := p.t }, { A := A2, n := n2, c := c2 }]) (by kernel_rfl) (by kernel_rfl) (cells_at (j := 0) rfl rfl) rfl ?_; dsimp only [getL]
      refine h_call0 (v := .bool (p.eqb p)) (fun _ => { b := p.eqb p }) ca_octroilaw20_same (fun hl => same_spec (p := p) (q := p) (c1 := c1) (c2 := c2) (ho.rdb hl (fun x hx => List.mem_cons_of_mem _ (List.mem_cons_of_mem _ (List.mem_append_left _ hx)))) (hrB.up fun b o hb => plus_has hl ((sub_plus (fun x hx => List.mem_cons_of_mem _ hx)) b o hb))) rfl ?_
      rw [eqb_self]
      refine h_yes rfl ?_
      refine h_stop fun hl => ?_
      rw [show (b == b) = true by simp]
      refine does_loop3 (y9 := g24) (hb1 := hb1) (hb2 := hb2) (by omega) hrep1 hrep2 ?_ n1 0 _ _ h1 (PB g28 p A2 n2 c2 :: jk) p.d p.f p.t A1 n1 c1 _ (Nat.zero_add _) hn1 ?_ ho
      · intro u3 h3 hp3
        exact ih (i + 1) u3 h3 hb1 hb2 _ (by omega) hp3 hrep1 hrep2 (by omega)
      · refine (((hp.append_left h1).cons _).cons _).trans ?_
        show List.Perm (PB g28 p A2 n2 c2 :: PB g24 p A1 n1 c1 :: (h1 ++ (hb1 ++ (hb2 ++ jk)))) (PB g24 p A1 n1 c1 :: (h1 ++ (hb1 ++ (hb2 ++ (PB g28 p A2 n2 c2 :: jk)))))
        exact (perm_count fun D_ a_ => by simp only [Value.cells, List.count_append, List.count_cons, List.count_nil, List.nil_append, List.cons_append]; omega)
    refine h_ite (fun e2 => ?_) (fun e2 => ?_)
    · -- Take
      refine h_index a rfl (sz := 6) (by kernel_rfl) (by omega) (by omega) rfl ?_
      dsimp only
      rw [Int.toNat_natCast]
      refine h_loadI (by kernel_rfl) ((hc 1 _ rfl).sub Sub.self) ?_
      dsimp only
      refine h_call hb1 (hb2 ++ jk) ca_link_Bag_Take hp (fun hl => take_spec hrep1 (by omega)) ?_
      intro v h1 hq
      obtain ⟨p, A1, n1, c1, b, hB1, hR, L', rfl, hp1, ho, hrepR, hL', hK⟩ : ∃ (p : Pk) (A1 : Option Addr) (n1 c1 : Nat) (b : Bool) (hB1 hR : Mem) (L' : List Pk), v = .tuple #[p.v A1 n1 c1, .bool b] ∧ h1.Perm (hB1 ++ hR) ∧ OwnB A1 n1 c1 p.B hB1 ∧ BagRep 46 g L' hR ∧ L'.length ≤ L.length ∧
          ∀ (v2 : Value) (h2 : Mem), RTakeQ y6 L l[i].i v2 h2 → ∃ A2 n2 c2, v2 = .tuple #[p.v A2 n2 c2, .bool b] ∧ RdB (plus noC h2) A2 n2 p.B ∧ BagRep 43 y6 L' h2 := by
        unfold TakeQ at hq
        split at hq
        · rename_i hin
          obtain ⟨p, A1, c1, hB1, hR, hLi, rfl, hp1, hoB, hbB, hrepR⟩ := hq
          refine ⟨p, A1, p.B.length, c1, true, hB1, hR, _, rfl, hp1, hoB, hrepR, List.length_eraseIdx_le .., ?_⟩
          intro v2 h2 hq2
          unfold RTakeQ at hq2
          rw [if_pos hin, hLi] at hq2
          obtain ⟨p2, A2, n2, c2, hpe, rfl, hrB, -, hrep2'⟩ := hq2
          injection hpe with hpe
          subst hpe
          exact ⟨A2, n2, c2, rfl, hrB, hrep2'⟩
        · rename_i hin
          obtain ⟨rfl, hrepR⟩ := hq
          refine ⟨noPk, none, 0, 0, false, [], h1, L, rfl, List.Perm.refl _, Own.nil _ _, hrepR, Nat.le_refl _, ?_⟩
          intro v2 h2 hq2
          unfold RTakeQ at hq2
          rw [if_neg hin] at hq2
          exact ⟨none, 0, 0, hq2.1, noB, hq2.2⟩
      refine ⟨getL [{ i := p.d }, { i := p.f }, { i := p.t }, { A := A1, n := n1, c := c1 }, { b := b }], rfl, ?_⟩
      dsimp only [getL]
      refine h_alloc zb_Packet fun g35 hg35 hI35 => ?_
      refine h_store 0 rfl (by kernel_rfl) (Nat.le_of_ble_eq_true rfl) (by simp [Value.cells]) ?_
      refine h_index a rfl (sz := 6) (by kernel_rfl) (by omega) (by omega) rfl ?_
      dsimp only
      rw [Int.toNat_natCast]
      refine h_loadI (by kernel_rfl) ((hc 1 _ rfl).sub Sub.self) ?_
      dsimp only
      refine h_call hb2 (PB g35 p A1 n1 c1 :: (h1 ++ jk)) ca_octroiref20_Bag_Take (show List.Perm (PB g35 p A1 n1 c1 :: (h1 ++ (hb2 ++ jk))) _ from (perm_count fun D_ a_ => by simp only [Value.cells, List.count_append, List.count_cons, List.count_nil, List.nil_append, List.cons_append]; omega)) (fun hl => rtake_spec hrep2 (by omega)) ?_
      intro v2 h2 hq2
      obtain ⟨A2, n2, c2, rfl, hrB, hrep2'⟩ := hK _ _ hq2
      refine ⟨getL [{ i := p.d }, { i := p.f }, { i := p.t }, { A := A2, n := n2, c := c2 }, { b := b }], rfl, ?_⟩
      dsimp only [getL]
      refine h_alloc zb_Packet fun g39 hg39 hI39 => ?_
      refine h_store 0 rfl (by kernel_rfl) (Nat.le_of_ble_eq_true rfl) (by simp [Value.cells]) ?_
      have hB1m : ∀ {x : Nat × Obj}, x ∈ hB1 → x ∈ h1 := fun hx => hp1.mem_iff.2 (List.mem_append_left _ hx)
      have hRm : ∀ {x : Nat × Obj}, x ∈ hR → x ∈ h1 := fun hx => hp1.mem_iff.2 (List.mem_append_right _ hx)
      refine h_loadA (cs := [.int .i64 p.d, .int .i64 p.f, .int .i64 p.t, .slice A1 n1 c1]) (getL [{ i := p.d }, { i := p.f }, { i := p.t }, { A := A1, n := n1, c := c1 }]) (by kernel_rfl) (by kernel_rfl) (cells_mem (List.mem_cons_of_mem _ (List.mem_append_right _ List.mem_cons_self)) rfl) rfl ?_; dsimp only [getL]
      refine h_loadA (cs := [.int .i64 p.d, .int .i64 p.f, .int .i64 p.t, .slice A2 n2 c2]) (getL [{ i := p.d }, { i := p.f }, { i := p.t }, { A := A2, n := n2, c := c2 }]) (by kernel_rfl) (by kernel_rfl) (cells_at (j := 0) rfl rfl) rfl ?_; dsimp only [getL]
      refine h_call0 (v := .bool (p.eqb p)) (fun _ => { b := p.eqb p }) ca_octroilaw20_same (fun hl => same_spec (p := p) (q := p) (c1 := c1) (c2 := c2) (ho.rdb hl (fun x hx => List.mem_cons_of_mem _ (List.mem_append_right _ (List.mem_cons_of_mem _ (List.mem_append_left _ (hB1m hx)))))) (hrB.up fun b o hb => plus_has hl (.inl (List.mem_cons_of_mem _ (List.mem_append_left _ (own_mem hb)))))) rfl ?_
      rw [eqb_self]
      refine h_yes rfl ?_
      refine h_no (by simp) ?_
      refine does_tail hrepR hrep2' (fun x hx => List.mem_cons_of_mem _ (List.mem_append_right _ (List.mem_cons_of_mem _ (List.mem_append_left _ (hRm hx))))) (fun x hx => List.mem_cons_of_mem _ (List.mem_append_left _ hx)) fun l1 l2 => ?_
      refine h_stop fun hl => ?_
      rw [wrapS (by omega)]
      refine ih (i + 1) _ _ hR h2 _ (by omega) ⟨PB g39 p A2 n2 c2 :: PB g35 p A1 n1 c1 :: (hB1 ++ jk), ?_⟩ hrepR hrep2' (by omega)
      show List.Perm (PB g39 p A2 n2 c2 :: (h2 ++ (PB g35 p A1 n1 c1 :: (h1 ++ jk)))) _
      refine ((((hp1.append_right jk).cons _).append_left h2).cons _).trans ?_
      exact (perm_count fun D_ a_ => by simp only [Value.cells, List.count_append, List.count_cons, List.count_nil, List.nil_append, List.cons_append]; omega)
    refine h_ite (fun e3 => ?_) (fun e3 => ?_)
    · -- Double
      refine h_index a rfl (sz := 6) (by kernel_rfl) (by omega) (by omega) rfl ?_
      dsimp only
      rw [Int.toNat_natCast]
      refine h_loadI (by kernel_rfl) ((hc 1 _ rfl).sub Sub.self) ?_
      refine h_index a rfl (sz := 6) (by kernel_rfl) (by omega) (by omega) rfl ?_
      dsimp only
      rw [Int.toNat_natCast]
      refine h_loadI (by kernel_rfl) ((hc 1 _ rfl).sub Sub.self) ?_
      dsimp only
      refine h_call hb1 (hb2 ++ jk) ca_link_Bag_Double hp (fun hl => double_spec hrep1 (by omega)) ?_
      rintro v h1 ⟨rfl, hrep1'⟩
      refine ⟨fun _ => { b := inL L l[i].i }, rfl, ?_⟩
      refine h_pin (rwp_vN (rw_load1 (by kernel_rfl) ((hc 1 _ rfl).sub Sub.self) rfl)) ?_
      refine h_pin (rwp_vN (rw_index (sz := 6) rfl (by kernel_rfl) (by omega) (by omega) rfl (by rw [Int.toNat_natCast]))) ?_
      refine h_call hb2 (h1 ++ jk) ca_octroiref20_Bag_Double (perm_count fun D_ a_ => by simp only [Value.cells, List.count_append, List.count_cons, List.count_nil, List.nil_append, List.cons_append]; omega) (fun hl => rdouble_spec hrep2 (by omega)) ?_
      rintro v h2 ⟨rfl, hrep2'⟩
      refine ⟨fun _ => { b := inL L l[i].i }, rfl, ?_⟩
      refine h_no (by simp) ?_
      refine does_tail hrep1' hrep2' (fun x hx => by simp [hx]) (fun x hx => by simp [hx]) fun l1 l2 => ?_
      refine h_stop fun hl => ?_
      rw [wrapS (by omega)]
      exact ih (i + 1) _ _ h1 h2 _ (by omega) ⟨jk, (perm_count fun D_ a_ => by simp only [Value.cells, List.count_append, List.count_cons, List.count_nil, List.nil_append, List.cons_append]; omega)⟩ hrep1' hrep2' (by have := dbl_le L l[i].i; omega)
    refine h_ite (fun e4 => ?_) (fun e4 => ?_)
    · -- Cut
      refine h_index a rfl (sz := 6) (by kernel_rfl) (by omega) (by omega) rfl ?_
      dsimp only
      rw [Int.toNat_natCast]
      refine h_loadI (by kernel_rfl) ((hc 2 _ rfl).sub Sub.self) ?_
      refine h_index a rfl (sz := 6) (by kernel_rfl) (by omega) (by omega) rfl ?_
      dsimp only
      rw [Int.toNat_natCast]
      refine h_loadI (by kernel_rfl) (by rw [add_add (a.add (i * 6))]; exact (hc 3 _ rfl).sub Sub.self) ?_
      refine h_index a rfl (sz := 6) (by kernel_rfl) (by omega) (by omega) rfl ?_
      dsimp only
      rw [Int.toNat_natCast]
      refine h_loadI (by kernel_rfl) (by rw [add_add (a.add (i * 6))]; exact (hc 4 _ rfl).sub Sub.self) ?_
      refine h_index a rfl (sz := 6) (by kernel_rfl) (by omega) (by omega) rfl ?_
      dsimp only
      rw [Int.toNat_natCast]
      refine h_loadI (by kernel_rfl) ((hc 2 _ rfl).sub Sub.self) ?_
      refine h_index a rfl (sz := 6) (by kernel_rfl) (by omega) (by omega) rfl ?_
      dsimp only
      rw [Int.toNat_natCast]
      refine h_loadI (by kernel_rfl) (by rw [add_add (a.add (i * 6))]; exact (hc 3 _ rfl).sub Sub.self) ?_
      refine h_index a rfl (sz := 6) (by kernel_rfl) (by omega) (by omega) rfl ?_
      dsimp only
      rw [Int.toNat_natCast]
      refine h_loadI (by kernel_rfl) (by rw [add_add (a.add (i * 6))]; exact (hc 4 _ rfl).sub Sub.self) ?_
      dsimp only
      refine h_call hb1 (hb2 ++ jk) ca_link_Bag_Cut hp (fun hl => cut_spec hrep1 (by omega)) ?_
      rintro v h1 ⟨rfl, hrep1'⟩
      refine ⟨fun _ => { i := ((L.length - (left l[i].p.d l[i].p.f l[i].p.t L).length : Nat) : Int) }, rfl, ?_⟩
      refine h_pin (rwp_vN (rw_load1 (by kernel_rfl) (by rw [add_add (a.add (i * 6))]; exact (hc 4 _ rfl).sub Sub.self) rfl)) ?_
      refine h_pin (rwp_vN (rw_index (sz := 6) rfl (by kernel_rfl) (by omega) (by omega) rfl (by rw [Int.toNat_natCast]))) ?_
      refine h_pin (rwp_vN (rw_load1 (by kernel_rfl) (by rw [add_add (a.add (i * 6))]; exact (hc 3 _ rfl).sub Sub.self) rfl)) ?_
      refine h_pin (rwp_vN (rw_index (sz := 6) rfl (by kernel_rfl) (by omega) (by omega) rfl (by rw [Int.toNat_natCast]))) ?_
      refine h_pin (rwp_vN (rw_load1 (by kernel_rfl) ((hc 2 _ rfl).sub Sub.self) rfl)) ?_
      refine h_pin (rwp_vN (rw_index (sz := 6) rfl (by kernel_rfl) (by omega) (by omega) rfl (by rw [Int.toNat_natCast]))) ?_
      refine h_call hb2 (h1 ++ jk) ca_octroiref20_Bag_Cut (perm_count fun D_ a_ => by simp only [Value.cells, List.count_append, List.count_cons, List.count_nil, List.nil_append, List.cons_append]; omega) (fun hl => rcut_spec hrep2 (by omega)) ?_
      rintro v h2 ⟨rfl, hrep2'⟩
      refine ⟨fun _ => { i := ((L.length - (left l[i].p.d l[i].p.f l[i].p.t L).length : Nat) : Int) }, rfl, ?_⟩
      refine h_no (by simp) ?_
      refine does_tail hrep1' hrep2' (fun x hx => by simp [hx]) (fun x hx => by simp [hx]) fun l1 l2 => ?_
      refine h_stop fun hl => ?_
      rw [wrapS (by omega)]
      exact ih (i + 1) _ _ h1 h2 _ (by omega) ⟨jk, (perm_count fun D_ a_ => by simp only [Value.cells, List.count_append, List.count_cons, List.count_nil, List.nil_append, List.cons_append]; omega)⟩ hrep1' hrep2' (by have : (left l[i].p.d l[i].p.f l[i].p.t L).length ≤ L.length := List.length_filter_le ..; omega)
    · refine h_no rfl ?_
      refine does_tail hrep1 hrep2 hs1 hs2 fun l1 l2 => ?_
      refine h_stop fun hl => ?_
      rw [wrapS (by omega)]
      exact ih (i + 1) _ _ hb1 hb2 _ (by omega) ⟨jk, hp⟩ hrep1 hrep2 (by omega)
theorem law_LinkDoes {J : Ctx} {A : Option Addr} {c : Nat} {l : List Opp} (hops : OpsIn J A l) : Fn Try.prog 5 #[.slice A l.length c] J [] (fun v h' => v = .bool true ∧ h' = []) := by
  refine r_octroilaw20_LinkDoes _ _ _ ?_
  refine h_call0 (fun _ => { b := true }) ca_octroilaw20_awake (fun hl => awake_spec) rfl ?_
  refine h_call0 (fun _ => { b := fewB l }) ca_octroilaw20_few (fun hl => few_spec (hops.up (Sub.self.up hl))) rfl ?_
  refine h_call [] _ ca_link_New (List.Perm.refl _) (fun hl => new_spec) ?_
  rintro v h1 ⟨g, rfl, hrep⟩
  refine ⟨fun _ => { A := some ⟨g, 0, none⟩ }, rfl, ?_⟩
  dsimp only
  rw [List.append_nil]
  refine h_no rfl ?_
  refine h_ite (fun hb => ?_) (fun hb => ?_)
  · refine h_yes rfl ?_
    refine h_rdn (fun _ => { b := true }) (rw_neNil (.inr rfl) (by kernel_rfl) rfl) ?_
    exact h_end0 ⟨rfl, rfl⟩
  · refine h_rdn (fun _ => { b := false }) (rw_neNil (.inl rfl) (by kernel_rfl) rfl) ?_
    refine h_no rfl ?_
    refine h_box fun y6 hy6 hI6 => ?_
    refine h_stop fun hl => ?_
    unfold fewB at hb
    simp at hb
    exact does_loop1 hops hb.1 (fun o ho => hb.2 o ho) l.length 0 _ _ h1 [(y6, .cells #[.slice none 0 0] 43 (0, 0))] [] (by omega) ⟨[], show List.Perm ((y6, .cells #[.slice none 0 0] 43 (0, 0)) :: h1) _ from (perm_count fun D_ a_ => by simp only [Value.cells, List.count_append, List.count_cons, List.count_nil, List.nil_append, List.cons_append]; omega)⟩ hrep ⟨none, 0, [], [], [], List.Perm.refl _, Own.nil _ _, rfl, by simp⟩ (by simp)
theorem row_LinkDoes {J : Ctx} {v : Value} {l : List Opp} (s : ∃ a n c, v = .slice a n c) (h : elSl opC J l v.cells.toList) : Fn Try.prog 5 #[v] J [] (fun v h' => v = .bool true ∧ h' = []) := by
  obtain ⟨A, c, cs, rfl, hr, hrow⟩ := sl_form s h
  exact law_LinkDoes ⟨cs, hr, hrow⟩
end Go.Proofs.YthkfeonpnplemaaS
