import Derived.Test.YthkfeonpnplemaaH9
set_option linter.unusedVariables false
namespace Go.Proofs.YthkfeonpnplemaaS
/-- The packets, at hand. -/
def PksIn (J : Ctx) (A : Option Addr) (l : List Pk) : Prop := ∃ cs, RdC J [] A cs ∧ rowC (pkC J) l cs
theorem PksIn.up {J J' : Ctx} {A : Option Addr} {l : List Pk} (h : PksIn J A l) (hs : ∀ b o, J b = some o → J' b = some o) : PksIn J' A l := by
  obtain ⟨cs, h1, h2⟩ := h
  exact ⟨cs, h1.up hs, h2.mono fun o c h => h.up hs⟩
theorem PksIn.get {J : Ctx} {A : Option Addr} {l : List Pk} (h : PksIn J A l) {i : Nat} (hi : i < l.length) : ∃ a A' n c, A = some a ∧ RdB J A' n l[i].B ∧
    Cells J [] (a.add (i * 4)) [.int .i64 l[i].d, .int .i64 l[i].f, .int .i64 l[i].t, .slice A' n c] := by
  obtain ⟨cs, h1, h2⟩ := h
  obtain ⟨a, c, rfl, ⟨A', n, c', rfl, hr⟩, hc⟩ := h2.at (fun p c h => pkC.len h) h1 (by omega) (List.getElem?_eq_getElem hi)
  exact ⟨a, A', n, c', rfl, hr, hc⟩
theorem eqb_self (p : Pk) : p.eqb p = true := by simp [Pk.eqb]
theorem order_loop2 {J : Ctx} {g : Nat} {A : Option Addr} {c : Nat} {l : List Pk} (hin : PksIn J A l) (hbd : l.length ≤ 100) :
    ∀ (q i : Nat) (u : Nat → Value) (h hb : Mem), i + q = l.length → BagRep 46 g (l.drop i) hb → (∃ hr, h.Perm (hb ++ hr)) →
    Wp Try.prog 4 k_octroilaw20_LinkOrder_2 (t_octroilaw20_LinkOrder_2 A l.length c (some ⟨g, 0, none⟩) i u) J h (cl_ fun v h' => v = .bool true ∧ h' = []) := by
  intro q
  induction q with
  | zero =>
    rintro i u h hb hiq hrep ⟨hr, hp⟩
    rw [List.drop_of_length_le (by omega)] at hrep
    refine r_octroilaw20_LinkOrder_2 _ _ _ _ _ _ ?_
    refine h_no (by simp; omega) ?_
    refine h_call hb hr ca_link_Bag_Take hp (fun hl => take_spec hrep (by simp)) ?_
    intro v h1 hq
    unfold TakeQ at hq
    rw [if_neg (by simp)] at hq
    obtain ⟨rfl, hrep1⟩ := hq
    refine ⟨getL [{ i := 0 }, { i := 0 }, { i := 0 }, { A := none, n := 0, c := 0 }, { b := false }], rfl, ?_⟩
    dsimp only [getL]
    refine h_alloc zb_Packet fun g3 hg3 hI3 => ?_
    refine h_store 0 rfl (by kernel_rfl) (Nat.le_of_ble_eq_true rfl) (by simp [Value.cells]) ?_
    refine h_yes rfl ?_
    refine h_call0 (fun _ => { i := 0 }) ca_link_Bag_Len (fun hl => len_spec (hrep1.read hl (fun x hx => List.mem_cons_of_mem _ (List.mem_append_left _ hx)))) rfl ?_
    exact h_end0 ⟨rfl, rfl⟩
  | succ q ih =>
    rintro i u h hb hiq hrep ⟨hr, hp⟩
    have hi : i < l.length := by omega
    obtain ⟨a, A', n', c', rfl, hr', hc⟩ := hin.get hi
    refine r_octroilaw20_LinkOrder_2 _ _ _ _ _ _ ?_
    refine h_yes (by simp; omega) ?_
    refine h_call hb hr ca_link_Bag_Take hp (fun hl => take_spec hrep (by simp; omega)) ?_
    intro v h1 hq
    unfold TakeQ at hq
    rw [if_pos (by simp; omega), List.drop_eq_getElem_cons hi] at hq
    obtain ⟨p, A1, c1, hB, hR, hpe, rfl, hp1, hoB, hbB, hrep1⟩ := hq
    have hpe : some l[i] = some p := hpe
    injection hpe with hpe
    subst hpe
    simp only [Int.toNat_zero, List.eraseIdx_cons_zero] at hrep1
    refine ⟨getL [{ i := l[i].d }, { i := l[i].f }, { i := l[i].t }, { A := A1, n := l[i].B.length, c := c1 }, { b := true }], rfl, ?_⟩
    dsimp only [getL]
    refine h_alloc zb_Packet fun g3 hg3 hI3 => ?_
    refine h_store 0 rfl (by kernel_rfl) (Nat.le_of_ble_eq_true rfl) (by simp [Value.cells]) ?_
    refine h_loadA (cs := [.int .i64 l[i].d, .int .i64 l[i].f, .int .i64 l[i].t, .slice A1 l[i].B.length c1]) (getL [{ i := l[i].d }, { i := l[i].f }, { i := l[i].t }, { A := A1, n := l[i].B.length, c := c1 }]) (by kernel_rfl) (by kernel_rfl) (cells_at (j := 0) rfl rfl) rfl ?_; dsimp only [getL]
    refine h_index a rfl (sz := 4) (by kernel_rfl) (by omega) (by omega) rfl ?_
    dsimp only
    rw [Int.toNat_natCast]
    refine h_loadA (cs := [.int .i64 l[i].d, .int .i64 l[i].f, .int .i64 l[i].t, .slice A' n' c']) (getL [{ i := l[i].d }, { i := l[i].f }, { i := l[i].t }, { A := A', n := n', c := c' }]) (by kernel_rfl) (by kernel_rfl) (hc.sub Sub.self) rfl ?_; dsimp only [getL]
    refine h_call0 (fun _ => { b := true }) ca_octroilaw20_same (fun hl => ?_) rfl ?_
    · have h2 := same_spec (I := plus J ((g3, .cells #[.int .i64 l[i].d, .int .i64 l[i].f, .int .i64 l[i].t, .slice A1 l[i].B.length c1] 29 (0, 0)) :: (h1 ++ hr))) (p := l[i]) (q := l[i]) (c1 := c1) (c2 := c') (hoB.rdb hl (fun x hx => List.mem_cons_of_mem _ (List.mem_append_left _ (hp1.mem_iff.2 (List.mem_append_left _ hx))))) (hr'.up (Sub.self.up hl))
      rw [eqb_self] at h2
      exact h2
    refine h_no rfl ?_
    refine h_no rfl ?_
    refine h_stop fun hl => ?_
    rw [wrapS (by omega)]
    refine ih (i + 1) _ _ hR (by omega) hrep1 ⟨(g3, .cells #[.int .i64 l[i].d, .int .i64 l[i].f, .int .i64 l[i].t, .slice A1 l[i].B.length c1] 29 (0, 0)) :: (hB ++ hr), ?_⟩
    refine ((hp1.append_right hr).cons _).trans ?_
    show List.Perm ((g3, .cells #[.int .i64 l[i].d, .int .i64 l[i].f, .int .i64 l[i].t, .slice A1 l[i].B.length c1] 29 (0, 0)) :: ((hB ++ hR) ++ hr)) _
    exact (perm_count fun D_ a_ => by simp only [Value.cells, List.count_append, List.count_cons, List.count_nil, List.nil_append, List.cons_append]; omega)
theorem order_loop1 {J : Ctx} {g : Nat} {A : Option Addr} {c : Nat} {l : List Pk} (hin : PksIn J A l) (hbd : l.length ≤ 100) :
    ∀ (q i : Nat) (u : Nat → Value) (h : Mem), i + q = l.length → BagRep 46 g (l.take i) h →
    Wp Try.prog 4 k_octroilaw20_LinkOrder_1 (t_octroilaw20_LinkOrder_1 A l.length c (some ⟨g, 0, none⟩) i u) J h (cl_ fun v h' => v = .bool true ∧ h' = []) := by
  intro q
  induction q with
  | zero =>
    rintro i u h hiq hrep
    rw [List.take_of_length_le (by omega)] at hrep
    refine r_octroilaw20_LinkOrder_1 _ _ _ _ _ _ ?_
    refine h_no (by simp; omega) ?_
    refine h_stop fun hl => ?_
    exact order_loop2 hin hbd l.length 0 _ h h (by omega) hrep ⟨[], by simp⟩
  | succ q ih =>
    rintro i u h hiq hrep
    have hi : i < l.length := by omega
    obtain ⟨a, A', n', c', rfl, hr, hc⟩ := hin.get hi
    refine r_octroilaw20_LinkOrder_1 _ _ _ _ _ _ ?_
    refine h_yes (by simp; omega) ?_
    refine h_index a rfl (sz := 4) (by kernel_rfl) (by omega) (by omega) rfl ?_
    dsimp only
    rw [Int.toNat_natCast]
    refine h_loadL (by kernel_rfl) ((hc 3 _ rfl).sub Sub.self) ?_
    have hn := hr.len
    refine h_ite (fun hb => h_end0 ⟨rfl, rfl⟩) (fun hb => ?_)
    refine h_index a rfl (sz := 4) (by kernel_rfl) (by omega) (by omega) rfl ?_
    dsimp only
    rw [Int.toNat_natCast]
    refine h_loadA (cs := [.int .i64 l[i].d, .int .i64 l[i].f, .int .i64 l[i].t, .slice A' n' c']) (getL [{ i := l[i].d }, { i := l[i].f }, { i := l[i].t }, { A := A', n := n', c := c' }]) (by kernel_rfl) (by kernel_rfl) (hc.sub Sub.self) rfl ?_; dsimp only [getL]
    refine h_call h [] ca_link_Bag_Send (by simp) (fun hl => by rw [plus_nil]; exact send_spec (I := J) (p := l[i]) (c := c') hrep hr (by simp at hb; omega) (by simp; omega)) (Qc := fun v h' => v = undef ∧ BagRep 46 g (l.take i ++ [l[i]]) h') ?_
    rintro v h1 ⟨rfl, hrep1⟩
    refine ⟨fun _ => {}, rfl, ?_⟩
    rw [List.append_nil]
    refine h_stop fun hl => ?_
    rw [wrapS (by omega)]
    refine ih (i + 1) _ h1 (by omega) ?_
    rw [List.take_succ_eq_append_getElem hi]
    exact hrep1
theorem law_LinkOrder {J : Ctx} {A : Option Addr} {c : Nat} {l : List Pk} (hin : PksIn J A l) : Fn Try.prog 4 #[.slice A l.length c] J [] (fun v h' => v = .bool true ∧ h' = []) := by
  refine r_octroilaw20_LinkOrder _ _ _ ?_
  refine h_call0 (fun _ => { b := true }) ca_octroilaw20_awake (fun hl => awake_spec) rfl ?_
  refine h_call [] _ ca_link_New (List.Perm.refl _) (fun hl => new_spec) ?_
  rintro v h1 ⟨g, rfl, hrep⟩
  refine ⟨fun _ => { A := some ⟨g, 0, none⟩ }, rfl, ?_⟩
  dsimp only
  rw [List.append_nil]
  refine h_no rfl ?_
  refine h_rdn (fun _ => { b := false }) (rw_neNil (.inl rfl) (by kernel_rfl) rfl) ?_
  refine h_no rfl ?_
  refine h_ite (fun hb => ?_) (fun hb => ?_)
  · refine h_yes rfl ?_
    refine h_rdn (fun _ => { b := true }) (rw_neNil (.inr rfl) (by kernel_rfl) rfl) ?_
    exact h_end0 ⟨rfl, rfl⟩
  · refine h_stop fun hl => ?_
    simp at hb
    exact order_loop1 hin (by omega) l.length 0 _ h1 (by omega) hrep
theorem row_LinkOrder {J : Ctx} {v : Value} {l : List Pk} (s : ∃ a n c, v = .slice a n c) (h : elSl pkC J l v.cells.toList) : Fn Try.prog 4 #[v] J [] (fun v h' => v = .bool true ∧ h' = []) := by
  obtain ⟨A, c, cs, rfl, hr, hrow⟩ := sl_form s h
  exact law_LinkOrder ⟨cs, hr, hrow⟩
end Go.Proofs.YthkfeonpnplemaaS
