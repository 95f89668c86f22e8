import Derived.Test.YthkfeonpnplemaaH10
set_option linter.unusedVariables false
namespace Go.Proofs.YthkfeonpnplemaaS
theorem cells_mem {I : Ctx} {h : Mem} {b off : Nat} {arr : Array Value} {t : TypeId} {fz : Nat × Nat} {cs : List Value} (hm : (b, .cells arr t fz) ∈ h) (hv : (arr.toList.drop off).take cs.length = cs) : Cells I h ⟨b, off, none⟩ cs := by
  obtain ⟨j, hj⟩ := List.getElem?_of_mem hm
  exact cells_at hj hv
theorem eqb_eq {p q : Pk} (h : p.eqb q = true) : p = q := by
  unfold Pk.eqb at h
  simp only [Bool.and_eq_true, beq_iff_eq] at h
  obtain ⟨h1, h2, h3, h4⟩ := h
  cases p; cases q
  simp_all
/-- Among the first i calls one sends p. -/
def wasSent (l : List Opp) (i : Nat) (p : Pk) : Prop := ∃ (k : Nat) (o : Opp), k < i ∧ l[k]? = some o ∧ o.k = 0 ∧ o.p = p
theorem wasSent.mono {l : List Opp} {i j : Nat} {p : Pk} (h : wasSent l i p) (hij : i ≤ j) : wasSent l j p := by
  obtain ⟨k, o, h1, h2⟩ := h
  exact ⟨k, o, by omega, h2⟩
theorem sent_loop2 {J : Ctx} {g y7 : Nat} {A : Option Addr} {c : Nat} {l : List Opp} (hops : OpsIn J A l) (hbd : l.length ≤ 100) {i : Nat} (hi : i < l.length) {hb : Mem}
    (hk : ∀ (u : Nat → Value) (h : Mem), (∃ hr, h.Perm (hb ++ hr)) → Wp Try.prog 6 k_octroilaw20_LinkSent_1 (t_octroilaw20_LinkSent_1 A l.length c (some ⟨g, 0, none⟩) ((i + 1 : Nat) : Int) u) J h (cl_ fun v h' => v = .bool true ∧ h' = [])) :
    ∀ (q k : Nat) (u : Nat → Value) (h : Mem) (fnd : Bool), k + q = i → (∃ hr, h.Perm (hb ++ hr)) →
      (fnd = true ∨ ∃ (p : Pk) (A1 : Option Addr) (c1 : Nat) (hB : Mem), (y7, .cells #[.int .i64 p.d, .int .i64 p.f, .int .i64 p.t, .slice A1 p.B.length c1] 29 (0, 0)) ∈ h ∧ OwnB A1 p.B.length c1 p.B hB ∧ (∀ x ∈ hB, x ∈ h) ∧
        ∃ (j : Nat) (o : Opp), k ≤ j ∧ j < i ∧ l[j]? = some o ∧ o.k = 0 ∧ o.p = p) →
    Wp Try.prog 6 k_octroilaw20_LinkSent_2 (t_octroilaw20_LinkSent_2 A l.length c (some ⟨g, 0, none⟩) i y7 fnd k u) J h (cl_ fun v h' => v = .bool true ∧ h' = []) := by
  intro q
  induction q with
  | zero =>
    rintro k u h fnd hkq hp hf
    have hfnd : fnd = true := by
      rcases hf with hf | ⟨_, _, _, _, _, _, _, j, _, h1, h2, _⟩
      · exact hf
      · omega
    subst hfnd
    refine r_octroilaw20_LinkSent_2 _ _ _ _ _ _ _ _ _ ?_
    refine h_no (by simp; omega) ?_
    refine h_no rfl ?_
    refine h_stop fun hl => ?_
    rw [wrapS (by omega)]
    exact hk _ h hp
  | succ q ih =>
    rintro k u h fnd hkq hp hf
    refine r_octroilaw20_LinkSent_2 _ _ _ _ _ _ _ _ _ ?_
    refine h_yes (by simp; omega) ?_
    cases fnd with
    | true =>
      refine h_no rfl ?_
      refine h_no rfl ?_
      refine h_stop fun hl => ?_
      rw [wrapS (by omega)]
      exact hk _ h hp
    | false =>
      rcases hf with hf | ⟨p, A1, c1, hB, hy, hoB, hsub, j, o, hkj, hji, hlj, ho1, ho2⟩
      · cases hf
      have hkl : k < l.length := by omega
      obtain ⟨a, A', n', c', rfl, hr, hc⟩ := hops.get hkl
      refine h_yes rfl ?_
      refine h_loadA (cs := [.int .i64 p.d, .int .i64 p.f, .int .i64 p.t, .slice A1 p.B.length c1]) (getL [{ i := p.d }, { i := p.f }, { i := p.t }, { A := A1, n := p.B.length, c := c1 }]) (by kernel_rfl) (by kernel_rfl) (cells_mem hy rfl) rfl ?_; dsimp only [getL]
      refine h_index a rfl (sz := 6) (by kernel_rfl) (by omega) (by omega) rfl ?_
      dsimp only
      rw [Int.toNat_natCast]
      refine h_loadA (cs := [.int .i64 l[k].p.d, .int .i64 l[k].p.f, .int .i64 l[k].p.t, .slice A' n' c']) (getL [{ i := l[k].p.d }, { i := l[k].p.f }, { i := l[k].p.t }, { A := A', n := n', c := c' }]) (by kernel_rfl) (by kernel_rfl) (fun q v hq => by rw [add_add]; exact (hc (2 + q) v (by rw [Nat.add_comm]; exact hq)).sub Sub.self) rfl ?_; dsimp only [getL]
      refine h_call0 (v := .bool (p.eqb l[k].p)) (fun _ => { b := p.eqb l[k].p }) ca_octroilaw20_same (fun hl => same_spec (p := p) (q := l[k].p) (c1 := c1) (c2 := c') (hoB.rdb hl hsub) (hr.up (Sub.self.up hl))) rfl ?_
      have hne : j = k → (p.eqb l[k].p = true ∧ l[k].k = 0) := by
        rintro rfl
        rw [List.getElem?_eq_getElem hkl] at hlj
        injection hlj with hlj
        subst hlj
        subst ho2
        exact ⟨eqb_self _, ho1⟩
      refine h_ite (fun e1 => ?_) (fun e1 => ?_)
      · refine h_index a rfl (sz := 6) (by kernel_rfl) (by omega) (by omega) rfl ?_
        dsimp only
        rw [Int.toNat_natCast]
        refine h_loadI (by kernel_rfl) (by have := (hc 0 _ rfl).sub (h := h) Sub.self; rwa [addr_add0] at this) ?_
        refine h_stop fun hl => ?_
        rw [wrapS (by omega)]
        refine ih (k + 1) _ h _ (by omega) hp ?_
        by_cases hk0 : l[k].k = 0
        · left; dsimp only; rw [hk0]; rfl
        · right
          refine ⟨p, A1, c1, hB, hy, hoB, hsub, j, o, ?_, hji, hlj, ho1, ho2⟩
          rcases Nat.lt_or_eq_of_le hkj with h1 | h1
          · omega
          · exact absurd (hne h1.symm).2 hk0
      · refine h_stop fun hl => ?_
        rw [wrapS (by omega)]
        refine ih (k + 1) _ h false (by omega) hp (.inr ⟨p, A1, c1, hB, hy, hoB, hsub, j, o, ?_, hji, hlj, ho1, ho2⟩)
        rcases Nat.lt_or_eq_of_le hkj with h1 | h1
        · omega
        · have := (hne h1.symm).1; dsimp only at e1; rw [this] at e1; cases e1
theorem dbl_mem {L : List Pk} {i : Int} {p : Pk} (h : p ∈ dbl L i) : p ∈ L := by
  unfold dbl at h
  split at h
  · rcases List.mem_append.1 h with h | h
    · exact h
    · rw [Option.mem_toList] at h
      exact List.mem_of_getElem? h
  · exact h
theorem dbl_le (L : List Pk) (i : Int) : (dbl L i).length ≤ L.length + 1 := by
  unfold dbl
  split
  · rw [List.length_append]
    cases L[i.toNat]? <;> simp
  · omega
theorem sent_loop1 {J : Ctx} {g : Nat} {A : Option Addr} {c : Nat} {l : List Opp} (hops : OpsIn J A l) (hbd : l.length ≤ 100) (hB : ∀ o ∈ l, o.p.B.length ≤ 300) :
    ∀ (q i : Nat) (u : Nat → Value) (h hb : Mem) (L : List Pk), i + q = l.length → (∃ hr, h.Perm (hb ++ hr)) → BagRep 46 g L hb → L.length ≤ i → (∀ p ∈ L, wasSent l i p) →
    Wp Try.prog 6 k_octroilaw20_LinkSent_1 (t_octroilaw20_LinkSent_1 A l.length c (some ⟨g, 0, none⟩) i u) J h (cl_ fun v h' => v = .bool true ∧ h' = []) := by
  intro q
  induction q with
  | zero =>
    intro i u h hb L hiq hp hrep hL hs
    refine r_octroilaw20_LinkSent_1 _ _ _ _ _ _ ?_
    refine h_no (by simp; omega) ?_
    exact h_end0 ⟨rfl, rfl⟩
  | succ q ih =>
    rintro i u h hb L hiq ⟨hr0, hp⟩ hrep hL hs
    have hi : i < l.length := by omega
    obtain ⟨a, A', n', c', rfl, hr, hc⟩ := hops.get hi
    refine r_octroilaw20_LinkSent_1 _ _ _ _ _ _ ?_
    refine h_yes (by simp; omega) ?_
    refine h_index a rfl (sz := 6) (by kernel_rfl) (by omega) (by omega) rfl ?_
    dsimp only
    rw [Int.toNat_natCast]
    refine h_loadI (by kernel_rfl) (by have := (hc 0 _ rfl).sub (h := h) Sub.self; rwa [addr_add0] at this) ?_
    dsimp only
    refine h_ite (fun e0 => ?_) (fun e0 => ?_)
    · refine h_index a rfl (sz := 6) (by kernel_rfl) (by omega) (by omega) rfl ?_
      dsimp only
      rw [Int.toNat_natCast]
      refine h_loadA (cs := [.int .i64 l[i].p.d, .int .i64 l[i].p.f, .int .i64 l[i].p.t, .slice A' n' c']) (getL [{ i := l[i].p.d }, { i := l[i].p.f }, { i := l[i].p.t }, { A := A', n := n', c := c' }]) (by kernel_rfl) (by kernel_rfl) (fun q v hq => by rw [add_add]; exact (hc (2 + q) v (by rw [Nat.add_comm]; exact hq)).sub Sub.self) rfl ?_; dsimp only [getL]
      refine h_call hb hr0 ca_link_Bag_Send hp (fun hl => send_spec (I := plus J hr0) (p := l[i].p) (c := c') hrep (hr.up (Sub.self.up ((hl.perm (hp.trans List.perm_append_comm)).left))) (by have := hB _ (List.getElem_mem hi); omega) (by omega)) (Qc := fun v h' => v = undef ∧ BagRep 46 g (L ++ [l[i].p]) h') ?_
      rintro v h1 ⟨rfl, hrep1⟩
      refine ⟨fun _ => {}, rfl, ?_⟩
      refine h_stop fun hl => ?_
      rw [wrapS (by omega)]
      refine ih (i + 1) _ _ h1 _ (by omega) ⟨hr0, List.Perm.refl _⟩ hrep1 (by simp; omega) ?_
      intro p hpm
      rcases List.mem_append.1 hpm with hpm | hpm
      · exact (hs p hpm).mono (by omega)
      · rw [List.mem_singleton] at hpm
        exact ⟨i, l[i], by omega, List.getElem?_eq_getElem hi, by simpa using e0, hpm.symm⟩
    refine h_ite (fun e2 => ?_) (fun e2 => ?_)
    · refine h_index a rfl (sz := 6) (by kernel_rfl) (by omega) (by omega) rfl ?_
      dsimp only
      rw [Int.toNat_natCast]
      refine h_loadI (by kernel_rfl) ((hc 1 _ rfl).sub Sub.self) ?_
      dsimp only
      refine h_call hb hr0 ca_link_Bag_Take hp (fun hl => take_spec hrep (by omega)) ?_
      intro v h1 hq
      unfold TakeQ at hq
      split at hq
      · rename_i hin
        obtain ⟨p, A1, c1, hB1, hR, hpe, rfl, hp1, hoB, hbB, hrep1⟩ := hq
        refine ⟨getL [{ i := p.d }, { i := p.f }, { i := p.t }, { A := A1, n := p.B.length, c := c1 }, { b := true }], rfl, ?_⟩
        dsimp only [getL]
        refine h_alloc zb_Packet fun g3 hg3 hI3 => ?_
        refine h_store 0 rfl (by kernel_rfl) (Nat.le_of_ble_eq_true rfl) (by simp [Value.cells]) ?_
        refine h_stop fun hl => ?_
        obtain ⟨j, o, hj, hlj, ho1, ho2⟩ := hs p (List.mem_of_getElem? hpe)
        refine sent_loop2 (hb := hR) hops hbd hi ?_ i 0 _ _ false (by omega) ?_ (.inr ⟨p, A1, c1, hB1, List.mem_cons_self, hoB, fun x hx => List.mem_cons_of_mem _ (List.mem_append_left _ (hp1.mem_iff.2 (List.mem_append_left _ hx))), j, o, Nat.zero_le _, hj, hlj, ho1, ho2⟩)
        · intro u2 h2 hp2
          exact ih (i + 1) u2 h2 hR _ (by omega) hp2 hrep1 (by have := List.length_eraseIdx_le L l[i].i.toNat; omega) (fun p hp => (hs p (List.mem_of_mem_eraseIdx hp)).mono (by omega))
        · refine ⟨(g3, .cells #[.int .i64 p.d, .int .i64 p.f, .int .i64 p.t, .slice A1 p.B.length c1] 29 (0, 0)) :: (hB1 ++ hr0), ?_⟩
          refine ((hp1.append_right hr0).cons _).trans ?_
          show List.Perm ((g3, .cells #[.int .i64 p.d, .int .i64 p.f, .int .i64 p.t, .slice A1 p.B.length c1] 29 (0, 0)) :: ((hB1 ++ hR) ++ hr0)) _
          exact (perm_count fun D_ a_ => by simp only [Value.cells, List.count_append, List.count_cons, List.count_nil, List.nil_append, List.cons_append]; omega)
      · obtain ⟨rfl, hrep1⟩ := hq
        refine ⟨getL [{ i := 0 }, { i := 0 }, { i := 0 }, { A := none, n := 0, c := 0 }, { b := false }], rfl, ?_⟩
        dsimp only [getL]
        refine h_alloc zb_Packet fun g3 hg3 hI3 => ?_
        refine h_store 0 rfl (by kernel_rfl) (Nat.le_of_ble_eq_true rfl) (by simp [Value.cells]) ?_
        refine h_stop fun hl => ?_
        refine sent_loop2 (hb := h1) hops hbd hi ?_ i 0 _ _ true (by omega) ?_ (.inl rfl)
        · intro u2 h2 hp2
          exact ih (i + 1) u2 h2 h1 _ (by omega) hp2 hrep1 (by omega) (fun p hp => (hs p hp).mono (by omega))
        · exact ⟨_ :: hr0, List.perm_middle.symm⟩
    refine h_ite (fun e3 => ?_) (fun e3 => ?_)
    · refine h_index a rfl (sz := 6) (by kernel_rfl) (by omega) (by omega) rfl ?_
      dsimp only
      rw [Int.toNat_natCast]
      refine h_loadI (by kernel_rfl) ((hc 1 _ rfl).sub Sub.self) ?_
      dsimp only
      refine h_call hb hr0 ca_link_Bag_Double hp (fun hl => double_spec hrep (by omega)) ?_
      rintro v h1 ⟨rfl, hrep1⟩
      refine ⟨fun _ => { b := inL L l[i].i }, rfl, ?_⟩
      refine h_stop fun hl => ?_
      rw [wrapS (by omega)]
      exact ih (i + 1) _ _ h1 _ (by omega) ⟨hr0, List.Perm.refl _⟩ hrep1 (by have := dbl_le L l[i].i; omega) (fun p hp => (hs p (dbl_mem hp)).mono (by omega))
    refine h_ite (fun e4 => ?_) (fun e4 => ?_)
    · refine h_index a rfl (sz := 6) (by kernel_rfl) (by omega) (by omega) rfl ?_
      dsimp only
      rw [Int.toNat_natCast]
      refine h_loadI (by kernel_rfl) ((hc 2 _ rfl).sub Sub.self) ?_
      refine h_index a rfl (sz := 6) (by kernel_rfl) (by omega) (by omega) rfl ?_
      dsimp only
      rw [Int.toNat_natCast]
      refine h_loadI (by kernel_rfl) (by rw [add_add (a.add (i * 6))]; exact (hc 3 _ rfl).sub Sub.self) ?_
      refine h_index a rfl (sz := 6) (by kernel_rfl) (by omega) (by omega) rfl ?_
      dsimp only
      rw [Int.toNat_natCast]
      refine h_loadI (by kernel_rfl) (by rw [add_add (a.add (i * 6))]; exact (hc 4 _ rfl).sub Sub.self) ?_
      dsimp only
      refine h_call hb hr0 ca_link_Bag_Cut hp (fun hl => cut_spec hrep (by omega)) ?_
      rintro v h1 ⟨rfl, hrep1⟩
      refine ⟨fun _ => { i := ((L.length - (left l[i].p.d l[i].p.f l[i].p.t L).length : Nat) : Int) }, rfl, ?_⟩
      refine h_stop fun hl => ?_
      rw [wrapS (by omega)]
      exact ih (i + 1) _ _ h1 _ (by omega) ⟨hr0, List.Perm.refl _⟩ hrep1 (by have : (left l[i].p.d l[i].p.f l[i].p.t L).length ≤ L.length := List.length_filter_le ..; omega) (fun p hp => (hs p (List.mem_filter.1 hp).1).mono (by omega))
    · refine h_stop fun hl => ?_
      rw [wrapS (by omega)]
      exact ih (i + 1) _ _ hb _ (by omega) ⟨hr0, hp⟩ hrep (by omega) (fun p hp => (hs p hp).mono (by omega))
theorem law_LinkSent {J : Ctx} {A : Option Addr} {c : Nat} {l : List Opp} (hops : OpsIn J A l) : Fn Try.prog 6 #[.slice A l.length c] J [] (fun v h' => v = .bool true ∧ h' = []) := by
  refine r_octroilaw20_LinkSent _ _ _ ?_
  refine h_call0 (fun _ => { b := true }) ca_octroilaw20_awake (fun hl => awake_spec) rfl ?_
  refine h_call0 (fun _ => { b := fewB l }) ca_octroilaw20_few (fun hl => few_spec (hops.up (Sub.self.up hl))) rfl ?_
  refine h_call [] _ ca_link_New (List.Perm.refl _) (fun hl => new_spec) ?_
  rintro v h1 ⟨g, rfl, hrep⟩
  refine ⟨fun _ => { A := some ⟨g, 0, none⟩ }, rfl, ?_⟩
  dsimp only
  rw [List.append_nil]
  refine h_no rfl ?_
  refine h_ite (fun hb => ?_) (fun hb => ?_)
  · refine h_yes rfl ?_
    refine h_rdn (fun _ => { b := true }) (rw_neNil (.inr rfl) (by kernel_rfl) rfl) ?_
    exact h_end0 ⟨rfl, rfl⟩
  · refine h_rdn (fun _ => { b := false }) (rw_neNil (.inl rfl) (by kernel_rfl) rfl) ?_
    refine h_no rfl ?_
    refine h_stop fun hl => ?_
    unfold fewB at hb
    simp at hb
    exact sent_loop1 hops hb.1 (fun o ho => hb.2 o ho) l.length 0 _ h1 h1 [] (by omega) ⟨[], by simp⟩ hrep (by simp) (by simp)
theorem row_LinkSent {J : Ctx} {v : Value} {l : List Opp} (s : ∃ a n c, v = .slice a n c) (h : elSl opC J l v.cells.toList) : Fn Try.prog 6 #[v] J [] (fun v h' => v = .bool true ∧ h' = []) := by
  obtain ⟨A, c, cs, rfl, hr, hrow⟩ := sl_form s h
  exact law_LinkSent ⟨cs, hr, hrow⟩
end Go.Proofs.YthkfeonpnplemaaS
