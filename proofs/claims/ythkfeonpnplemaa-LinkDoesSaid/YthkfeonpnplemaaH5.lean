import Derived.Test.YthkfeonpnplemaaH4
set_option linter.unusedVariables false
namespace Go.Proofs.YthkfeonpnplemaaS
/-- The three blocks of what the closure keeps. -/
def Cap (J : Ctx) (d x y : Int) (g0 g1 g2 : Nat) : Prop := (∃ f, J g0 = some (.cells #[.int .i64 d] 3 f)) ∧ (∃ f, J g1 = some (.cells #[.int .i64 x] 3 f)) ∧ ∃ f, J g2 = some (.cells #[.int .i64 y] 3 f)
theorem Cap.up {J J' : Ctx} {d x y : Int} {g0 g1 g2 : Nat} (h : Cap J d x y g0 g1 g2) (hs : ∀ b o, J b = some o → J' b = some o) : Cap J' d x y g0 g1 g2 := by
  obtain ⟨⟨f0, h0⟩, ⟨f1, h1⟩, ⟨f2, h2⟩⟩ := h
  exact ⟨⟨f0, hs _ _ h0⟩, ⟨f1, hs _ _ h1⟩, ⟨f2, hs _ _ h2⟩⟩
theorem Cap.spec {I : Ctx} {p : Pk} {A : Option Addr} {n c : Nat} {d x y : Int} {g0 g1 g2 : Nat} (h : Cap I d x y g0 g1 g2) :
    Fn Try.prog 24 #[p.v A n c, .pointer (some ⟨g0, 0, none⟩), .pointer (some ⟨g1, 0, none⟩), .pointer (some ⟨g2, 0, none⟩)] I [] (fun v h' => v = .bool (onLink d x y p) ∧ h' = []) := by
  obtain ⟨⟨f0, h0⟩, ⟨f1, h1⟩, ⟨f2, h2⟩⟩ := h
  exact closure_spec h0 h1 h2

theorem index_loop {J J' : Ctx} {d x y : Int} {g0 g1 g2 : Nat} (hcap : Cap J d x y g0 g1 g2) {A : Option Addr} {c : Nat} {L : List Pk} {cs : List Value} (hrd : RdC J [] A cs) (hpk : pksC J' L cs) (hbd : L.length ≤ 1000000) :
    ∀ (k i : Nat) (u : Nat → Value) (h : Mem), i + k = L.length → (∀ q p, q < i → L[q]? = some p → onLink d x y p = false) →
    Wp Try.prog 28 k_slices_IndexFunc_Packet_1 (t_slices_IndexFunc_Packet_1 A L.length c g0 g1 g2 i u) J h (cl_ fun v h' => v = .int .i64 (match L.findIdx? (onLink d x y) with | some q => (q : Int) | none => -1) ∧ h' = []) := by
  intro k
  induction k with
  | zero =>
    intro i u h hik hno
    refine r_slices_IndexFunc_Packet_1 _ _ _ _ _ _ _ _ ?_
    refine h_no (by simp; omega) ?_
    refine h_end0 ⟨?_, rfl⟩
    have : L.findIdx? (onLink d x y) = none := by
      rw [List.findIdx?_eq_none_iff]
      intro p hp
      obtain ⟨q, hq⟩ := List.getElem?_of_mem hp
      exact hno q p (by have := (List.getElem?_eq_some_iff.1 hq).1; omega) hq
    rw [this]
  | succ k ih =>
    intro i u h hik hno
    have hi : i < L.length := by omega
    obtain ⟨p, hp⟩ : ∃ p, L[i]? = some p := ⟨_, List.getElem?_eq_getElem hi⟩
    obtain ⟨c4, ⟨A', n', c', rfl, hB⟩, hc4⟩ := hpk.get hp
    obtain ⟨a, rfl, hcells⟩ := hrd (fun he => by have := hc4 0 _ rfl; rw [he] at this; simp at this)
    refine r_slices_IndexFunc_Packet_1 _ _ _ _ _ _ _ _ ?_
    refine h_yes (by simp; omega) ?_
    refine h_index a rfl (sz := 4) (by kernel_rfl) (by omega) (by omega) rfl ?_
    dsimp only
    rw [Int.toNat_natCast]
    refine h_loadA (cs := [.int .i64 p.d, .int .i64 p.f, .int .i64 p.t, .slice A' n' c']) (getL [{ i := p.d }, { i := p.f }, { i := p.t }, { A := A', n := n', c := c' }]) (by kernel_rfl) (by kernel_rfl) ((hcells.sub Sub.self).at _ hc4) rfl ?_; dsimp only [getL]
    refine h_call0 (fun _ => { b := onLink d x y p }) ca_link_Bag_Cut_1 (fun hl => (hcap.up (Sub.self.up hl)).spec) rfl ?_
    refine h_ite (fun hb => ?_) (fun hb => ?_)
    · refine h_end0 ⟨?_, rfl⟩
      have : L.findIdx? (onLink d x y) = some i := by
        rw [List.findIdx?_eq_some_iff_getElem]
        refine ⟨hi, ?_, fun j hji => ?_⟩
        · have := (List.getElem?_eq_some_iff.1 hp).2
          rw [this]; exact hb
        · have := hno j _ hji (List.getElem?_eq_getElem (by omega))
          simp [this]
      rw [this]
    · refine h_stop fun hl => ?_
      rw [wrapS (by omega)]
      refine ih (i + 1) _ h (by omega) ?_
      intro q p' hq hp'
      by_cases hqi : q = i
      · subst hqi
        rw [hp] at hp'
        injection hp' with hp'
        subst hp'
        exact hb
      · exact hno q p' (by omega) hp'
theorem index_spec {J J' : Ctx} {d x y : Int} {g0 g1 g2 : Nat} (hcap : Cap J d x y g0 g1 g2) {A : Option Addr} {c : Nat} {L : List Pk} {cs : List Value} (hrd : RdC J [] A cs) (hpk : pksC J' L cs) (hbd : L.length ≤ 1000000) :
    Fn Try.prog 28 #[.slice A L.length c, .func (.func 24) #[] #[.pointer (some ⟨g0, 0, none⟩), .pointer (some ⟨g1, 0, none⟩), .pointer (some ⟨g2, 0, none⟩)]] J []
      (fun v h' => v = .int .i64 (match L.findIdx? (onLink d x y) with | some q => (q : Int) | none => -1) ∧ h' = []) := by
  refine r_slices_IndexFunc_Packet _ _ _ _ _ _ ?_
  refine h_stop fun hl => ?_
  exact index_loop hcap hrd hpk hbd L.length 0 _ [] (by omega) (by omega)

theorem wr_mid {c1 mid cp c3 : List Value} {i : Nat} (h1 : c1.length = i * 4) (h2 : cp.length = 4) : wrL (c1 ++ mid ++ (cp ++ c3)) (i * 4) cp = c1 ++ cp ++ (mid ++ cp).drop 4 ++ c3 := by
  unfold wrL
  rw [List.append_assoc c1 mid, List.take_append_of_le_length (by omega), List.take_of_length_le (by omega), List.append_assoc, List.append_assoc (c1 ++ cp), List.append_assoc c1 cp]
  congr 1
  congr 1
  rw [List.drop_append, List.drop_of_length_le (l := c1) (by omega), show i * 4 + cp.length - c1.length = 4 by omega, ← List.append_assoc mid, List.drop_append_of_le_length (by simp; omega)]
  rfl
theorem delF_loop {I J' : Ctx} {d x y : Int} {g0 g1 g2 : Nat} (hcap : Cap I d x y g0 g1 g2) {a : Addr} {c : Nat} {L : List Pk} (hbd : L.length ≤ 1000000) :
    ∀ (k i j : Nat) (u : Nat → Value) (h hr m : Mem) (L' : List Pk) (c1 mid c2 : List Value), j + k = L.length → i < j → L' = (L.take j).filter (fun p => !onLink d x y p) → i = L'.length → h.Perm (m ++ hr) → Own 29 4 (some a) L.length c (c1 ++ mid ++ c2) m →
      pksC J' L' c1 → pksC J' (L.drop j) c2 →
    Wp Try.prog 23 k_slices_DeleteFunc_Packet_1 (t_slices_DeleteFunc_Packet_1 (some a) L.length c g0 g1 g2 i j u) I h
      (cl_ fun v h' => ∃ cs', v = .slice (some a) (L.filter (fun p => !onLink d x y p)).length c ∧ Own 29 4 (some a) (L.filter (fun p => !onLink d x y p)).length c cs' h' ∧ pksC J' (L.filter (fun p => !onLink d x y p)) cs') := by
  intro k
  induction k with
  | zero =>
    intro i j u h hr m L' c1 mid c2 hjk hij hL' hi hp ho h1 h2
    have hj : j = L.length := by omega
    subst hj
    rw [List.take_length] at hL'
    have hll : L'.length ≤ L.length := by rw [hL']; exact List.length_filter_le ..
    have l1 := h1.len
    have lo := ho.1
    have lc := ho.2.1
    refine r_slices_DeleteFunc_Packet_1 _ _ _ _ _ _ _ _ _ ?_
    refine h_no (by simp) ?_
    refine h_cut (e := 29) (sz := 4) i L.length c (by kernel_rfl) (by kernel_rfl) rfl rfl rfl (by simp) (by omega) (by omega) (by omega) ?_
    dsimp only
    refine h_clear eb_Packet (o := i * 4) (cl_.aff _) hp ho (.inr ⟨a, rfl, cutA_some (by omega)⟩) (by omega) (by simp [Value.cells]) ?_
    intro m2 ho3
    refine h_cut (e := 29) (sz := 4) 0 i c (by kernel_rfl) (by kernel_rfl) rfl rfl rfl (by simp) (by omega) (by omega) (by omega) ?_
    simp only [cutA_zero, Nat.sub_zero]
    have ho4 := ho3.cut (i := i) (by omega)
    rw [wrL_take (by omega), List.append_assoc, List.take_append_of_le_length (by omega), List.take_of_length_le (by omega)] at ho4
    subst hi
    subst hL'
    exact h_end (h1 := m2) (g := hr) (List.Perm.refl _) ⟨c1, rfl, ho4, h1⟩
  | succ k ih =>
    intro i j u h hr m L' c1 mid c2 hjk hij hL' hi hp ho h1 h2
    have hj : j < L.length := by omega
    have l1 := h1.len
    have l2 := h2.len
    have lo := ho.1
    have lc := ho.2.1
    simp only [List.length_append, List.length_drop] at lo l2
    have lm : mid.length = (j - i) * 4 := by omega
    have hd : L.drop j = L[j] :: L.drop (j + 1) := List.drop_eq_getElem_cons hj
    rw [hd] at h2
    obtain ⟨cp, c3, rfl, hcp, h3⟩ := h2
    have hcpl := hcp.len
    have htk : L.take (j + 1) = L.take j ++ [L[j]] := by rw [List.take_succ_eq_append_getElem hj]
    obtain ⟨A', n', c', rfl, hB⟩ := hcp
    refine r_slices_DeleteFunc_Packet_1 _ _ _ _ _ _ _ _ _ ?_
    refine h_yes (by simp; omega) ?_
    refine h_index a rfl (sz := 4) (by kernel_rfl) (by omega) (by omega) rfl ?_
    dsimp only
    rw [Int.toNat_natCast]
    refine h_loadA (cs := [.int .i64 L[j].d, .int .i64 L[j].f, .int .i64 L[j].t, .slice A' n' c']) (getL [{ i := L[j].d }, { i := L[j].f }, { i := L[j].t }, { A := A', n := n', c := c' }]) (by kernel_rfl) (by kernel_rfl) ((ho.cells hp).at (j * 4) (fun q v hq => by rw [List.getElem?_append_right (by simp; omega), show j * 4 + q - (c1 ++ mid).length = q by simp; omega, List.getElem?_append_left (List.getElem?_eq_some_iff.1 hq).1]; exact hq)) rfl ?_; dsimp only [getL]
    refine h_alloc zb_Packet fun g4 hg4 hI4 => ?_
    refine h_store 0 rfl (by kernel_rfl) (Nat.le_of_ble_eq_true rfl) (by simp [Value.cells]) ?_
    refine h_loadA (cs := [.int .i64 L[j].d, .int .i64 L[j].f, .int .i64 L[j].t, .slice A' n' c']) (getL [{ i := L[j].d }, { i := L[j].f }, { i := L[j].t }, { A := A', n := n', c := c' }]) (by kernel_rfl) (by kernel_rfl) (cells_at (j := 0) rfl rfl) rfl ?_; dsimp only [getL]
    refine h_call0 (fun _ => { b := onLink d x y L[j] }) ca_link_Bag_Cut_1 (fun hl => (hcap.up (Sub.self.up hl)).spec) rfl ?_
    refine h_ite (fun hb => ?_) (fun hb => ?_)
    · have hb : onLink d x y L[j] = false := by simpa using hb
      refine h_loadA (cs := [.int .i64 L[j].d, .int .i64 L[j].f, .int .i64 L[j].t, .slice A' n' c']) (getL [{ i := L[j].d }, { i := L[j].f }, { i := L[j].t }, { A := A', n := n', c := c' }]) (by kernel_rfl) (by kernel_rfl) (cells_at (j := 0) rfl rfl) rfl ?_; dsimp only [getL]
      refine h_index a rfl (sz := 4) (by kernel_rfl) (by omega) (by omega) rfl ?_
      dsimp only
      rw [Int.toNat_natCast]
      refine h_storeE (i * 4) (m := m) (hr := (g4, .cells #[.int .i64 L[j].d, .int .i64 L[j].f, .int .i64 L[j].t, .slice A' n' c'] 29 (0, 0)) :: hr) (cl_.aff _) ?_ ho rfl (by kernel_rfl) (by simp [Value.cells]; omega) (by simp [Value.cells]) ?_
      · exact (hp.cons _).trans (List.perm_middle.symm)
      intro m' ho'
      refine h_stop fun hl => ?_
      rw [wrapS (by omega), wrapS (by omega)]
      refine ih (i + 1) (j + 1) _ _ ((g4, .cells #[.int .i64 L[j].d, .int .i64 L[j].f, .int .i64 L[j].t, .slice A' n' c'] 29 (0, 0)) :: hr) m' (L' ++ [L[j]]) (c1 ++ [.int .i64 L[j].d, .int .i64 L[j].f, .int .i64 L[j].t, .slice A' n' c']) (List.drop 4 (mid ++ [.int .i64 L[j].d, .int .i64 L[j].f, .int .i64 L[j].t, .slice A' n' c'])) c3 (by omega) (by omega) ?_ (by simp [hi]) (List.Perm.refl _) ?_ (h1.append ⟨_, [], by simp, ⟨A', n', c', rfl, hB⟩, rfl⟩) h3
      · rw [htk, List.filter_append, hL']
        simp [hb]
      · have hw := wr_mid (c1 := c1) (mid := mid) (cp := [.int .i64 L[j].d, .int .i64 L[j].f, .int .i64 L[j].t, .slice A' n' c']) (c3 := c3) (i := i) (by omega) rfl
        rw [← hw]
        exact ho'
    · have hb : onLink d x y L[j] = true := by simpa using hb
      refine h_stop fun hl => ?_
      rw [wrapS (by omega)]
      refine ih i (j + 1) _ _ ((g4, .cells #[.int .i64 L[j].d, .int .i64 L[j].f, .int .i64 L[j].t, .slice A' n' c'] 29 (0, 0)) :: hr) m L' c1 (mid ++ [.int .i64 L[j].d, .int .i64 L[j].f, .int .i64 L[j].t, .slice A' n' c']) c3 (by omega) (by omega) ?_ hi ?_ ?_ h1 h3
      · rw [htk, List.filter_append, hL']
        simp [hb]
      · exact (hp.cons _).trans (List.perm_middle.symm)
      · simpa using ho
end Go.Proofs.YthkfeonpnplemaaS
