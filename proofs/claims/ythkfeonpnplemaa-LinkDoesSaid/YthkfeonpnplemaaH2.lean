import Derived.Test.YthkfeonpnplemaaH1
set_option linter.unusedVariables false
namespace Go.Proofs.YthkfeonpnplemaaS
theorem pksC.get {J : Ctx} : ∀ {l : List Pk} {cs : List Value} {i : Nat} {p : Pk}, pksC J l cs → l[i]? = some p → ∃ c, pkC J p c ∧ ∀ q v, c[q]? = some v → cs[i * 4 + q]? = some v
  | [], _, i, p, _, hp => by simp at hp
  | x :: l, _, 0, p, ⟨c, r, e, h1, h2⟩, hp => by
    simp at hp
    subst hp
    refine ⟨c, h1, fun q v hq => ?_⟩
    rw [e, Nat.zero_mul, Nat.zero_add, List.getElem?_append_left (List.getElem?_eq_some_iff.1 hq).1]
    exact hq
  | x :: l, _, i + 1, p, ⟨c, r, e, h1, h2⟩, hp => by
    obtain ⟨c', h3, h4⟩ := pksC.get h2 (by simpa using hp)
    refine ⟨c', h3, fun q v hq => ?_⟩
    rw [e, List.getElem?_append_right (by rw [h1.len]; omega), h1.len, show (i + 1) * 4 + q - 4 = i * 4 + q by omega]
    exact h4 q v hq
/-- A bag that is read. -/
def BagIn (ty : TypeId) (J : Ctx) (g : Nat) (L : List Pk) : Prop :=
  ∃ A c cs fz, J g = some (.cells #[.slice A L.length c] ty fz) ∧ RdC J [] A cs ∧ pksC J L cs ∧ (A = none → L.length = 0) ∧ ∀ p ∈ L, p.B.length ≤ 1000000
theorem BagRep.read {ty : TypeId} {I : Ctx} {g : Nat} {L : List Pk} {h h' : Mem} (hr : BagRep ty g L h) (hl : Live I h') (hs : ∀ x ∈ h, x ∈ h') : BagIn ty (plus I h') g L := by
  obtain ⟨A, c, cs, m, hb, hp, ho, hk, hall⟩ := hr
  have hm : ∀ x, x ∈ (g, Obj.cells #[.slice A L.length c] ty (0, 0)) :: (m ++ hb) → x ∈ h' := fun x hx => hs x (hp.mem_iff.2 hx)
  refine ⟨A, c, cs, (0, 0), plus_has hl (.inl (hm _ List.mem_cons_self)), (ho.rd fun x hx => hm x (List.mem_cons_of_mem _ (List.mem_append_left _ hx))).all hl, hk.up fun b o hb' => ?_, ho.some_of, hall⟩
  exact plus_has hl (.inl (hm _ (List.mem_cons_of_mem _ (List.mem_append_right _ (own_mem hb')))))
theorem cell_J {I : Ctx} {h : Mem} {g o : Nat} {cs : Array Value} {t : TypeId} {fz : Nat × Nat} {v : Value} (hJ : I g = some (.cells cs t fz)) (hv : cs[o]? = some v) : CellIs I h ⟨g, o, none⟩ v := ⟨rfl, cs, t, fz, .inr hJ, hv⟩

theorem len_spec {J : Ctx} {g : Nat} {L : List Pk} (hb : BagIn 46 J g L) : Fn Try.prog 11 #[.pointer (some ⟨g, 0, none⟩)] J [] (fun v h' => v = .int .i64 (L.length : Int) ∧ h' = []) := by
  obtain ⟨A, c, cs, fz, hg, hrd, hpk, hA, hall⟩ := hb
  refine r_link_Bag_Len _ ?_
  refine h_loadL (by kernel_rfl) (cell_J hg rfl) ?_
  exact h_end0 ⟨rfl, rfl⟩

def noPk : Pk := ⟨0, 0, 0, []⟩
/-- What a call at place i answers. -/
def AtQ (L : List Pk) (i : Int) (v : Value) (m : Mem) : Prop :=
  if 0 ≤ i ∧ i < (L.length : Int) then ∃ p A c, L[i.toNat]? = some p ∧ v = .tuple #[p.v A p.B.length c, .bool true] ∧ OwnB A p.B.length c p.B m ∧ p.B.length ≤ 1000000 else v = .tuple #[noPk.v none 0 0, .bool false] ∧ m = []
theorem at_spec {J : Ctx} {g : Nat} {L : List Pk} {i : Int} (hb : BagIn 46 J g L) : Fn Try.prog 13 #[.pointer (some ⟨g, 0, none⟩), .int .i64 i] J [] (AtQ L i) := by
  obtain ⟨A, c, cs, fz, hg, hrd, hpk, hA, hall⟩ := hb
  refine r_link_Bag_At _ _ ?_
  refine h_alloc zb_Packet fun g1 hg1 hI1 => ?_
  refine h_ite (fun h0 => ?_) (fun h0 => ?_)
  · have h0 : i < 0 := by simpa using h0
    refine h_store 0 rfl (by kernel_rfl) (Nat.le_of_ble_eq_true rfl) (by simp [Value.cells]) ?_
    refine h_loadVA (cs := [.int .i64 0, .int .i64 0, .int .i64 0, .slice none 0 0]) (getL [{ i := 0 }, { i := 0 }, { i := 0 }, { A := none, n := 0, c := 0 }]) (by kernel_rfl) (by kernel_rfl) (cells_at (j := 0) rfl rfl) rfl ?_; dsimp only [getL]
    exact h_end0 (by unfold AtQ; rw [if_neg (by omega)]; exact ⟨rfl, rfl⟩)
  · have h0 : ¬ i < 0 := by simpa using h0
    refine h_loadL (by kernel_rfl) (cell_J hg rfl) ?_
    refine h_ite (fun h1 => ?_) (fun h1 => ?_)
    · have h1 : i ≥ (L.length : Int) := by simpa using h1
      refine h_store 0 rfl (by kernel_rfl) (Nat.le_of_ble_eq_true rfl) (by simp [Value.cells]) ?_
      refine h_loadVA (cs := [.int .i64 0, .int .i64 0, .int .i64 0, .slice none 0 0]) (getL [{ i := 0 }, { i := 0 }, { i := 0 }, { A := none, n := 0, c := 0 }]) (by kernel_rfl) (by kernel_rfl) (cells_at (j := 0) rfl rfl) rfl ?_; dsimp only [getL]
      exact h_end0 (by unfold AtQ; rw [if_neg (by omega)]; exact ⟨rfl, rfl⟩)
    · have h1 : ¬ i ≥ (L.length : Int) := by simpa using h1
      have hlt : i.toNat < L.length := by omega
      obtain ⟨p, hp⟩ : ∃ p, L[i.toNat]? = some p := ⟨_, List.getElem?_eq_getElem hlt⟩
      obtain ⟨c4, ⟨A', n', c', rfl, hB⟩, hc4⟩ := hpk.get hp
      have hne : cs ≠ [] := by
        intro he
        have := hc4 0 _ rfl
        rw [he] at this
        simp at this
      obtain ⟨a, rfl, hcells⟩ := hrd hne
      refine h_loadL (by kernel_rfl) (cell_J hg rfl) ?_
      dsimp only
      refine h_index a rfl (sz := 4) (by kernel_rfl) (by omega) (by omega) rfl ?_
      dsimp only
      refine h_loadA (cs := [.int .i64 p.d, .int .i64 p.f, .int .i64 p.t, .slice A' n' c']) (getL [{ i := p.d }, { i := p.f }, { i := p.t }, { A := A', n := n', c := c' }]) (by kernel_rfl) (by kernel_rfl) (fun q v hq => by rw [add_add]; exact ((hcells _ v (hc4 q v hq)).sub Sub.self)) rfl ?_; dsimp only [getL]
      refine h_call [] _ ca_link_owned (List.Perm.refl _) (fun hl => owned_spec (hB.up (Sub.self.up hl)) (by have := hB.len; have := hall p (List.mem_of_getElem? hp); omega)) ?_
      rintro v h1' ⟨A2, c2, rfl, ho⟩
      refine ⟨getL [{ i := p.d }, { i := p.f }, { i := p.t }, { A := A2, n := n', c := c2 }], rfl, ?_⟩
      dsimp only [getL]
      refine holds_perm (cl_.aff _) (List.perm_append_comm) ?_
      refine h_store 0 rfl (by kernel_rfl) (Nat.le_of_ble_eq_true rfl) (by simp [Value.cells]) ?_
      refine h_loadVA (cs := [.int .i64 p.d, .int .i64 p.f, .int .i64 p.t, .slice A2 n' c2]) (getL [{ i := p.d }, { i := p.f }, { i := p.t }, { A := A2, n := n', c := c2 }]) (by kernel_rfl) (by kernel_rfl) (cells_at (j := 0) rfl rfl) rfl ?_; dsimp only [getL]
      have hn : n' = p.B.length := hB.len.symm
      subst hn
      exact h_endR [_] rfl (by unfold AtQ; rw [if_pos (by omega)]; exact ⟨p, A2, c2, hp, rfl, ho, hall p (List.mem_of_getElem? hp)⟩)
end Go.Proofs.YthkfeonpnplemaaS
