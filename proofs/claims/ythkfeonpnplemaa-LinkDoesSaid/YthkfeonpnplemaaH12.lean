import Derived.Test.YthkfeonpnplemaaH11
set_option linter.unusedVariables false
namespace Go.Proofs.YthkfeonpnplemaaS
theorem cell_mem {I : Ctx} {h : Mem} {b off : Nat} {arr : Array Value} {t : TypeId} {fz : Nat × Nat} {v : Value} (hm : (b, .cells arr t fz) ∈ h) (hv : arr[off]? = some v) : CellIs I h ⟨b, off, none⟩ v := ⟨rfl, arr, t, fz, .inl hm, hv⟩
theorem rsend_spec {I : Ctx} {g : Nat} {L : List Pk} {h : Mem} {p : Pk} {A : Option Addr} {n c : Nat} (hrep : BagRep 43 g L h) (hr : RdB (plus I h) A n p.B) (hpb : p.B.length ≤ 1000000) (hbd : L.length ≤ 1000000) :
    Fn Try.prog 16 #[.pointer (some ⟨g, 0, none⟩), p.v A n c] I h (fun v h' => v = undef ∧ BagRep 43 g (L ++ [p]) h') := by
  obtain ⟨A0, c0, cs, m, hb, hp, ho, hpk, hall⟩ := hrep
  have hnp := hr.len
  refine Fn.perm ?_ hp
  refine r_octroiref20_Bag_Send _ _ _ _ _ _ _ ?_
  refine h_box fun g1 hg1 hI1 => ?_
  refine h_loadL (by kernel_rfl) (by first | exact cell_own (j := 0) rfl rfl | exact cell_own (j := 1) rfl rfl | exact cell_own (j := 2) rfl rfl | exact cell_own (j := 3) rfl rfl | exact cell_own (j := 4) rfl rfl) ?_
  dsimp only
  refine h_append (cl_.aff _) eb_uint8 (by kernel_rfl) (hr.rd.sub (sub_plus (fun x hx => List.mem_cons_of_mem _ (hp.mem_iff.1 hx)))) hr.nil (by simp; exact hnp) (bC_plain p.B) (m := []) (hr := (g1, .cells #[.int .i64 p.d, .int .i64 p.f, .int .i64 p.t, .slice A n c] 29 (0, 0)) :: (g, .cells #[.slice A0 L.length c0] 43 (0, 0)) :: (m ++ hb)) (List.Perm.refl _) (Own.nil _ _) (by omega) (by omega) ?_
  intro A' c' h1 ho'
  simp only [Nat.zero_add, List.nil_append] at ho' ⊢
  refine holds_perm (cl_.aff _) (List.perm_append_comm) ?_
  refine h_store 0 rfl (by kernel_rfl) (Nat.le_of_ble_eq_true rfl) (by simp [Value.cells]) ?_
  refine h_loadL (by kernel_rfl) (by first | exact cell_own (j := 0) rfl rfl | exact cell_own (j := 1) rfl rfl | exact cell_own (j := 2) rfl rfl | exact cell_own (j := 3) rfl rfl | exact cell_own (j := 4) rfl rfl) ?_
  refine h_loadA (cs := [.int .i64 p.d, .int .i64 p.f, .int .i64 p.t, .slice A' n c']) (getL [{ i := p.d }, { i := p.f }, { i := p.t }, { A := A', n := n, c := c' }]) (by kernel_rfl) (by kernel_rfl) (cells_at (j := 0) rfl rfl) rfl ?_; dsimp only [getL]
  refine h_row (e := 29) #[.int .i64 p.d, .int .i64 p.f, .int .i64 p.t, .slice A' n c'] (by kernel_rfl) fun g2 hg2 hI2 => ?_
  refine h_append (cl_.aff _) eb_Packet (by kernel_rfl) (fun _ => ⟨_, rfl, cells_at (j := 0) (cs := [.int .i64 p.d, .int .i64 p.f, .int .i64 p.t, .slice A' n c']) rfl rfl⟩) (fun h => by cases h) rfl (by simp) (m := m)
    (hr := (g, .cells #[.slice A0 L.length c0] 43 (0, 0)) :: (g2, .cells #[.int .i64 p.d, .int .i64 p.f, .int .i64 p.t, .slice A' n c'] 29 (0, 0)) :: (g1, .cells #[.int .i64 p.d, .int .i64 p.f, .int .i64 p.t, .slice A' n c'] 29 (0, 0)) :: (hb ++ h1)) ?_ ho (by omega) (by omega) ?_
  · show List.Perm ((g2, .cells #[.int .i64 p.d, .int .i64 p.f, .int .i64 p.t, .slice A' n c'] 29 (0, 0)) :: (g1, .cells #[.int .i64 p.d, .int .i64 p.f, .int .i64 p.t, .slice A' n c'] 29 (0, 0)) :: (g, .cells #[.slice A0 L.length c0] 43 (0, 0)) :: ((m ++ hb) ++ h1)) _
    exact (perm_count fun D_ a_ => by simp only [Value.cells, List.count_append, List.count_cons, List.count_nil, List.nil_append, List.cons_append]; omega)
  intro A2 c2 m2 ho2
  refine holds_perm (cl_.aff _) (List.perm_append_comm) ?_
  refine h_store 0 rfl (by kernel_rfl) (Nat.le_of_ble_eq_true rfl) (by simp [Value.cells]) ?_
  refine holds_live fun hl => ?_
  refine h_end (h1 := (g, .cells #[.slice A2 (L.length + 1) c2] 43 (0, 0)) :: (m2 ++ (hb ++ h1))) (g := [(g2, .cells #[.int .i64 p.d, .int .i64 p.f, .int .i64 p.t, .slice A' n c'] 29 (0, 0)), (g1, .cells #[.int .i64 p.d, .int .i64 p.f, .int .i64 p.t, .slice A' n c'] 29 (0, 0))]) ?_
    ⟨rfl, A2, c2, cs ++ [.int .i64 p.d, .int .i64 p.f, .int .i64 p.t, .slice A' n c'], m2, hb ++ h1, ?_, ?_, ?_, ?_⟩
  · show List.Perm ((g, .cells #[.slice A2 (L.length + 1) c2] 43 (0, 0)) :: (_ :: _ :: (hb ++ h1) ++ m2)) _
    exact (perm_count fun D_ a_ => by simp only [Value.cells, List.count_append, List.count_cons, List.count_nil, List.nil_append, List.cons_append]; omega)
  · rw [List.length_append]; exact List.Perm.refl _
  · rw [List.length_append]; exact ho2
  · have hl2 : Live noC ((hb ++ h1)) := by
      have h2 : Live I ((g, .cells #[.slice A2 (L.length + 1) c2] 43 (0, 0)) :: (_ :: _ :: (hb ++ h1) ++ m2)) := hl
      have h3 := h2.tail.tail.tail
      exact h3.left.no
    refine pksC.append (hpk.up fun b o hb' => ?_) ⟨_, [], by simp, ⟨A', n, c', rfl, ?_⟩, rfl⟩
    · exact plus_has hl2 (.inl (List.mem_append_left _ (own_mem hb')))
    · have : OwnB A' n c' p.B h1 := ho'
      exact this.rdb hl2 (fun x hx => List.mem_append_right _ hx)
  · intro q hq
    rcases List.mem_append.1 hq with hq | hq
    · exact hall q hq
    · rw [List.mem_singleton] at hq; rw [hq]; exact hpb
/-- What a call of the document's At at place i answers. -/
def RAtQ (J : Ctx) (L : List Pk) (i : Int) (v : Value) : Prop :=
  if 0 ≤ i ∧ i < (L.length : Int) then ∃ p A n c, L[i.toNat]? = some p ∧ v = .tuple #[p.v A n c, .bool true] ∧ RdB J A n p.B ∧ p.B.length ≤ 1000000 else v = .tuple #[noPk.v none 0 0, .bool false]
/-- A bag that is read, its packets' bytes being told of another context. -/
def BagInK (ty : TypeId) (J K : Ctx) (g : Nat) (L : List Pk) : Prop :=
  ∃ A c cs fz, J g = some (.cells #[.slice A L.length c] ty fz) ∧ RdC J [] A cs ∧ pksC K L cs ∧ (A = none → L.length = 0) ∧ ∀ p ∈ L, p.B.length ≤ 1000000
theorem rat_spec {J K : Ctx} {g : Nat} {L : List Pk} {i : Int} (hb : BagInK 43 J K g L) : Fn Try.prog 17 #[.pointer (some ⟨g, 0, none⟩), .int .i64 i] J [] (fun v h' => RAtQ K L i v ∧ h' = []) := by
  obtain ⟨A, c, cs, fz, hg, hrd, hpk, hA, hall⟩ := hb
  refine r_octroiref20_Bag_At _ _ ?_
  refine h_alloc zb_Packet fun g1 hg1 hI1 => ?_
  refine h_ite (fun h0 => ?_) (fun h0 => ?_)
  · have h0 : i < 0 := by simpa using h0
    refine h_store 0 rfl (by kernel_rfl) (Nat.le_of_ble_eq_true rfl) (by simp [Value.cells]) ?_
    refine h_loadVA (cs := [.int .i64 0, .int .i64 0, .int .i64 0, .slice none 0 0]) (getL [{ i := 0 }, { i := 0 }, { i := 0 }, { A := none, n := 0, c := 0 }]) (by kernel_rfl) (by kernel_rfl) (cells_at (j := 0) rfl rfl) rfl ?_; dsimp only [getL]
    exact h_end0 ⟨by unfold RAtQ; rw [if_neg (by omega)]; rfl, rfl⟩
  · have h0 : ¬ i < 0 := by simpa using h0
    refine h_loadL (by kernel_rfl) (cell_J hg rfl) ?_
    refine h_ite (fun h1 => ?_) (fun h1 => ?_)
    · have h1 : i ≥ (L.length : Int) := by simpa using h1
      refine h_store 0 rfl (by kernel_rfl) (Nat.le_of_ble_eq_true rfl) (by simp [Value.cells]) ?_
      refine h_loadVA (cs := [.int .i64 0, .int .i64 0, .int .i64 0, .slice none 0 0]) (getL [{ i := 0 }, { i := 0 }, { i := 0 }, { A := none, n := 0, c := 0 }]) (by kernel_rfl) (by kernel_rfl) (cells_at (j := 0) rfl rfl) rfl ?_; dsimp only [getL]
      exact h_end0 ⟨by unfold RAtQ; rw [if_neg (by omega)]; rfl, rfl⟩
    · have h1 : ¬ i ≥ (L.length : Int) := by simpa using h1
      have hlt : i.toNat < L.length := by omega
      obtain ⟨p, hp⟩ : ∃ p, L[i.toNat]? = some p := ⟨_, List.getElem?_eq_getElem hlt⟩
      obtain ⟨c4, ⟨A', n', c', rfl, hB⟩, hc4⟩ := hpk.get hp
      have hne : cs ≠ [] := by
        intro he
        have := hc4 0 _ rfl
        rw [he] at this
        simp at this
      obtain ⟨a, rfl, hcells⟩ := hrd hne
      refine h_loadL (by kernel_rfl) (cell_J hg rfl) ?_
      dsimp only
      refine h_index a rfl (sz := 4) (by kernel_rfl) (by omega) (by omega) rfl ?_
      dsimp only
      refine h_loadA (cs := [.int .i64 p.d, .int .i64 p.f, .int .i64 p.t, .slice A' n' c']) (getL [{ i := p.d }, { i := p.f }, { i := p.t }, { A := A', n := n', c := c' }]) (by kernel_rfl) (by kernel_rfl) (fun q v hq => by rw [add_add]; exact ((hcells _ v (hc4 q v hq)).sub Sub.self)) rfl ?_; dsimp only [getL]
      refine h_store 0 rfl (by kernel_rfl) (Nat.le_of_ble_eq_true rfl) (by simp [Value.cells]) ?_
      refine h_loadVA (cs := [.int .i64 p.d, .int .i64 p.f, .int .i64 p.t, .slice A' n' c']) (getL [{ i := p.d }, { i := p.f }, { i := p.t }, { A := A', n := n', c := c' }]) (by kernel_rfl) (by kernel_rfl) (cells_at (j := 0) rfl rfl) rfl ?_; dsimp only [getL]
      exact h_end0 ⟨by unfold RAtQ; rw [if_pos (by omega)]; exact ⟨p, A', n', c', hp, rfl, hB, hall p (List.mem_of_getElem? hp)⟩, rfl⟩
/-- What the document's Take at place i leaves and answers; the bytes stay where they are. -/
def RTakeQ (g : Nat) (L : List Pk) (i : Int) (v : Value) (h : Mem) : Prop :=
  if 0 ≤ i ∧ i < (L.length : Int) then ∃ p A n c, L[i.toNat]? = some p ∧ v = .tuple #[p.v A n c, .bool true] ∧ RdB (plus noC h) A n p.B ∧ p.B.length ≤ 1000000 ∧ BagRep 43 g (L.eraseIdx i.toNat) h
  else v = .tuple #[noPk.v none 0 0, .bool false] ∧ BagRep 43 g L h
theorem rtake_spec {I : Ctx} {g : Nat} {L : List Pk} {h : Mem} {i : Int} (hrep : BagRep 43 g L h) (hbd : L.length ≤ 1000000) :
    Fn Try.prog 18 #[.pointer (some ⟨g, 0, none⟩), .int .i64 i] I h (RTakeQ g L i) := by
  obtain ⟨A0, c0, cs, m, hb, hp, ho, hpk, hall⟩ := hrep
  refine Fn.perm ?_ hp
  refine r_octroiref20_Bag_Take _ _ ?_
  refine h_alloc zb_Packet fun g1 hg1 hI1 => ?_
  refine h_call [] _ ca_octroiref20_Bag_At (List.Perm.refl _) (fun hl => rat_spec (K := plus noC hb) (L := L) ⟨A0, c0, cs, (0, 0), plus_has hl (.inl (by simp)), (ho.rd (fun x hx => by simp [hx])).all hl, hpk, ho.some_of, hall⟩) ?_
  rintro v h1 ⟨hq, rfl⟩
  unfold RAtQ at hq
  split at hq
  · rename_i hin
    obtain ⟨p, A, n, c, hLi, rfl, hrB, hbB⟩ := hq
    obtain ⟨k, rfl⟩ : ∃ k : Nat, i = k := ⟨i.toNat, by omega⟩
    have hk : k < L.length := by omega
    have hlcs := ho.1
    have hcap := ho.2.1
    rw [Int.toNat_natCast] at hLi
    refine ⟨getL [{ i := p.d }, { i := p.f }, { i := p.t }, { A := A, n := n, c := c }, { b := true }], rfl, ?_⟩
    dsimp only [getL]
    refine h_alloc zb_Packet fun g3 hg3 hI3 => ?_
    refine h_store 0 rfl (by kernel_rfl) (Nat.le_of_ble_eq_true rfl) (by simp [Value.cells]) ?_
    refine holds_perm (cl_.aff _) (g := (g3, .cells #[.int .i64 p.d, .int .i64 p.f, .int .i64 p.t, .slice A n c] 29 (0, 0)) :: (g, .cells #[.slice A0 L.length c0] 43 (0, 0)) :: (g1, .cells #[.int .i64 0, .int .i64 0, .int .i64 0, .slice none 0 0] 29 (0, 0)) :: (m ++ hb)) (show List.Perm ((g3, .cells #[.int .i64 p.d, .int .i64 p.f, .int .i64 p.t, .slice A n c] 29 (0, 0)) :: (g1, .cells #[.int .i64 0, .int .i64 0, .int .i64 0, .slice none 0 0] 29 (0, 0)) :: (g, .cells #[.slice A0 L.length c0] 43 (0, 0)) :: (m ++ hb)) _ from (perm_count fun D_ a_ => by simp only [Value.cells, List.count_append, List.count_cons, List.count_nil, List.nil_append, List.cons_append]; omega)) ?_
    refine h_yes rfl ?_
    refine h_loadL (by kernel_rfl) (by first | exact cell_own (j := 0) rfl rfl | exact cell_own (j := 1) rfl rfl | exact cell_own (j := 2) rfl rfl | exact cell_own (j := 3) rfl rfl | exact cell_own (j := 4) rfl rfl) ?_
    dsimp only
    refine h_cut (e := 29) (sz := 4) 0 k c0 (by kernel_rfl) (by kernel_rfl) rfl rfl rfl (by simp) (by omega) (by omega) (by omega) ?_
    simp only [cutA_zero, Nat.sub_zero]
    have hrd : ∀ {hh : Mem}, (∀ x ∈ m, x ∈ hh) → RdC I hh A0 cs := fun hx => ho.rd hx
    refine h_append (cl_.aff _) eb_Packet (by kernel_rfl) ((hrd (fun x hx => by simp [hx])).take (k * 4)) (fun h => by have := ho.some_of h; omega) (by simp; omega) (fun v hv => hpk.plain v (List.mem_of_mem_take hv)) (m := []) (hr := (g3, .cells #[.int .i64 p.d, .int .i64 p.f, .int .i64 p.t, .slice A n c] 29 (0, 0)) :: (g, .cells #[.slice A0 L.length c0] 43 (0, 0)) :: (g1, .cells #[.int .i64 0, .int .i64 0, .int .i64 0, .slice none 0 0] 29 (0, 0)) :: (m ++ hb)) (List.Perm.refl _) (Own.nil _ _) (by omega) (by omega) ?_
    intro A1 c1 m1 ho1
    simp only [Nat.zero_add, List.nil_append] at ho1 ⊢
    refine holds_perm (cl_.aff _) (List.perm_append_comm) ?_
    refine h_loadL (by kernel_rfl) (by first | exact cell_own (j := 0) rfl rfl | exact cell_own (j := 1) rfl rfl | exact cell_own (j := 2) rfl rfl | exact cell_own (j := 3) rfl rfl | exact cell_own (j := 4) rfl rfl) ?_
    dsimp only
    rw [wrapS (by omega)]
    refine h_cut (e := 29) (sz := 4) (k + 1) L.length c0 (by kernel_rfl) (by kernel_rfl) rfl rfl rfl (by simp) (by omega) (by omega) (by omega) ?_
    dsimp only
    refine h_append (cl_.aff _) eb_Packet (by kernel_rfl) ((hrd (fun x hx => by simp [hx])).cut (l := k + 1) (u := L.length) (m := c0) (sz := 4) hcap) ?_ (by simp; omega) (fun v hv => hpk.plain v (List.mem_of_mem_drop (List.mem_of_mem_take hv))) (m := m1) (hr := (g3, .cells #[.int .i64 p.d, .int .i64 p.f, .int .i64 p.t, .slice A n c] 29 (0, 0)) :: (g, .cells #[.slice A0 L.length c0] 43 (0, 0)) :: (g1, .cells #[.int .i64 0, .int .i64 0, .int .i64 0, .slice none 0 0] 29 (0, 0)) :: (m ++ hb)) (List.perm_append_comm) ho1 (by omega) (by omega) ?_
    · obtain ⟨a, rfl⟩ : ∃ a, A0 = some a := by
        cases A0 with
        | none => have := ho.some_of rfl; omega
        | some a => exact ⟨a, rfl⟩
      exact fun h => cutA_ne h
    intro A2 c2 m2 ho2
    rw [show k + (L.length - (k + 1)) = L.length - 1 by omega] at ho2 ⊢
    rw [List.take_of_length_le (l := cs.drop ((k + 1) * 4)) (by simp; omega)] at ho2
    refine holds_perm (cl_.aff _) (List.perm_append_comm) ?_
    refine h_store 1 rfl (by kernel_rfl) (Nat.le_of_ble_eq_true rfl) (by simp [Value.cells]) ?_
    refine h_loadA (cs := [.int .i64 p.d, .int .i64 p.f, .int .i64 p.t, .slice A n c]) (getL [{ i := p.d }, { i := p.f }, { i := p.t }, { A := A, n := n, c := c }]) (by kernel_rfl) (by kernel_rfl) (cells_at (j := 0) rfl rfl) rfl ?_; dsimp only [getL]
    refine h_store 2 rfl (by kernel_rfl) (Nat.le_of_ble_eq_true rfl) (by simp [Value.cells]) ?_
    refine h_loadVA (cs := [.int .i64 p.d, .int .i64 p.f, .int .i64 p.t, .slice A n c]) (getL [{ i := p.d }, { i := p.f }, { i := p.t }, { A := A, n := n, c := c }]) (by kernel_rfl) (by kernel_rfl) (cells_at (j := 2) rfl rfl) rfl ?_; dsimp only [getL]
    have hlen : (L.eraseIdx k).length = L.length - 1 := by rw [List.length_eraseIdx, if_pos hk]
    refine holds_live fun hl => ?_
    refine h_end (h1 := (g, .cells #[.slice A2 (L.length - 1) c2] 43 (0, 0)) :: (m2 ++ hb)) (g := (g3, .cells #[.int .i64 p.d, .int .i64 p.f, .int .i64 p.t, .slice A n c] 29 (0, 0)) :: (g1, .cells #[.int .i64 p.d, .int .i64 p.f, .int .i64 p.t, .slice A n c] 29 (0, 0)) :: m) ?_ ?_
    · show List.Perm ((g3, .cells #[.int .i64 p.d, .int .i64 p.f, .int .i64 p.t, .slice A n c] 29 (0, 0)) :: (g, .cells #[.slice A2 (L.length - 1) c2] 43 (0, 0)) :: (g1, .cells #[.int .i64 p.d, .int .i64 p.f, .int .i64 p.t, .slice A n c] 29 (0, 0)) :: ((m ++ hb) ++ m2)) _
      exact (perm_count fun D_ a_ => by simp only [Value.cells, List.count_append, List.count_cons, List.count_nil, List.nil_append, List.cons_append]; omega)
    · unfold RTakeQ
      rw [if_pos hin, Int.toNat_natCast]
      have hlv : Live I ((g, .cells #[.slice A2 (L.length - 1) c2] 43 (0, 0)) :: (m2 ++ hb)) := by
        have h2 : Live I ((g3, .cells #[.int .i64 p.d, .int .i64 p.f, .int .i64 p.t, .slice A n c] 29 (0, 0)) :: (g, .cells #[.slice A2 (L.length - 1) c2] 43 (0, 0)) :: (g1, .cells #[.int .i64 p.d, .int .i64 p.f, .int .i64 p.t, .slice A n c] 29 (0, 0)) :: ((m ++ hb) ++ m2)) := hl
        have h3 : Live I (((g, .cells #[.slice A2 (L.length - 1) c2] 43 (0, 0)) :: (m2 ++ hb)) ++ ((g3, .cells #[.int .i64 p.d, .int .i64 p.f, .int .i64 p.t, .slice A n c] 29 (0, 0)) :: (g1, .cells #[.int .i64 p.d, .int .i64 p.f, .int .i64 p.t, .slice A n c] 29 (0, 0)) :: m)) := h2.perm (perm_count fun D_ a_ => by simp only [Value.cells, List.count_append, List.count_cons, List.count_nil, List.nil_append, List.cons_append]; omega)
        exact h3.left
      refine ⟨p, A, n, c, hLi, rfl, hrB.up fun b o hb' => plus_has hlv.no (.inl (List.mem_cons_of_mem _ (List.mem_append_right _ (own_mem hb')))), hbB, A2, c2, _, m2, hb, ?_, by rw [hlen]; exact ho2, ?_, fun q hq => hall q (List.mem_of_mem_eraseIdx hq)⟩
      · rw [hlen]
      · rw [List.eraseIdx_eq_take_drop_succ]
        exact (hpk.take k).append (hpk.drop (k + 1))
  · rename_i hin
    subst hq
    refine ⟨getL [{ i := 0 }, { i := 0 }, { i := 0 }, { A := none, n := 0, c := 0 }, { b := false }], rfl, ?_⟩
    dsimp only [getL]
    refine h_alloc zb_Packet fun g3 hg3 hI3 => ?_
    refine h_store 0 rfl (by kernel_rfl) (Nat.le_of_ble_eq_true rfl) (by simp [Value.cells]) ?_
    refine h_no rfl ?_
    refine h_loadA (cs := [.int .i64 0, .int .i64 0, .int .i64 0, .slice none 0 0]) (getL [{ i := 0 }, { i := 0 }, { i := 0 }, { A := none, n := 0, c := 0 }]) (by kernel_rfl) (by kernel_rfl) (cells_at (j := 0) rfl rfl) rfl ?_; dsimp only [getL]
    refine h_store 1 rfl (by kernel_rfl) (Nat.le_of_ble_eq_true rfl) (by simp [Value.cells]) ?_
    refine h_loadVA (cs := [.int .i64 0, .int .i64 0, .int .i64 0, .slice none 0 0]) (getL [{ i := 0 }, { i := 0 }, { i := 0 }, { A := none, n := 0, c := 0 }]) (by kernel_rfl) (by kernel_rfl) (cells_at (j := 1) rfl rfl) rfl ?_; dsimp only [getL]
    refine h_endR [_, _] rfl ?_
    unfold RTakeQ
    rw [if_neg hin]
    exact ⟨rfl, A0, c0, cs, m, hb, List.Perm.refl _, ho, hpk, hall⟩
theorem rdouble_spec {I : Ctx} {g : Nat} {L : List Pk} {h : Mem} {i : Int} (hrep : BagRep 43 g L h) (hbd : L.length ≤ 1000000) :
    Fn Try.prog 20 #[.pointer (some ⟨g, 0, none⟩), .int .i64 i] I h (fun v h' => v = .bool (inL L i) ∧ BagRep 43 g (dbl L i) h') := by
  refine r_octroiref20_Bag_Double _ _ ?_
  refine h_call [] _ ca_octroiref20_Bag_At (List.Perm.refl _) (fun hl => rat_spec (BagRep.read hrep hl (fun x hx => hx))) ?_
  rintro v h1 ⟨hq, rfl⟩
  unfold RAtQ at hq
  split at hq
  · rename_i hin
    obtain ⟨p, A, n, c, hLi, rfl, hrB, hbB⟩ := hq
    refine ⟨getL [{ i := p.d }, { i := p.f }, { i := p.t }, { A := A, n := n, c := c }, { b := true }], rfl, ?_⟩
    dsimp only [getL]
    refine h_alloc zb_Packet fun g3 hg3 hI3 => ?_
    refine h_store 0 rfl (by kernel_rfl) (Nat.le_of_ble_eq_true rfl) (by simp [Value.cells]) ?_
    refine h_yes rfl ?_
    refine h_loadA (cs := [.int .i64 p.d, .int .i64 p.f, .int .i64 p.t, .slice A n c]) (getL [{ i := p.d }, { i := p.f }, { i := p.t }, { A := A, n := n, c := c }]) (by kernel_rfl) (by kernel_rfl) (cells_at (j := 0) rfl rfl) rfl ?_; dsimp only [getL]
    refine h_call h [(g3, .cells #[.int .i64 p.d, .int .i64 p.f, .int .i64 p.t, .slice A n c] 29 (0, 0))] ca_octroiref20_Bag_Send (show List.Perm ((g3, .cells #[.int .i64 p.d, .int .i64 p.f, .int .i64 p.t, .slice A n c] 29 (0, 0)) :: h) _ from (perm_count fun D_ a_ => by simp only [Value.cells, List.count_append, List.count_cons, List.count_nil, List.nil_append, List.cons_append]; omega)) (fun hl => ?_) (Qc := fun v h' => v = undef ∧ BagRep 43 g (L ++ [p]) h') ?_
    · have hl2 : Live I ((g3, .cells #[.int .i64 p.d, .int .i64 p.f, .int .i64 p.t, .slice A n c] 29 (0, 0)) :: h) := hl
      refine rsend_spec (p := p) (c := c) hrep (hrB.up fun b o hb => ?_) hbB hbd
      refine plus_split hl2 (show List.Perm ((g3, .cells #[.int .i64 p.d, .int .i64 p.f, .int .i64 p.t, .slice A n c] 29 (0, 0)) :: h) (h ++ [(g3, .cells #[.int .i64 p.d, .int .i64 p.f, .int .i64 p.t, .slice A n c] 29 (0, 0))]) from (perm_count fun D_ a_ => by simp only [Value.cells, List.count_append, List.count_cons, List.count_nil, List.nil_append, List.cons_append]; omega)) ?_
      exact plus_has hl2 ((sub_plus (fun x hx => List.mem_cons_of_mem _ hx)) b o hb)
    · rintro v h2 ⟨rfl, hrep2⟩
      refine ⟨fun _ => {}, rfl, ?_⟩
      refine h_end (h1 := h2) (g := [(g3, .cells #[.int .i64 p.d, .int .i64 p.f, .int .i64 p.t, .slice A n c] 29 (0, 0))]) (List.Perm.refl _) ⟨?_, ?_⟩
      · unfold inL; simp only [decide_eq_true hin]
      · unfold dbl; rw [if_pos hin, hLi]; exact hrep2
  · rename_i hin
    subst hq
    refine ⟨getL [{ i := 0 }, { i := 0 }, { i := 0 }, { A := none, n := 0, c := 0 }, { b := false }], rfl, ?_⟩
    dsimp only [getL]
    refine h_alloc zb_Packet fun g3 hg3 hI3 => ?_
    refine h_store 0 rfl (by kernel_rfl) (Nat.le_of_ble_eq_true rfl) (by simp [Value.cells]) ?_
    refine h_no rfl ?_
    refine h_endR [_] rfl ?_
    unfold inL dbl
    rw [if_neg hin]
    exact ⟨by simp only [decide_eq_false hin], hrep⟩
end Go.Proofs.YthkfeonpnplemaaS
