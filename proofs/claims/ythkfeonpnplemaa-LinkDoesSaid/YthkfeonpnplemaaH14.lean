import Derived.Test.YthkfeonpnplemaaH13
set_option linter.unusedVariables false
namespace Go.Proofs.YthkfeonpnplemaaS
abbrev YES : Value → Mem → Prop := cl_ fun v h' => v = .bool true ∧ h' = []
theorem does_tail {J : Ctx} {h hb1 hb2 : Mem} {g y6 : Nat} {L : List Pk} {Q : Value → Mem → Prop} {todo : List Item} {τ : (Nat → Leaf) → (Nat → Leaf) → List Value}
    (hrep1 : BagRep 46 g L hb1) (hrep2 : BagRep 43 y6 L hb2) (hs1 : ∀ x ∈ hb1, x ∈ h) (hs2 : ∀ x ∈ hb2, x ∈ h) (hk : ∀ l l', holds Try.prog 5 J Q (.stop todo (τ l l')) h) :
    holds Try.prog 5 J Q (.rd (Instr.loadAt 38 (.pointer (some ⟨y6, 0, none⟩))) (.one (.sc .sl)) fun l43 => .call 11 [.pointer (some ⟨g, 0, none⟩)] (.one (.sc (.int .i64))) fun l44 =>
      .pin (vN (Instr.loadAt 38 (.pointer (some ⟨y6, 0, none⟩)))) (.slice ((l43 0).A) ((l43 0).n) ((l43 0).c)) (.ite (((l44 0).i : Int) != (((l43 0).n : Nat) : Int)) (.done (.bool false)) (.stop todo (τ l43 l44)))) h := by
  have hrep2' := hrep2
  obtain ⟨A, c, cs, m, hb, hp, ho, hpk, hall⟩ := hrep2'
  have hm : (y6, Obj.cells #[.slice A L.length c] 43 (0, 0)) ∈ h := hs2 _ (hp.mem_iff.2 List.mem_cons_self)
  refine h_loadL (by kernel_rfl) (cell_mem hm rfl) ?_
  refine h_call0 (fun _ => { i := L.length }) ca_link_Bag_Len (fun hl => len_spec (hrep1.read hl hs1)) rfl ?_
  refine h_pin (rwp_vN (rw_load1 (by kernel_rfl) (cell_mem hm rfl) rfl)) ?_
  refine h_no (by simp) ?_
  exact hk _ _
theorem does_loop2 {J : Ctx} {g y6 y9 : Nat} {A : Option Addr} {c i : Nat} {l : List Opp} {L : List Pk} {hb1 hb2 : Mem} (hi : i ≤ 1000000) (hrep1 : BagRep 46 g L hb1) (hrep2 : BagRep 43 y6 L hb2)
    (cont : ∀ (u : Nat → Value) (h : Mem), (∃ jk, h.Perm (hb1 ++ (hb2 ++ jk))) → Wp Try.prog 5 k_octroilaw20_LinkDoes_1 (t_octroilaw20_LinkDoes_1 A l.length c (some ⟨g, 0, none⟩) y6 ((i + 1 : Nat) : Int) u) J h YES) :
    ∀ (q k : Nat) (u : Nat → Value) (h hB jk : Mem) (d f t : Int) (A1 : Option Addr) (n c1 : Nat) (cs : List Value), k + q = n → n ≤ 1000000 →
      h.Perm ((y9, .cells #[.int .i64 d, .int .i64 f, .int .i64 t, .slice A1 n c1] 29 (0, 0)) :: (hB ++ (hb1 ++ (hb2 ++ jk)))) → Own 5 1 A1 n c1 cs hB →
    Wp Try.prog 5 k_octroilaw20_LinkDoes_2 (t_octroilaw20_LinkDoes_2 A l.length c (some ⟨g, 0, none⟩) y6 i y9 k u) J h YES := by
  intro q
  induction q with
  | zero =>
    intro k u h hB jk d f t A1 n c1 cs hkq hn hp ho
    have hm : (y9, Obj.cells #[.int .i64 d, .int .i64 f, .int .i64 t, .slice A1 n c1] 29 (0, 0)) ∈ h := hp.mem_iff.2 List.mem_cons_self
    refine r_octroilaw20_LinkDoes_2 _ _ _ _ _ _ _ _ _ ?_
    refine h_loadL (by kernel_rfl) (cell_mem hm rfl) ?_
    refine h_no (by simp; omega) ?_
    refine h_no rfl ?_
    refine does_tail hrep1 hrep2 (fun x hx => hp.mem_iff.2 (by simp [hx])) (fun x hx => hp.mem_iff.2 (by simp [hx])) fun l1 l2 => ?_
    refine h_stop fun hl => ?_
    rw [wrapS (by omega)]
    exact cont _ h ⟨(y9, .cells #[.int .i64 d, .int .i64 f, .int .i64 t, .slice A1 n c1] 29 (0, 0)) :: (hB ++ jk), hp.trans (perm_count fun D_ a_ => by simp only [Value.cells, List.count_append, List.count_cons, List.count_nil, List.nil_append, List.cons_append]; omega)⟩
  | succ q ih =>
    intro k u h hB jk d f t A1 n c1 cs hkq hn hp ho
    have hm : (y9, Obj.cells #[.int .i64 d, .int .i64 f, .int .i64 t, .slice A1 n c1] 29 (0, 0)) ∈ h := hp.mem_iff.2 List.mem_cons_self
    obtain ⟨a, rfl⟩ : ∃ a, A1 = some a := by
      cases A1 with
      | none => have := ho.some_of rfl; omega
      | some a => exact ⟨a, rfl⟩
    refine r_octroilaw20_LinkDoes_2 _ _ _ _ _ _ _ _ _ ?_
    refine h_loadL (by kernel_rfl) (cell_mem hm rfl) ?_
    refine h_yes (by simp; omega) ?_
    refine h_loadL (by kernel_rfl) (cell_mem hm rfl) ?_
    dsimp only
    refine h_index a rfl (sz := 1) (by kernel_rfl) (by omega) (by omega) rfl ?_
    dsimp only
    refine h_storeE ((k : Int).toNat * 1) (m := hB) (hr := (y9, .cells #[.int .i64 d, .int .i64 f, .int .i64 t, .slice (some a) n c1] 29 (0, 0)) :: (hb1 ++ (hb2 ++ jk))) (cl_.aff _) (hp.trans (perm_count fun D_ a_ => by simp only [Value.cells, List.count_append, List.count_cons, List.count_nil, List.nil_append, List.cons_append]; omega)) ho rfl (by kernel_rfl) (by simp [Value.cells]; omega) (by simp [Value.cells]) ?_
    intro m' ho'
    refine h_stop fun hl => ?_
    rw [wrapS (by omega)]
    exact ih (k + 1) _ _ m' jk d f t (some a) n c1 _ (by omega) hn (perm_count fun D_ a_ => by simp only [Value.cells, List.count_append, List.count_cons, List.count_nil, List.nil_append, List.cons_append]; omega) ho'
theorem does_loop3 {J : Ctx} {g y6 y9 : Nat} {A : Option Addr} {c i : Nat} {l : List Opp} {L : List Pk} {hb1 hb2 : Mem} (hi : i ≤ 1000000) (hrep1 : BagRep 46 g L hb1) (hrep2 : BagRep 43 y6 L hb2)
    (cont : ∀ (u : Nat → Value) (h : Mem), (∃ jk, h.Perm (hb1 ++ (hb2 ++ jk))) → Wp Try.prog 5 k_octroilaw20_LinkDoes_1 (t_octroilaw20_LinkDoes_1 A l.length c (some ⟨g, 0, none⟩) y6 ((i + 1 : Nat) : Int) u) J h YES) :
    ∀ (q k : Nat) (u : Nat → Value) (h hB jk : Mem) (d f t : Int) (A1 : Option Addr) (n c1 : Nat) (cs : List Value), k + q = n → n ≤ 1000000 →
      h.Perm ((y9, .cells #[.int .i64 d, .int .i64 f, .int .i64 t, .slice A1 n c1] 29 (0, 0)) :: (hB ++ (hb1 ++ (hb2 ++ jk)))) → Own 5 1 A1 n c1 cs hB →
    Wp Try.prog 5 k_octroilaw20_LinkDoes_3 (t_octroilaw20_LinkDoes_3 A l.length c (some ⟨g, 0, none⟩) y6 i true y9 k u) J h YES := by
  intro q
  induction q with
  | zero =>
    intro k u h hB jk d f t A1 n c1 cs hkq hn hp ho
    have hm : (y9, Obj.cells #[.int .i64 d, .int .i64 f, .int .i64 t, .slice A1 n c1] 29 (0, 0)) ∈ h := hp.mem_iff.2 List.mem_cons_self
    refine r_octroilaw20_LinkDoes_3 _ _ _ _ _ _ _ _ _ _ ?_
    refine h_loadL (by kernel_rfl) (cell_mem hm rfl) ?_
    refine h_no (by simp; omega) ?_
    refine h_no rfl ?_
    refine does_tail hrep1 hrep2 (fun x hx => hp.mem_iff.2 (by simp [hx])) (fun x hx => hp.mem_iff.2 (by simp [hx])) fun l1 l2 => ?_
    refine h_stop fun hl => ?_
    rw [wrapS (by omega)]
    exact cont _ h ⟨(y9, .cells #[.int .i64 d, .int .i64 f, .int .i64 t, .slice A1 n c1] 29 (0, 0)) :: (hB ++ jk), hp.trans (perm_count fun D_ a_ => by simp only [Value.cells, List.count_append, List.count_cons, List.count_nil, List.nil_append, List.cons_append]; omega)⟩
  | succ q ih =>
    intro k u h hB jk d f t A1 n c1 cs hkq hn hp ho
    have hm : (y9, Obj.cells #[.int .i64 d, .int .i64 f, .int .i64 t, .slice A1 n c1] 29 (0, 0)) ∈ h := hp.mem_iff.2 List.mem_cons_self
    obtain ⟨a, rfl⟩ : ∃ a, A1 = some a := by
      cases A1 with
      | none => have := ho.some_of rfl; omega
      | some a => exact ⟨a, rfl⟩
    refine r_octroilaw20_LinkDoes_3 _ _ _ _ _ _ _ _ _ _ ?_
    refine h_loadL (by kernel_rfl) (cell_mem hm rfl) ?_
    refine h_yes (by simp; omega) ?_
    refine h_loadL (by kernel_rfl) (cell_mem hm rfl) ?_
    dsimp only
    refine h_index a rfl (sz := 1) (by kernel_rfl) (by omega) (by omega) rfl ?_
    dsimp only
    refine h_storeE ((k : Int).toNat * 1) (m := hB) (hr := (y9, .cells #[.int .i64 d, .int .i64 f, .int .i64 t, .slice (some a) n c1] 29 (0, 0)) :: (hb1 ++ (hb2 ++ jk))) (cl_.aff _) (hp.trans (perm_count fun D_ a_ => by simp only [Value.cells, List.count_append, List.count_cons, List.count_nil, List.nil_append, List.cons_append]; omega)) ho rfl (by kernel_rfl) (by simp [Value.cells]; omega) (by simp [Value.cells]) ?_
    intro m' ho'
    refine h_stop fun hl => ?_
    rw [wrapS (by omega)]
    exact ih (k + 1) _ _ m' jk d f t (some a) n c1 _ (by omega) hn (perm_count fun D_ a_ => by simp only [Value.cells, List.count_append, List.count_cons, List.count_nil, List.nil_append, List.cons_append]; omega) ho'
end Go.Proofs.YthkfeonpnplemaaS
