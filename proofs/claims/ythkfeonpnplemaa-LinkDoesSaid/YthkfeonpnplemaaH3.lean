import Derived.Test.YthkfeonpnplemaaH2
import Derived.Test.YthkfeonpnplemaaSO
set_option linter.unusedVariables false
namespace Go.Proofs.YthkfeonpnplemaaS
theorem pkC.plain {J : Ctx} {p : Pk} {cs : List Value} (h : pkC J p cs) : ∀ v ∈ cs, (∀ x, v ≠ .agg x) ∧ ∀ x, v ≠ .tuple x := by
  obtain ⟨A, n, c, rfl, hr⟩ := h
  simp
theorem pksC.plain {J : Ctx} : ∀ {l : List Pk} {cs : List Value}, pksC J l cs → ∀ v ∈ cs, (∀ x, v ≠ .agg x) ∧ ∀ x, v ≠ .tuple x
  | [], cs, h => by rw [show cs = [] from h]; simp
  | p :: l, cs, ⟨c, r, e, h1, h2⟩ => by
    rw [e]
    intro v hv
    rcases List.mem_append.1 hv with hv | hv
    · exact h1.plain v hv
    · exact pksC.plain h2 v hv
theorem pksC.take {J : Ctx} : ∀ {l : List Pk} {cs : List Value} (i : Nat), pksC J l cs → pksC J (l.take i) (cs.take (i * 4))
  | l, cs, 0, h => by simp [pksC]
  | [], cs, i + 1, h => by rw [show cs = [] from h]; simp [pksC]
  | p :: l, cs, i + 1, ⟨c, r, e, h1, h2⟩ => by
    have hc := h1.len
    refine ⟨c, r.take (i * 4), ?_, h1, pksC.take i h2⟩
    rw [e, List.take_append, List.take_of_length_le (by omega), hc, show (i + 1) * 4 - 4 = i * 4 by omega]
theorem pksC.drop {J : Ctx} : ∀ {l : List Pk} {cs : List Value} (i : Nat), pksC J l cs → pksC J (l.drop i) (cs.drop (i * 4))
  | l, cs, 0, h => by simpa using h
  | [], cs, i + 1, h => by rw [show cs = [] from h]; simp [pksC]
  | p :: l, cs, i + 1, ⟨c, r, e, h1, h2⟩ => by
    have hc := h1.len
    have := pksC.drop i h2
    rw [e, List.drop_append, List.drop_of_length_le (l := c) (by omega), hc, show (i + 1) * 4 - 4 = i * 4 by omega]
    simpa using this
theorem delete_spec {I : Ctx} {A : Option Addr} {n c : Nat} {cs : List Value} {m : Mem} (ho : Own 29 4 A n c cs m) {i : Nat} (hi : i < n) (hpl : ∀ v ∈ cs, (∀ x, v ≠ .agg x) ∧ ∀ x, v ≠ .tuple x) (hbd : n ≤ 1000000) :
    Fn Try.prog 25 #[.slice A n c, .int .i64 i, .int .i64 ((i + 1 : Nat) : Int)] I m (fun v h' => v = .slice A (n - 1) c ∧ Own 29 4 A (n - 1) c (cs.take (i * 4) ++ cs.drop ((i + 1) * 4)) h') := by
  have hcn := ho.2.1
  have hlen := ho.1
  obtain ⟨a, rfl⟩ : ∃ a, A = some a := by
    cases A with
    | none => have := ho.some_of rfl; omega
    | some a => exact ⟨a, rfl⟩
  refine r_slices_Delete_Packet _ _ _ _ _ ?_
  refine h_cut (e := 29) (sz := 4) i (i + 1) n (by kernel_rfl) (by kernel_rfl) rfl rfl rfl (by simp) (by omega) (by omega) (by omega) ?_
  refine h_no (by simp; omega) ?_
  refine h_cut (e := 29) (sz := 4) 0 i c (by kernel_rfl) (by kernel_rfl) rfl rfl rfl (by simp) (by omega) (by omega) (by omega) ?_
  refine h_cut (e := 29) (sz := 4) (i + 1) n c (by kernel_rfl) (by kernel_rfl) rfl rfl rfl (by simp) (by omega) (by omega) (by omega) ?_
  simp only [cutA_zero, Nat.sub_zero]
  refine h_appendIn (cl_.aff _) eb_Packet (by kernel_rfl) ((ho.rd (fun x hx => hx)).cut (l := i + 1) (u := n) (m := c) (sz := 4) hcn) (fun h => cutA_ne h) (by simp; omega) ?_ (m := m) (hr := []) (by simp) (ho.cut (i := i) (by omega)) (by omega) (by omega) (by omega) ?_
  · intro v hv
    exact hpl v (List.mem_of_mem_drop (List.mem_of_mem_take hv))
  intro m' ho'
  rw [show i + (n - (i + 1)) = n - 1 by omega] at ho' ⊢
  rw [List.take_of_length_le (l := cs.drop ((i + 1) * 4)) (by simp; omega)] at ho'
  dsimp only
  refine h_cut (e := 29) (sz := 4) (n - 1) n c (by kernel_rfl) (by kernel_rfl) rfl rfl rfl (by simp) (by omega) (by omega) (by omega) ?_
  obtain ⟨cs', hcs', ho2⟩ := ho'.ext (i := n) (by omega) (by omega)
  have hl2 := ho2.1
  dsimp only
  refine h_clear eb_Packet (o := (n - 1) * 4) (cl_.aff _) (m := m') (hr := []) (List.Perm.refl _) ho2 (.inr ⟨a, rfl, cutA_some (by omega)⟩) (by omega) (by simp [Value.cells]) ?_
  intro m2 ho3
  have ho4 := ho3.cut (i := n - 1) (by omega)
  rw [wrL_take (by omega), hcs'] at ho4
  exact h_end (h1 := m2) (g := []) (by simp) ⟨rfl, ho4⟩
end Go.Proofs.YthkfeonpnplemaaS
