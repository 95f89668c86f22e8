import Derived.Test.YtahllmihgpaaeaaN5
set_option linter.unusedVariables false
namespace Go.Proofs.YtahllmihgpaaeaaS
/-- An entry's cells. -/
def entC (J : Ctx) (e : Ent) (cs : List Value) : Prop := cs = e.cs ∧ e.ok
theorem entC.len (J : Ctx) (e : Ent) (cs : List Value) (h : entC J e cs) : cs.length = 5 := by rw [h.1]; rfl
/-- Entries that are read. -/
def EntsIn (J : Ctx) (A : Option Addr) (es : List Ent) : Prop := ∃ cs, RdC J [] A cs ∧ rowC (entC J) es cs
theorem EntsIn.up {J J' : Ctx} {A : Option Addr} {es : List Ent} (h : EntsIn J A es) (hs : ∀ b o, J b = some o → J' b = some o) : EntsIn J' A es := by
  obtain ⟨cs, h1, h2⟩ := h
  exact ⟨cs, h1.up hs, h2.mono fun o c h => h⟩
theorem EntsIn.get {J : Ctx} {A : Option Addr} {es : List Ent} (h : EntsIn J A es) {i : Nat} (hi : i < es.length) : ∃ a, A = some a ∧ es[i].ok ∧ Cells J [] (a.add (i * 5)) es[i].cs := by
  obtain ⟨cs, h1, h2⟩ := h
  obtain ⟨a, c, rfl, ⟨rfl, hok⟩, hc⟩ := h2.at (entC.len J) h1 (by omega) (List.getElem?_eq_getElem hi)
  exact ⟨a, rfl, hok, hc⟩
theorem oddIx_loop {J : Ctx} {A : Option Addr} {c : Nat} {es : List Ent} (hin : EntsIn J A es) (hbd : es.length ≤ 1000000) :
    ∀ (k i : Nat) (u : Nat → Value) (h : Mem), i + k = es.length → (∀ q e, q < i → es[q]? = some e → entB e = true) →
    Wp Try.prog 29 k_slices_IndexFunc_RipEntry_1 (t_slices_IndexFunc_RipEntry_1 A es.length c i u) J h (cl_ fun v h' => (∃ x : Int, v = .int .i64 x ∧ (0 ≤ x ↔ es.all entB = false)) ∧ h' = []) := by
  intro k
  induction k with
  | zero =>
    intro i u h hik hno
    refine r_slices_IndexFunc_RipEntry_1 _ _ _ _ _ ?_
    refine h_no (by simp; omega) ?_
    refine h_end0 ⟨⟨-1, rfl, ?_⟩, rfl⟩
    have : es.all entB = true := by
      rw [List.all_eq_true]
      intro e he
      obtain ⟨q, hq⟩ := List.getElem?_of_mem he
      exact hno q e (by have := (List.getElem?_eq_some_iff.1 hq).1; omega) hq
    rw [this]
    simp
  | succ k ih =>
    intro i u h hik hno
    have hi : i < es.length := by omega
    obtain ⟨a, rfl, hok, hc⟩ := hin.get hi
    refine r_slices_IndexFunc_RipEntry_1 _ _ _ _ _ ?_
    refine h_yes (by simp; omega) ?_
    refine h_index a rfl (sz := 5) (by kernel_rfl) (by omega) (by omega) rfl ?_
    dsimp only
    rw [Int.toNat_natCast]
    refine h_loadA (cs := es[i].cs) (getL [{ i := (es[i].a : Nat) }, { i := es[i].n }, { i := (es[i].tag : Nat) }, { i := (es[i].next : Nat) }, { i := es[i].m }]) (by kernel_rfl) (by kernel_rfl) (hc.sub Sub.self) rfl ?_
    dsimp only [getL]
    refine h_call0 (v := .bool (!entB es[i])) (fun _ => { b := !entB es[i] }) ca_rippkt_Encode_fn1 (fun hl => odd_spec hok) rfl ?_
    refine h_ite (fun hb => ?_) (fun hb => ?_)
    · refine h_end0 ⟨⟨i, rfl, ?_⟩, rfl⟩
      have : es.all entB = false := by
        rw [List.all_eq_false]
        exact ⟨es[i], List.getElem_mem hi, by simpa using hb⟩
      rw [this]
      simp
    · refine h_stop fun hl => ?_
      rw [wrapS (by omega)]
      refine ih (i + 1) _ h (by omega) ?_
      intro q e hq he
      by_cases hqi : q = i
      · subst hqi
        rw [List.getElem?_eq_getElem hi] at he
        injection he with he
        subst he
        simpa using hb
      · exact hno q e (by omega) he
theorem odds_spec {J : Ctx} {A : Option Addr} {c : Nat} {es : List Ent} (hin : EntsIn J A es) (hbd : es.length ≤ 1000000) :
    Fn Try.prog 18 #[.slice A es.length c, .func (.func 16) #[] #[]] J [] (fun v h' => v = .bool (!es.all entB) ∧ h' = []) := by
  refine r_slices_ContainsFunc_RipEntry _ _ _ ?_
  refine h_call [] _ ca_slices_IndexFunc_RipEntry (List.Perm.refl _) (fun hl => ?_) (Qc := fun v h' => (∃ x : Int, v = .int .i64 x ∧ (0 ≤ x ↔ es.all entB = false)) ∧ h' = []) ?_
  · refine r_slices_IndexFunc_RipEntry _ _ _ ?_
    refine h_stop fun hl2 => ?_
    exact oddIx_loop (hin.up (Sub.self.up hl)) hbd es.length 0 _ _ (by omega) (by omega)
  · rintro v h1 ⟨⟨x, rfl, hx⟩, rfl⟩
    refine ⟨fun _ => { i := x }, rfl, ?_⟩
    refine h_end0 ⟨?_, rfl⟩
    dsimp only
    cases ha : es.all entB with
    | true =>
      rw [decide_eq_false (p := x ≥ 0) (fun h => by have := hx.1 h; rw [ha] at this; cases this)]
      rfl
    | false =>
      rw [decide_eq_true (p := x ≥ 0) (hx.2 ha)]
      rfl
def wholeB : List UInt8 := List.replicate 16 0 ++ be 4 16
theorem whole_spec {I : Ctx} : Fn Try.prog 19 #[] I [] (GivesB wholeB) := by
  refine r_rippkt_whole ?_
  refine h_call [] _ ca_num_Put32 (List.Perm.refl _) (fun hl => Put32_spec (n := 16) (by omega)) ?_
  rintro v h1 ⟨A1, c1, rfl, ho1⟩
  refine ⟨fun _ => { A := A1, n := (be 4 16).length, c := c1 }, rfl, ?_⟩
  rw [List.append_nil]
  refine h_make (n := 16) (c := 16) eb_uint8 (Nat.le_refl _) (by omega) (by omega) fun g hg hI ho => ?_
  rw [show (Builtin.zeroCells (Value.int IntKind.u8 0).cells 16).toList = bC (List.replicate 16 0) from zero_bytes 16] at ho
  dsimp only
  refine h_append (cl_.aff _) eb_uint8 (by kernel_rfl) (ho1.rd (fun x hx => List.mem_cons_of_mem _ hx)) ho1.some_of (by simp) (bC_plain _) (hr := h1) (List.Perm.refl _) ho (by simp) (by omega) ?_
  intro A' c' m' ho'
  rw [← bC_append] at ho'
  exact h_end (h1 := m') (g := h1) (List.Perm.refl _) ⟨A', c', by simp [wholeB], by simpa [wholeB] using ho'⟩
end Go.Proofs.YtahllmihgpaaeaaS
