import Derived.Test.YthkfeonpnplemaaH7
set_option linter.unusedVariables false
namespace Go.Proofs.YthkfeonpnplemaaS
/-- A call, as the statements have it. -/
structure Opp where
  k : Int
  i : Int
  p : Pk
def opC (J : Ctx) (o : Opp) (cs : List Value) : Prop := ∃ A n c, cs = [.int .i64 o.k, .int .i64 o.i, .int .i64 o.p.d, .int .i64 o.p.f, .int .i64 o.p.t, .slice A n c] ∧ RdB J A n o.p.B
theorem opC.len (J : Ctx) (o : Opp) (cs : List Value) (h : opC J o cs) : cs.length = 6 := by
  obtain ⟨A, n, c, rfl, hr⟩ := h
  rfl
/-- The calls, at hand. -/
def OpsIn (J : Ctx) (A : Option Addr) (l : List Opp) : Prop := ∃ cs, RdC J [] A cs ∧ rowC (opC J) l cs
theorem OpsIn.up {J J' : Ctx} {A : Option Addr} {l : List Opp} (h : OpsIn J A l) (hs : ∀ b o, J b = some o → J' b = some o) : OpsIn J' A l := by
  obtain ⟨cs, h1, h2⟩ := h
  exact ⟨cs, h1.up hs, h2.mono fun o c ⟨A, n, c', e, hr⟩ => ⟨A, n, c', e, hr.up hs⟩⟩
theorem OpsIn.get {J : Ctx} {A : Option Addr} {l : List Opp} (h : OpsIn J A l) {i : Nat} (hi : i < l.length) : ∃ a A' n c, A = some a ∧ RdB J A' n l[i].p.B ∧
    Cells J [] (a.add (i * 6)) [.int .i64 l[i].k, .int .i64 l[i].i, .int .i64 l[i].p.d, .int .i64 l[i].p.f, .int .i64 l[i].p.t, .slice A' n c] := by
  obtain ⟨cs, h1, h2⟩ := h
  obtain ⟨a, c, rfl, ⟨A', n, c', rfl, hr⟩, hc⟩ := h2.at (opC.len J) h1 (by omega) (List.getElem?_eq_getElem hi)
  exact ⟨a, A', n, c', rfl, hr, hc⟩
def fewB (l : List Opp) : Bool := decide (l.length ≤ 100) && l.all (fun o => decide (o.p.B.length ≤ 300))
theorem few_loop {J : Ctx} {A : Option Addr} {c : Nat} {l : List Opp} (hops : OpsIn J A l) (hbd : l.length ≤ 100) :
    ∀ (k i : Nat) (u : Nat → Value) (h : Mem), i + k = l.length → (∀ o ∈ l.take i, o.p.B.length ≤ 300) →
    Wp Try.prog 8 k_octroilaw20_few_1 (t_octroilaw20_few_1 A l.length c i u) J h (cl_ fun v h' => v = .bool (fewB l) ∧ h' = []) := by
  intro k
  induction k with
  | zero =>
    intro i u h hik hall
    refine r_octroilaw20_few_1 _ _ _ _ _ ?_
    refine h_no (by simp; omega) ?_
    refine h_end0 ⟨?_, rfl⟩
    rw [List.take_of_length_le (by omega)] at hall
    have : fewB l = true := by unfold fewB; simp only [Bool.and_eq_true, decide_eq_true_eq, List.all_eq_true]; exact ⟨hbd, hall⟩
    rw [this]
  | succ k ih =>
    intro i u h hik hall
    have hi : i < l.length := by omega
    obtain ⟨a, A', n, c', rfl, hr, hc⟩ := hops.get hi
    refine r_octroilaw20_few_1 _ _ _ _ _ ?_
    refine h_yes (by simp; omega) ?_
    refine h_index a rfl (sz := 6) (by kernel_rfl) (by omega) (by omega) rfl ?_
    dsimp only
    rw [Int.toNat_natCast]
    refine h_loadL (by kernel_rfl) (by rw [add_add]; exact (hc 5 _ rfl).sub Sub.self) ?_
    have hn := hr.len
    refine h_ite (fun hb => ?_) (fun hb => ?_)
    · refine h_end0 ⟨?_, rfl⟩
      have : fewB l = false := by
        unfold fewB
        rw [Bool.and_eq_false_iff]
        right
        rw [List.all_eq_false]
        refine ⟨l[i], List.getElem_mem hi, ?_⟩
        simp at hb ⊢
        omega
      rw [this]
    · refine h_stop fun hl => ?_
      rw [wrapS (by omega)]
      refine ih (i + 1) _ h (by omega) ?_
      intro o ho
      rw [List.take_succ_eq_append_getElem hi] at ho
      rcases List.mem_append.1 ho with ho | ho
      · exact hall o ho
      · rw [List.mem_singleton] at ho
        subst ho
        simp at hb
        omega
theorem few_spec {J : Ctx} {A : Option Addr} {c : Nat} {l : List Opp} (hops : OpsIn J A l) :
    Fn Try.prog 8 #[.slice A l.length c] J [] (fun v h' => v = .bool (fewB l) ∧ h' = []) := by
  refine r_octroilaw20_few _ _ _ ?_
  refine h_ite (fun hb => ?_) (fun hb => ?_)
  · refine h_end0 ⟨?_, rfl⟩
    have : fewB l = false := by unfold fewB; simp at hb ⊢; omega
    rw [this]
  · refine h_stop fun hl => ?_
    exact few_loop hops (by simp at hb; omega) l.length 0 _ [] (by omega) (by simp)
theorem noB {J : Ctx} : RdB J none 0 [] := ⟨rfl, fun _ => rfl, RdC.nil _⟩
theorem awake_spec {I : Ctx} : Fn Try.prog 7 #[] I [] (fun v h' => v = .bool true ∧ h' = []) := by
  refine r_octroilaw20_awake ?_
  refine h_call [] _ ca_link_New (List.Perm.refl _) (fun hl => new_spec) ?_
  rintro v h1 ⟨g, rfl, hrep⟩
  refine ⟨fun _ => { A := some ⟨g, 0, none⟩ }, rfl, ?_⟩
  dsimp only
  refine h_rdn (fun _ => { b := false }) (rw_neNil (.inl rfl) (by kernel_rfl) rfl) ?_
  refine h_no rfl ?_
  rw [List.append_nil]
  refine h_call h1 [] ca_link_Bag_Send (by simp) (fun hl => send_spec (p := ⟨0, 1, 2, []⟩) hrep noB (by simp) (by simp)) ?_
  rintro v h2 ⟨rfl, hrep⟩
  refine ⟨fun _ => {}, rfl, ?_⟩
  rw [List.append_nil]
  refine h_call h2 [] ca_link_Bag_Send (by simp) (fun hl => send_spec (p := ⟨0, 2, 1, []⟩) hrep noB (by simp) (by simp)) ?_
  rintro v h3 ⟨rfl, hrep⟩
  refine ⟨fun _ => {}, rfl, ?_⟩
  rw [List.append_nil]
  refine h_call h3 [] ca_link_Bag_Send (by simp) (fun hl => send_spec (p := ⟨0, 1, 3, []⟩) hrep noB (by simp) (by simp)) ?_
  rintro v h4 ⟨rfl, hrep⟩
  refine ⟨fun _ => {}, rfl, ?_⟩
  rw [List.append_nil]
  refine h_call h4 [] ca_link_Bag_Cut (by simp) (fun hl => cut_spec hrep (by simp)) ?_
  rintro v h5 ⟨rfl, hrep⟩
  refine ⟨fun _ => { i := 2 }, rfl, ?_⟩
  rw [List.append_nil]
  refine h_yes rfl ?_
  refine h_call0 (fun _ => { i := 1 }) ca_link_Bag_Len (fun hl => len_spec (hrep.read hl (fun x hx => hx))) rfl ?_
  exact h_end0 ⟨rfl, rfl⟩

/-- What was sent. -/
def sent (l : List Opp) : List Pk := (l.filter (fun o => o.k == 0)).map (·.p)
theorem sent_le (l : List Opp) : (sent l).length ≤ l.length := by unfold sent; rw [List.length_map]; exact List.length_filter_le ..
theorem onLink_swap (d x y : Int) (p : Pk) : onLink d y x p = onLink d x y p := by
  unfold onLink
  rw [Bool.or_comm]
theorem cuts_loop2 {J : Ctx} {g : Nat} {d x y n k : Int} {M : List Pk} (hM : ∀ p ∈ M, onLink d x y p = false) (hbd : M.length ≤ 100) (hnk : IntKind.wrap .i64 (n - k) = M.length) :
    ∀ (q i : Nat) (u : Nat → Value) (h hb : Mem), i + q = M.length → BagRep 46 g M hb → (∃ hr, h.Perm (hb ++ hr)) →
    Wp Try.prog 3 k_octroilaw20_LinkCuts_2 (t_octroilaw20_LinkCuts_2 d x y (some ⟨g, 0, none⟩) n k i u) J h (cl_ fun v h' => v = .bool true ∧ h' = []) := by
  intro q
  induction q with
  | zero =>
    rintro i u h hb hiq hrep ⟨hr, hp⟩
    refine r_octroilaw20_LinkCuts_2 _ _ _ _ _ _ _ _ ?_
    have hsub : ∀ x ∈ hb, x ∈ h := fun x hx => hp.mem_iff.2 (List.mem_append_left _ hx)
    refine h_call0 (fun _ => { i := M.length }) ca_link_Bag_Len (fun hl => len_spec (hrep.read hl hsub)) rfl ?_
    refine h_no (by simp; omega) ?_
    refine h_call0 (fun _ => { i := M.length }) ca_link_Bag_Len (fun hl => len_spec (hrep.read hl hsub)) rfl ?_
    refine h_yes (by rw [hnk]; simp) ?_
    refine h_call hb hr ca_link_Bag_Cut hp (fun hl => cut_spec hrep (by omega)) ?_
    rintro v h1 ⟨rfl, -⟩
    have hleft : left d y x M = M := by
      rw [List.filter_eq_self]
      intro p hp
      rw [onLink_swap, hM p hp]
      rfl
    rw [hleft]
    refine ⟨fun _ => { i := 0 }, by rw [Nat.sub_self]; rfl, ?_⟩
    exact h_end0 ⟨rfl, rfl⟩
  | succ q ih =>
    rintro i u h hb hiq hrep ⟨hr, hp⟩
    have hi : i < M.length := by omega
    refine r_octroilaw20_LinkCuts_2 _ _ _ _ _ _ _ _ ?_
    have hsub : ∀ x ∈ hb, x ∈ h := fun x hx => hp.mem_iff.2 (List.mem_append_left _ hx)
    refine h_call0 (fun _ => { i := M.length }) ca_link_Bag_Len (fun hl => len_spec (hrep.read hl hsub)) rfl ?_
    refine h_yes (by simp; omega) ?_
    refine h_call [] _ ca_link_Bag_At (List.Perm.refl _) (fun hl => at_spec (hrep.read hl hsub)) ?_
    intro v h1 hq
    unfold AtQ at hq
    rw [if_pos (by omega), Int.toNat_natCast, List.getElem?_eq_getElem hi] at hq
    obtain ⟨p, A, c, hpe, rfl, hoB, hbB⟩ := hq
    injection hpe with hpe
    subst hpe
    refine ⟨getL [{ i := M[i].d }, { i := M[i].f }, { i := M[i].t }, { A := A, n := M[i].B.length, c := c }, { b := true }], rfl, ?_⟩
    dsimp only [getL]
    refine h_alloc zb_Packet fun g3 hg3 hI3 => ?_
    refine h_store 0 rfl (by kernel_rfl) (Nat.le_of_ble_eq_true rfl) (by simp [Value.cells]) ?_
    refine h_no rfl ?_
    have hno := hM M[i] (List.getElem_mem hi)
    have go : ∀ u, holds Try.prog 3 J (cl_ fun v h' => v = .bool true ∧ h' = []) (.stop k_octroilaw20_LinkCuts_2 (t_octroilaw20_LinkCuts_2 d x y (some ⟨g, 0, none⟩) n k (IntKind.wrap .i64 ((i : Int) + 1)) u)) ((g3, .cells #[.int .i64 M[i].d, .int .i64 M[i].f, .int .i64 M[i].t, .slice A M[i].B.length c] 29 (0, 0)) :: (h1 ++ h)) := by
      intro u
      refine h_stop fun hl => ?_
      rw [wrapS (by omega)]
      refine ih (i + 1) _ _ hb (by omega) hrep ⟨(g3, .cells #[.int .i64 M[i].d, .int .i64 M[i].f, .int .i64 M[i].t, .slice A M[i].B.length c] 29 (0, 0)) :: (h1 ++ hr), ?_⟩
      refine ((hp.append_left h1).cons _).trans ?_
      exact (perm_count fun D_ a_ => by simp only [Value.cells, List.count_append, List.count_cons, List.count_nil, List.nil_append, List.cons_append]; omega)
    unfold onLink at hno
    refine h_loadI (by kernel_rfl) (cell_own (j := 0) rfl rfl) ?_
    refine h_ite (fun e1 => ?_) (fun e1 => go _)
    refine h_loadI (by kernel_rfl) (cell_own (j := 0) rfl rfl) ?_
    refine h_ite (fun e2 => ?_) (fun e2 => ?_)
    · refine h_loadI (by kernel_rfl) (cell_own (j := 0) rfl rfl) ?_
      refine h_ite (fun e3 => ?_) (fun e3 => ?_)
      · exfalso; dsimp only at e1 e2 e3; rw [e1, e2, e3] at hno; simp at hno
      · refine h_loadI (by kernel_rfl) (cell_own (j := 0) rfl rfl) ?_
        refine h_ite (fun e4 => ?_) (fun e4 => go _)
        refine h_loadI (by kernel_rfl) (cell_own (j := 0) rfl rfl) ?_
        refine h_ite (fun e5 => ?_) (fun e5 => go _)
        exfalso; dsimp only at e1 e2 e3 e4 e5; rw [e1, e4, e5] at hno; simp at hno
    · refine h_loadI (by kernel_rfl) (cell_own (j := 0) rfl rfl) ?_
      refine h_ite (fun e4 => ?_) (fun e4 => go _)
      refine h_loadI (by kernel_rfl) (cell_own (j := 0) rfl rfl) ?_
      refine h_ite (fun e5 => ?_) (fun e5 => go _)
      exfalso; dsimp only at e1 e2 e4 e5; rw [e1, e4, e5] at hno; simp at hno
theorem cuts_loop1 {J : Ctx} {g : Nat} {d x y : Int} {A : Option Addr} {c : Nat} {l : List Opp} (hops : OpsIn J A l) (hbd : l.length ≤ 100) (hB : ∀ o ∈ l, o.p.B.length ≤ 300) :
    ∀ (q i : Nat) (u : Nat → Value) (h : Mem), i + q = l.length → BagRep 46 g (sent (l.take i)) h →
    Wp Try.prog 3 k_octroilaw20_LinkCuts_1 (t_octroilaw20_LinkCuts_1 A l.length c d x y (some ⟨g, 0, none⟩) i u) J h (cl_ fun v h' => v = .bool true ∧ h' = []) := by
  intro q
  induction q with
  | zero =>
    intro i u h hiq hrep
    rw [List.take_of_length_le (by omega)] at hrep
    have hs := sent_le l
    refine r_octroilaw20_LinkCuts_1 _ _ _ _ _ _ _ _ _ ?_
    refine h_no (by simp; omega) ?_
    refine h_call0 (fun _ => { i := (sent l).length }) ca_link_Bag_Len (fun hl => len_spec (hrep.read hl (fun x hx => hx))) rfl ?_
    refine h_call h [] ca_link_Bag_Cut (by simp) (fun hl => cut_spec hrep (by omega)) ?_
    rintro v h1 ⟨rfl, hrep⟩
    refine ⟨fun _ => { i := (((sent l).length - (left d x y (sent l)).length : Nat) : Int) }, rfl, ?_⟩
    rw [List.append_nil]
    refine h_stop fun hl => ?_
    have hle : (left d x y (sent l)).length ≤ (sent l).length := List.length_filter_le ..
    refine cuts_loop2 (M := left d x y (sent l)) (fun p hp => by have := (List.mem_filter.1 hp).2; simpa using this) (by omega) ?_ _ 0 _ h1 h1 (Nat.zero_add _) hrep ⟨[], by simp⟩
    dsimp only
    rw [show ((sent l).length : Int) - (((sent l).length - (left d x y (sent l)).length : Nat) : Int) = ((left d x y (sent l)).length : Int) by omega, wrap64 (by omega)]
  | succ q ih =>
    intro i u h hiq hrep
    have hi : i < l.length := by omega
    obtain ⟨a, A', n', c', rfl, hr, hc⟩ := hops.get hi
    have htk : sent (l.take (i + 1)) = sent (l.take i) ++ sent [l[i]] := by
      unfold sent
      rw [List.take_succ_eq_append_getElem hi, List.filter_append, List.map_append]
    have hs := sent_le (l.take i)
    rw [List.length_take] at hs
    refine r_octroilaw20_LinkCuts_1 _ _ _ _ _ _ _ _ _ ?_
    refine h_yes (by simp; omega) ?_
    refine h_index a rfl (sz := 6) (by kernel_rfl) (by omega) (by omega) rfl ?_
    dsimp only
    rw [Int.toNat_natCast]
    refine h_loadI (by kernel_rfl) (by have := (hc 0 _ rfl).sub (h := h) Sub.self; rwa [addr_add0] at this) ?_
    refine h_ite (fun e1 => ?_) (fun e1 => ?_)
    · refine h_index a rfl (sz := 6) (by kernel_rfl) (by omega) (by omega) rfl ?_
      dsimp only
      rw [Int.toNat_natCast]
      refine h_loadA (cs := [.int .i64 l[i].p.d, .int .i64 l[i].p.f, .int .i64 l[i].p.t, .slice A' n' c']) (getL [{ i := l[i].p.d }, { i := l[i].p.f }, { i := l[i].p.t }, { A := A', n := n', c := c' }]) (by kernel_rfl) (by kernel_rfl) (fun q v hq => by rw [add_add]; exact (hc (2 + q) v (by rw [Nat.add_comm]; exact hq)).sub Sub.self) rfl ?_; dsimp only [getL]
      refine h_call h [] ca_link_Bag_Send (by simp) (fun hl => by rw [plus_nil]; exact send_spec (I := J) (p := l[i].p) (c := c') hrep hr (by have := hB _ (List.getElem_mem hi); omega) (by omega)) (Qc := fun v h' => v = undef ∧ BagRep 46 g (sent (l.take i) ++ [l[i].p]) h') ?_
      rintro v h1 ⟨rfl, hrep⟩
      refine ⟨fun _ => {}, rfl, ?_⟩
      rw [List.append_nil]
      refine h_stop fun hl => ?_
      rw [wrapS (by omega)]
      refine ih (i + 1) _ h1 (by omega) ?_
      rw [htk]
      have : sent [l[i]] = [l[i].p] := by unfold sent; dsimp only at e1; simp [e1]
      rw [this]
      exact hrep
    · refine h_stop fun hl => ?_
      rw [wrapS (by omega)]
      refine ih (i + 1) _ h (by omega) ?_
      rw [htk]
      have : sent [l[i]] = [] := by unfold sent; dsimp only at e1; simp [e1]
      rw [this, List.append_nil]
      exact hrep
theorem law_LinkCuts {J : Ctx} {A : Option Addr} {c : Nat} {l : List Opp} (hops : OpsIn J A l) (d x y : Int) : Fn Try.prog 3 #[.slice A l.length c, .int .i64 d, .int .i64 x, .int .i64 y] J [] (fun v h' => v = .bool true ∧ h' = []) := by
  refine r_octroilaw20_LinkCuts _ _ _ _ _ _ ?_
  refine h_call0 (fun _ => { b := true }) ca_octroilaw20_awake (fun hl => awake_spec) rfl ?_
  refine h_call0 (fun _ => { b := fewB l }) ca_octroilaw20_few (fun hl => few_spec (hops.up (Sub.self.up hl))) rfl ?_
  refine h_call [] _ ca_link_New (List.Perm.refl _) (fun hl => new_spec) ?_
  rintro v h1 ⟨g, rfl, hrep⟩
  refine ⟨fun _ => { A := some ⟨g, 0, none⟩ }, rfl, ?_⟩
  dsimp only
  rw [List.append_nil]
  refine h_no rfl ?_
  refine h_ite (fun hb => ?_) (fun hb => ?_)
  · refine h_yes rfl ?_
    refine h_rdn (fun _ => { b := true }) (rw_neNil (.inr rfl) (by kernel_rfl) rfl) ?_
    exact h_end0 ⟨rfl, rfl⟩
  · refine h_rdn (fun _ => { b := false }) (rw_neNil (.inl rfl) (by kernel_rfl) rfl) ?_
    refine h_no rfl ?_
    refine h_stop fun hl => ?_
    unfold fewB at hb
    simp at hb
    exact cuts_loop1 hops hb.1 (fun o ho => hb.2 o ho) l.length 0 _ h1 (by omega) hrep
end Go.Proofs.YthkfeonpnplemaaS
