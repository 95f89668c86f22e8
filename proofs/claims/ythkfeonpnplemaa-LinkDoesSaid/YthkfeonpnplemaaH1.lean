import Derived.Test.YthkfeonpnplemaaT1
import Derived.Test.YthkfeonpnplemaaSR
set_option linter.unusedVariables false
namespace Go.Proofs.YthkfeonpnplemaaS
/-- Bytes of one's own. -/
abbrev OwnB (A : Option Addr) (n c : Nat) (l : List UInt8) (m : Mem) : Prop := Own 5 1 A n c (bC l) m
theorem OwnB.rdb {I : Ctx} {h m : Mem} {A : Option Addr} {n c : Nat} {l : List UInt8} (ho : OwnB A n c l m) (hl : Live I h) (hm : ∀ x ∈ m, x ∈ h) : RdB (plus I h) A n l :=
  ⟨by have := ho.1; simpa using this, ho.some_of, (ho.rd hm).all hl⟩

theorem clone_spec {I : Ctx} {A : Option Addr} {n c : Nat} {l : List UInt8} (hr : RdB I A n l) (hb : n ≤ 140737488355328) :
    Fn Try.prog 27 #[.slice A n c] I [] (fun v h' => ∃ A' c', v = .slice A' n c' ∧ OwnB A' n c' l h') := by
  obtain ⟨hl, hA, hr⟩ := hr
  refine r_slices_Clone_byte _ _ _ ?_
  refine h_rdn (fun _ => { b := A.isNone }) (rw_slNil (.inl rfl) (by kernel_rfl) rfl) ?_
  refine h_ite (fun hb' => ?_) (fun hb' => ?_)
  · have hA0 : A = none := by simpa using hb'
    subst hA0
    have hn := hA rfl
    subst hn
    have hl0 : l = [] := List.eq_nil_of_length_eq_zero hl
    subst hl0
    exact h_end0 ⟨none, 0, rfl, Own.nil _ _⟩
  · refine h_row (e := 5) #[] (by kernel_rfl) fun g hg hI => ?_
    refine h_append (cl_.aff _) eb_uint8 (by kernel_rfl) (hr.sub Sub.self) hA (by simp [hl]) (bC_plain l) (m := [(g, .cells #[] 5 (0, 0))]) (hr := []) (List.Perm.refl _) (Own.row (n := 0) rfl) (by omega) (by omega) ?_
    intro A' c' m' ho
    refine h_end (h1 := m') (g := []) (by simp) ⟨A', c', ?_, ?_⟩
    · simp
    · simpa using ho

theorem owned_spec {I : Ctx} {a b d : Int} {A : Option Addr} {n c : Nat} {l : List UInt8} (hr : RdB I A n l) (hb : n ≤ 140737488355328) :
    Fn Try.prog 22 #[.agg #[.int .i64 a, .int .i64 b, .int .i64 d, .slice A n c]] I [] (fun v h' => ∃ A' c', v = .agg #[.int .i64 a, .int .i64 b, .int .i64 d, .slice A' n c'] ∧ OwnB A' n c' l h') := by
  refine r_link_owned _ _ _ _ _ _ ?_
  refine h_box fun g1 hg1 hI1 => ?_
  refine h_alloc zb_Packet fun g2 hg2 hI2 => ?_
  refine h_loadL (by kernel_rfl) (by first | exact cell_own (j := 0) rfl rfl | exact cell_own (j := 1) rfl rfl | exact cell_own (j := 2) rfl rfl | exact cell_own (j := 3) rfl rfl | exact cell_own (j := 4) rfl rfl) ?_
  refine h_call [] _ ca_slices_Clone_byte (List.Perm.refl _) (fun hl => clone_spec (hr.up (Sub.self.up hl)) hb) ?_
  rintro v h1 ⟨A', c', rfl, ho⟩
  refine ⟨fun _ => { A := A', n := n, c := c' }, rfl, ?_⟩
  dsimp only
  refine holds_perm (cl_.aff _) (List.perm_append_comm) ?_
  refine h_store 1 rfl (by kernel_rfl) (Nat.le_of_ble_eq_true rfl) (by simp [Value.cells]) ?_
  refine h_loadA (cs := [.int .i64 a, .int .i64 b, .int .i64 d, .slice A' n c']) (getL [{ i := a }, { i := b }, { i := d }, { A := A', n := n, c := c' }]) (by kernel_rfl) (by kernel_rfl) (cells_at (j := 1) rfl rfl) rfl ?_
  dsimp only [getL]
  refine h_store 0 rfl (by kernel_rfl) (Nat.le_of_ble_eq_true rfl) (by simp [Value.cells]) ?_
  refine h_loadVA (cs := [.int .i64 a, .int .i64 b, .int .i64 d, .slice A' n c']) (getL [{ i := a }, { i := b }, { i := d }, { A := A', n := n, c := c' }]) (by kernel_rfl) (by kernel_rfl) (cells_at (j := 0) rfl rfl) rfl ?_
  dsimp only [getL]
  exact h_endR [_, _] rfl ⟨A', c', rfl, ho⟩

/-- A packet. -/
structure Pk where
  d : Int
  f : Int
  t : Int
  B : List UInt8
def Pk.v (p : Pk) (A : Option Addr) (n c : Nat) : Value := .agg #[.int .i64 p.d, .int .i64 p.f, .int .i64 p.t, .slice A n c]
/-- A packet's cells. -/
def pkC (J : Ctx) (p : Pk) (cs : List Value) : Prop := ∃ A n c, cs = [.int .i64 p.d, .int .i64 p.f, .int .i64 p.t, .slice A n c] ∧ RdB J A n p.B
def pksC (J : Ctx) : List Pk → List Value → Prop
  | [], cs => cs = []
  | p :: l, cs => ∃ c r, cs = c ++ r ∧ pkC J p c ∧ pksC J l r
theorem pkC.up {J J' : Ctx} {p : Pk} {cs : List Value} (h : pkC J p cs) (hs : ∀ b o, J b = some o → J' b = some o) : pkC J' p cs := by
  obtain ⟨A, n, c, rfl, hr⟩ := h
  exact ⟨A, n, c, rfl, hr.up hs⟩
theorem pksC.up {J J' : Ctx} : ∀ {l : List Pk} {cs : List Value}, pksC J l cs → (∀ b o, J b = some o → J' b = some o) → pksC J' l cs
  | [], _, h, _ => h
  | p :: l, _, ⟨c, r, e, h1, h2⟩, hs => ⟨c, r, e, h1.up hs, pksC.up h2 hs⟩
theorem pkC.len {J : Ctx} {p : Pk} {cs : List Value} (h : pkC J p cs) : cs.length = 4 := by
  obtain ⟨A, n, c, rfl, hr⟩ := h
  rfl
theorem pksC.len {J : Ctx} : ∀ {l : List Pk} {cs : List Value}, pksC J l cs → cs.length = l.length * 4
  | [], _, h => by rw [show _ = [] from h]; rfl
  | p :: l, _, ⟨c, r, e, h1, h2⟩ => by rw [e, List.length_append, h1.len, pksC.len h2]; simp; omega
theorem pksC.append {J : Ctx} : ∀ {l l' : List Pk} {cs cs' : List Value}, pksC J l cs → pksC J l' cs' → pksC J (l ++ l') (cs ++ cs')
  | [], l', cs, cs', h, h' => by rw [show cs = [] from h]; exact h'
  | p :: l, l', _, cs', ⟨c, r, e, h1, h2⟩, h' => ⟨c, r ++ cs', by rw [e, List.append_assoc], h1, h2.append h'⟩
theorem plus_mono {I J : Ctx} {g : Mem} (hI : ∀ b o, I b = some o → J b = some o) : ∀ b o, plus I g b = some o → plus J g b = some o := by
  intro b o hb
  unfold plus at *
  cases hf : g.find? (fun p => p.1 == b) with
  | some p => rw [hf] at hb; exact hb
  | none => rw [hf] at hb; exact hI _ _ hb

/-- Nothing. -/
abbrev noC : Ctx := fun _ => none
theorem own_mem {hb : Mem} {b : Nat} {o : Obj} (h : plus noC hb b = some o) : (b, o) ∈ hb := by
  have := sub_plus (I := noC) (g := hb) (h := hb) (fun x hx => hx) b o h
  rcases this with h | h
  · exact h
  · cases h
theorem Live.no {I : Ctx} {h : Mem} (hl : Live I h) : Live noC h := let ⟨w0, K0, w, hi⟩ := hl; ⟨w0, K0, w, hi.own, hi.nd, fun b o hb => (by cases hb), hi.key, hi.frame, hi.size, hi.os, hi.tape, hi.output⟩
/-- A bag: block g holds a slice; its row is one's own, and its packets' bytes are among hb. -/
def BagRep (ty : TypeId) (g : Nat) (L : List Pk) (h : Mem) : Prop :=
  ∃ A c cs m hb, h.Perm ((g, .cells #[.slice A L.length c] ty (0, 0)) :: (m ++ hb)) ∧ Own 29 4 A L.length c cs m ∧ pksC (plus noC hb) L cs ∧ ∀ p ∈ L, p.B.length ≤ 1000000
theorem Aff.perm {Q : Value → Mem → Prop} (hQ : Aff Q) {v : Value} {h g : Mem} (p : h.Perm g) (hq : Q v g) : Q v h := hQ v h g [] (by simpa using p) hq

theorem send_spec {I : Ctx} {g : Nat} {L : List Pk} {h : Mem} {p : Pk} {A : Option Addr} {n c : Nat} (hrep : BagRep 46 g L h) (hr : RdB I A n p.B) (hpb : p.B.length ≤ 1000000) (hbd : L.length ≤ 1000000) :
    Fn Try.prog 10 #[.pointer (some ⟨g, 0, none⟩), p.v A n c] I h (fun v h' => v = undef ∧ BagRep 46 g (L ++ [p]) h') := by
  obtain ⟨A0, c0, cs, m, hb, hp, ho, hpk, hall⟩ := hrep
  have hnp := hr.len
  refine Fn.perm ?_ hp
  refine r_link_Bag_Send _ _ _ _ _ _ _ ?_
  refine h_box fun g1 hg1 hI1 => ?_
  refine h_loadL (by kernel_rfl) (by first | exact cell_own (j := 0) rfl rfl | exact cell_own (j := 1) rfl rfl | exact cell_own (j := 2) rfl rfl | exact cell_own (j := 3) rfl rfl | exact cell_own (j := 4) rfl rfl) ?_
  refine h_loadA (cs := [.int .i64 p.d, .int .i64 p.f, .int .i64 p.t, .slice A n c]) (getL [{ i := p.d }, { i := p.f }, { i := p.t }, { A := A, n := n, c := c }]) (by kernel_rfl) (by kernel_rfl) (cells_at (j := 0) rfl rfl) rfl ?_
  dsimp only [getL]
  refine h_call [] _ ca_link_owned (List.Perm.refl _) (fun hl => owned_spec (hr.up (Sub.self.up hl)) (by omega)) ?_
  rintro v h1 ⟨A', c', rfl, ho'⟩
  refine ⟨getL [{ i := p.d }, { i := p.f }, { i := p.t }, { A := A', n := n, c := c' }], rfl, ?_⟩
  dsimp only [getL]
  refine holds_perm (cl_.aff _) (List.perm_append_comm) ?_
  refine h_pin (rwp_vN (rw_load1 (by kernel_rfl) (by first | exact cell_own (j := 0) rfl rfl | exact cell_own (j := 1) rfl rfl | exact cell_own (j := 2) rfl rfl | exact cell_own (j := 3) rfl rfl | exact cell_own (j := 4) rfl rfl) rfl)) ?_
  refine h_row (e := 29) #[.int .i64 p.d, .int .i64 p.f, .int .i64 p.t, .slice A' n c'] (by kernel_rfl) fun g2 hg2 hI2 => ?_
  refine h_append (cl_.aff _) eb_Packet (by kernel_rfl) (fun _ => ⟨_, rfl, cells_at (j := 0) (cs := [.int .i64 p.d, .int .i64 p.f, .int .i64 p.t, .slice A' n c']) rfl rfl⟩) (fun h => by cases h) rfl (by simp) (m := m)
    (hr := (g, .cells #[.slice A0 L.length c0] 46 (0, 0)) :: (g2, .cells #[.int .i64 p.d, .int .i64 p.f, .int .i64 p.t, .slice A' n c'] 29 (0, 0)) :: (g1, .cells #[.int .i64 p.d, .int .i64 p.f, .int .i64 p.t, .slice A n c] 29 (0, 0)) :: (hb ++ h1)) ?_ ho (by omega) (by omega) ?_
  · exact (perm_count fun D_ a_ => by simp only [Value.cells, List.count_append, List.count_cons, List.count_nil, List.nil_append, List.cons_append]; omega)
  intro A2 c2 m2 ho2
  refine holds_perm (cl_.aff _) (List.perm_append_comm) ?_
  refine h_store 0 rfl (by kernel_rfl) (Nat.le_of_ble_eq_true rfl) (by simp [Value.cells]) ?_
  refine holds_live fun hl => ?_
  refine h_end (h1 := (g, .cells #[.slice A2 (L.length + 1) c2] 46 (0, 0)) :: (m2 ++ (hb ++ h1))) (g := [(g2, .cells #[.int .i64 p.d, .int .i64 p.f, .int .i64 p.t, .slice A' n c'] 29 (0, 0)), (g1, .cells #[.int .i64 p.d, .int .i64 p.f, .int .i64 p.t, .slice A n c] 29 (0, 0))]) ?_
    ⟨rfl, A2, c2, cs ++ [.int .i64 p.d, .int .i64 p.f, .int .i64 p.t, .slice A' n c'], m2, hb ++ h1, ?_, ?_, ?_, ?_⟩
  · show List.Perm ((g, .cells #[.slice A2 (L.length + 1) c2] 46 (0, 0)) :: (_ :: _ :: (hb ++ h1) ++ m2)) _
    exact (perm_count fun D_ a_ => by simp only [Value.cells, List.count_append, List.count_cons, List.count_nil, List.nil_append, List.cons_append]; omega)
  · rw [List.length_append]; exact List.Perm.refl _
  · rw [List.length_append]; exact ho2
  · have hl2 : Live noC ((hb ++ h1)) := by
      have h2 : Live I ((g, .cells #[.slice A2 (L.length + 1) c2] 46 (0, 0)) :: (_ :: _ :: (hb ++ h1) ++ m2)) := hl
      have h3 := h2.tail.tail.tail
      exact h3.left.no
    refine pksC.append (hpk.up fun b o hb' => ?_) ⟨_, [], by simp, ⟨A', n, c', rfl, ?_⟩, rfl⟩
    · exact plus_has hl2 (.inl (List.mem_append_left _ (own_mem hb')))
    · exact ho'.rdb hl2 (fun x hx => List.mem_append_right _ hx)
  · intro q hq
    rcases List.mem_append.1 hq with hq | hq
    · exact hall q hq
    · rw [List.mem_singleton] at hq; rw [hq]; exact hpb
end Go.Proofs.YthkfeonpnplemaaS
