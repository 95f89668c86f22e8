/- Rows of elements that are alike: what a slice of structs holds. -/
import Derived.Test.YtcafalcmfdnojaaDoorSO
import Derived.Laws.Strings
set_option linter.unusedVariables false
namespace Go.Proofs.YtcafalcmfdnojaaDoorS
section
variable {α : Type} {el el' : α → List Value → Prop} {sz : Nat}
theorem bS_toList (l : List UInt8) : (bS l).toList = l := by rw [ByteArray.toList_eq]; simp [bS]
/-- The cells of a row of elements. -/
def rowC (el : α → List Value → Prop) : List α → List Value → Prop
  | [], cs => cs = []
  | p :: l, cs => ∃ c r, cs = c ++ r ∧ el p c ∧ rowC el l r
theorem rowC.mono (hs : ∀ p c, el p c → el' p c) : ∀ {l : List α} {cs : List Value}, rowC el l cs → rowC el' l cs
  | [], _, h => h
  | p :: l, _, ⟨c, r, e, h1, h2⟩ => ⟨c, r, e, hs _ _ h1, rowC.mono hs h2⟩
theorem rowC.len (hl : ∀ p c, el p c → c.length = sz) : ∀ {l : List α} {cs : List Value}, rowC el l cs → cs.length = l.length * sz
  | [], _, h => by rw [show _ = [] from h]; simp
  | p :: l, _, ⟨c, r, e, h1, h2⟩ => by rw [e, List.length_append, hl _ _ h1, rowC.len hl h2, List.length_cons, Nat.succ_mul, Nat.add_comm]
theorem rowC.append : ∀ {l l' : List α} {cs cs' : List Value}, rowC el l cs → rowC el l' cs' → rowC el (l ++ l') (cs ++ cs')
  | [], l', cs, cs', h, h' => by rw [show cs = [] from h]; exact h'
  | p :: l, l', _, cs', ⟨c, r, e, h1, h2⟩, h' => ⟨c, r ++ cs', by rw [e, List.append_assoc], h1, h2.append h'⟩
theorem rowC.one {p : α} {c : List Value} (h : el p c) : rowC el [p] c := ⟨c, [], by simp, h, rfl⟩
theorem rowC.snoc {l : List α} {cs : List Value} {p : α} {c : List Value} (h : rowC el l cs) (h' : el p c) : rowC el (l ++ [p]) (cs ++ c) := h.append (rowC.one h')
theorem rowC.get (hl : ∀ p c, el p c → c.length = sz) : ∀ {l : List α} {cs : List Value} {i : Nat} {p : α}, rowC el l cs → l[i]? = some p → ∃ c, el p c ∧ ∀ q v, c[q]? = some v → cs[i * sz + q]? = some v
  | [], _, i, p, _, hp => by simp at hp
  | x :: l, _, 0, p, ⟨c, r, e, h1, h2⟩, hp => by
    simp at hp
    subst hp
    refine ⟨c, h1, fun q v hq => ?_⟩
    rw [e, Nat.zero_mul, Nat.zero_add, List.getElem?_append_left (List.getElem?_eq_some_iff.1 hq).1]
    exact hq
  | x :: l, _, i + 1, p, ⟨c, r, e, h1, h2⟩, hp => by
    obtain ⟨c', h3, h4⟩ := rowC.get hl h2 (by simpa using hp)
    have hc := hl _ _ h1
    refine ⟨c', h3, fun q v hq => ?_⟩
    rw [e, List.getElem?_append_right (by rw [hc, Nat.succ_mul]; omega), hc, show (i + 1) * sz + q - sz = i * sz + q by rw [Nat.succ_mul]; omega]
    exact h4 q v hq
theorem rowC.take (hl : ∀ p c, el p c → c.length = sz) : ∀ {l : List α} {cs : List Value} (i : Nat), rowC el l cs → rowC el (l.take i) (cs.take (i * sz))
  | l, cs, 0, h => by simp [rowC]
  | [], cs, i + 1, h => by rw [show cs = [] from h]; simp [rowC]
  | p :: l, cs, i + 1, ⟨c, r, e, h1, h2⟩ => by
    have hc := hl _ _ h1
    refine ⟨c, r.take (i * sz), ?_, h1, rowC.take hl i h2⟩
    rw [e, List.take_append, List.take_of_length_le (by rw [hc, Nat.succ_mul]; omega), hc, show (i + 1) * sz - sz = i * sz by rw [Nat.succ_mul]; omega]
theorem rowC.drop (hl : ∀ p c, el p c → c.length = sz) : ∀ {l : List α} {cs : List Value} (i : Nat), rowC el l cs → rowC el (l.drop i) (cs.drop (i * sz))
  | l, cs, 0, h => by simpa using h
  | [], cs, i + 1, h => by rw [show cs = [] from h]; simp [rowC]
  | p :: l, cs, i + 1, ⟨c, r, e, h1, h2⟩ => by
    have hc := hl _ _ h1
    have := rowC.drop hl i h2
    rw [e, List.drop_append, List.drop_of_length_le (l := c) (by rw [hc, Nat.succ_mul]; omega), hc, show (i + 1) * sz - sz = i * sz by rw [Nat.succ_mul]; omega]
    simpa using this
theorem rowC.plain (hl : ∀ p c, el p c → ∀ v ∈ c, (∀ x, v ≠ .agg x) ∧ ∀ x, v ≠ .tuple x) : ∀ {l : List α} {cs : List Value}, rowC el l cs → ∀ v ∈ cs, (∀ x, v ≠ .agg x) ∧ ∀ x, v ≠ .tuple x
  | [], cs, h => by rw [show cs = [] from h]; simp
  | p :: l, cs, ⟨c, r, e, h1, h2⟩ => by
    rw [e]
    intro v hv
    rcases List.mem_append.1 hv with hv | hv
    · exact hl _ _ h1 v hv
    · exact rowC.plain hl h2 v hv
/-- Element i of a row at hand. -/
theorem rowC.at (hl : ∀ p c, el p c → c.length = sz) {J : Ctx} {A : Option Addr} {l : List α} {cs : List Value} (h : rowC el l cs) (hr : RdC J [] A cs) (hsz : 0 < sz) {i : Nat} {p : α} (hp : l[i]? = some p) :
    ∃ a c, A = some a ∧ el p c ∧ Cells J [] (a.add (i * sz)) c := by
  obtain ⟨c, h1, h2⟩ := rowC.get hl h hp
  have hc := hl _ _ h1
  obtain ⟨a, rfl, h3⟩ := hr (fun he => by
    obtain ⟨v, hv⟩ : ∃ v, c[0]? = some v := ⟨_, List.getElem?_eq_getElem (by omega)⟩
    have := h2 0 v hv
    rw [he] at this
    simp at this)
  exact ⟨a, c, rfl, h1, fun q v hq => by rw [add_add]; exact h3 _ v (h2 q v hq)⟩
end
end Go.Proofs.YtcafalcmfdnojaaDoorS
