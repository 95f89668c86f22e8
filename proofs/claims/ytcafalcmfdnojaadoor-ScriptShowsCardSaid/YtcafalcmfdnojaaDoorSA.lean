/- Memory as a list of blocks that are held and a context that is only read; what a step of the model does to them. -/
import Derived.Orders
import Derived.Below
namespace Go.Proofs.YtcafalcmfdnojaaDoorS

abbrev Mem := List (Nat × Obj)
abbrev Ctx := Nat → Option Obj
def keys (h : Mem) : List Nat := h.map (·.1)
@[simp] theorem keys_nil : keys [] = [] := rfl
@[simp] theorem keys_cons (p : Nat × Obj) (h : Mem) : keys (p :: h) = p.1 :: keys h := rfl
@[simp] theorem keys_append (h g : Mem) : keys (h ++ g) = keys h ++ keys g := by simp [keys]
theorem keys_perm {h g : Mem} (p : h.Perm g) : (keys h).Perm (keys g) := p.map _
theorem mem_keys {h : Mem} {b : Nat} {o : Obj} (hm : (b, o) ∈ h) : b ∈ keys h := List.mem_map.2 ⟨_, hm, rfl⟩

/-- Block b holds o. -/
def Has (I : Ctx) (h : Mem) (b : Nat) (o : Obj) : Prop := (b, o) ∈ h ∨ I b = some o
theorem Has.mono {I : Ctx} {h g : Mem} {b : Nat} {o : Obj} (hh : Has I h b o) (hs : ∀ x ∈ h, x ∈ g) : Has I g b o := hh.imp (hs _) id
/-- The cell at a holds v. -/
def CellIs (I : Ctx) (h : Mem) (a : Addr) (v : Value) : Prop := a.spot = none ∧ ∃ cs t fz, Has I h a.block (.cells cs t fz) ∧ cs[a.off]? = some v
theorem CellIs.mono {I : Ctx} {h g : Mem} {a : Addr} {v : Value} (hc : CellIs I h a v) (hs : ∀ x ∈ h, x ∈ g) : CellIs I g a v := by
  obtain ⟨h1, cs, t, fz, h2, h3⟩ := hc
  exact ⟨h1, cs, t, fz, h2.mono hs, h3⟩

/-- The world w, w0 being the one at the beginning: the blocks of h are held, I's are as they are; no others than K0's, and new ones, have turned. -/
structure Inv (w0 : World) (K0 : List Nat) (I : Ctx) (h : Mem) (w : World) : Prop where
  own : ∀ b o, (b, o) ∈ h → w.heap[b]? = some o
  nd : (keys h).Nodup
  ctx : ∀ b o, I b = some o → w.heap[b]? = some o ∧ b ∉ keys h
  key : ∀ b ∈ keys h, b ∈ K0 ∨ w0.heap.size ≤ b
  frame : ∀ b, b < w0.heap.size → b ∉ K0 → w.heap[b]? = w0.heap[b]?
  size : w0.heap.size ≤ w.heap.size
  os : w.os = w0.os
  tape : w.tape = w0.tape
  output : w.output = w0.output

theorem Inv.has {w0 w : World} {K0 : List Nat} {I : Ctx} {h : Mem} (hi : Inv w0 K0 I h w) {b : Nat} {o : Obj} (hb : Has I h b o) : w.heap[b]? = some o :=
  hb.elim (hi.own b o) (fun hc => (hi.ctx b o hc).1)
theorem Inv.cell {w0 w : World} {K0 : List Nat} {I : Ctx} {h : Mem} (hi : Inv w0 K0 I h w) {a : Addr} {v : Value} (hc : CellIs I h a v) : w.cell? a = some v := by
  obtain ⟨h1, cs, t, fz, h2, h3⟩ := hc
  simp [World.cell?, hi.has h2, h1, h3]
theorem Inv.lt {w0 w : World} {K0 : List Nat} {I : Ctx} {h : Mem} (hi : Inv w0 K0 I h w) {b : Nat} (hb : b ∈ keys h) : b < w.heap.size := by
  obtain ⟨⟨b', o⟩, hm, rfl⟩ := List.mem_map.1 hb
  have := hi.own _ _ hm
  exact (Array.getElem?_eq_some_iff.1 this).1
theorem Inv.perm {w0 w : World} {K0 : List Nat} {I : Ctx} {h g : Mem} (hi : Inv w0 K0 I h w) (p : h.Perm g) : Inv w0 K0 I g w :=
  ⟨fun b o hm => hi.own b o (p.mem_iff.2 hm), (keys_perm p).nodup_iff.1 hi.nd, fun b o hb => ⟨(hi.ctx b o hb).1, fun hk => (hi.ctx b o hb).2 ((keys_perm p).mem_iff.2 hk)⟩,
    fun b hb => hi.key b ((keys_perm p).mem_iff.2 hb), hi.frame, hi.size, hi.os, hi.tape, hi.output⟩
/-- What is held may be forgotten. -/
theorem Inv.drop {w0 w : World} {K0 : List Nat} {I : Ctx} {h g : Mem} (hi : Inv w0 K0 I (h ++ g) w) : Inv w0 K0 I h w :=
  ⟨fun b o hm => hi.own b o (List.mem_append_left _ hm), by have := hi.nd; rw [keys_append] at this; exact (List.nodup_append.1 this).1,
    fun b o hb => ⟨(hi.ctx b o hb).1, fun hk => (hi.ctx b o hb).2 (by rw [keys_append]; exact List.mem_append_left _ hk)⟩,
    fun b hb => hi.key b (by rw [keys_append]; exact List.mem_append_left _ hb), hi.frame, hi.size, hi.os, hi.tape, hi.output⟩
theorem Inv.start (w : World) (I : Ctx) (hI : ∀ b o, I b = some o → w.heap[b]? = some o) : Inv w [] I [] w :=
  ⟨fun _ _ h => by simp at h, by simp, fun b o hb => ⟨hI b o hb, by simp⟩, fun b hb => by simp at hb, fun _ _ _ => rfl, Nat.le_refl _, rfl, rfl, rfl⟩
theorem Inv.below {w0 w : World} {I : Ctx} {h : Mem} (hi : Inv w0 [] I h w) : Go.RowKit.Below w0.heap.size w0 w :=
  ⟨hi.os, hi.tape, hi.output, hi.size, fun k hk => hi.frame k hk (by simp)⟩
theorem Inv.draw {w0 w : World} {K0 : List Nat} {I : Ctx} {h : Mem} (hi : Inv w0 K0 I h w) (n : Nat) : Inv w0 K0 I h { w with drawn := n } :=
  ⟨hi.own, hi.nd, hi.ctx, hi.key, hi.frame, hi.size, hi.os, hi.tape, hi.output⟩
/-- A new block. -/
theorem Inv.new {w0 w : World} {K0 : List Nat} {I : Ctx} {h : Mem} (hi : Inv w0 K0 I h w) (o : Obj) :
    w.heap.size ∉ keys h ∧ I w.heap.size = none ∧ Inv w0 K0 I ((w.heap.size, o) :: h) { w with heap := w.heap.push o } := by
  have hk : w.heap.size ∉ keys h := fun hm => by have := hi.lt hm; omega
  have hI : I w.heap.size = none := by
    cases hc : I w.heap.size with
    | none => rfl
    | some o' => have := (hi.ctx _ _ hc).1; simp at this
  refine ⟨hk, hI, ⟨fun b o' hm => ?_, ?_, fun b o' hb => ⟨?_, ?_⟩, fun b hb => ?_, fun b hb hK => ?_, ?_, hi.os, hi.tape, hi.output⟩⟩
  · rcases List.mem_cons.1 hm with he | hm
    · injection he with h1 h2; subst h1; subst h2; simp
    · have := hi.lt (mem_keys hm)
      simp only [Array.getElem?_push]
      rw [if_neg (by omega)]
      exact hi.own b o' hm
  · rw [keys_cons]; exact List.nodup_cons.2 ⟨hk, hi.nd⟩
  · have h1 := (hi.ctx b o' hb).1
    have h2 := (Array.getElem?_eq_some_iff.1 h1).1
    simp only [Array.getElem?_push]
    rw [if_neg (by omega)]
    exact h1
  · rw [keys_cons]
    intro hm
    rcases List.mem_cons.1 hm with he | hm
    · simp only at he; subst he; rw [hI] at hb; cases hb
    · exact (hi.ctx b o' hb).2 hm
  · rw [keys_cons] at hb
    rcases List.mem_cons.1 hb with he | hb
    · simp only at he; subst he; exact .inr hi.size
    · exact hi.key b hb
  · have h1 := hi.size
    simp only [Array.getElem?_push]
    rw [if_neg (by omega)]
    exact hi.frame b hb hK
  · have h1 := hi.size
    simp only [Array.size_push]
    omega

theorem keys_set {h : Mem} {i b : Nat} {o o' : Obj} (hi : h[i]? = some (b, o)) : keys (h.set i (b, o')) = keys h := by
  unfold keys
  rw [List.map_set]
  apply List.ext_getElem?
  intro j
  rw [List.getElem?_set]
  split
  · rename_i hij
    subst hij
    obtain ⟨hlt, he⟩ := List.getElem?_eq_some_iff.1 hi
    simp [hlt, he]
  · rfl
theorem mem_set {h : Mem} (hn : (keys h).Nodup) {i b : Nat} {o o' : Obj} (hi : h[i]? = some (b, o)) {b' : Nat} {u : Obj} (hm : (b', u) ∈ h.set i (b, o')) :
    (b' = b ∧ u = o') ∨ (b' ≠ b ∧ (b', u) ∈ h) := by
  obtain ⟨j, hj⟩ := List.getElem?_of_mem hm
  rw [List.getElem?_set] at hj
  split at hj
  · rename_i hij
    split at hj
    · injection hj with hj; injection hj with h1 h2; exact .inl ⟨h1.symm, h2.symm⟩
    · cases hj
  · rename_i hij
    refine .inr ⟨fun he => hij ?_, List.mem_of_getElem? hj⟩
    subst he
    have h1 : (keys h)[i]? = some b' := by simp [keys, hi]
    have h2 : (keys h)[j]? = some b' := by simp [keys, hj]
    exact (List.getElem?_inj (List.getElem?_eq_some_iff.1 h1).1 hn).1 (h1.trans h2.symm)
/-- A block that is held is written. -/
theorem Inv.set {w0 w : World} {K0 : List Nat} {I : Ctx} {h : Mem} (hi : Inv w0 K0 I h w) {i b : Nat} {o o' : Obj} (hb : h[i]? = some (b, o)) {w' : World}
    (hw : w'.os = w.os ∧ w'.tape = w.tape ∧ w'.output = w.output ∧ w'.heap.size = w.heap.size) (h1 : w'.heap[b]? = some o') (h2 : ∀ k, k ≠ b → w'.heap[k]? = w.heap[k]?) :
    Inv w0 K0 I (h.set i (b, o')) w' := by
  have hkb : b ∈ keys h := mem_keys (List.mem_of_getElem? hb)
  refine ⟨fun b' u hm => ?_, ?_, fun b' u hc => ⟨?_, ?_⟩, fun b' hm => ?_, fun b' hlt hK => ?_, by rw [hw.2.2.2]; exact hi.size, hw.1.trans hi.os, hw.2.1.trans hi.tape, hw.2.2.1.trans hi.output⟩
  · rcases mem_set hi.nd hb hm with ⟨rfl, rfl⟩ | ⟨hne, hm⟩
    · exact h1
    · rw [h2 b' hne]; exact hi.own b' u hm
  · rw [keys_set hb]; exact hi.nd
  · rw [h2 b' (fun e => (hi.ctx b' u hc).2 (e ▸ hkb))]; exact (hi.ctx b' u hc).1
  · rw [keys_set hb]; exact (hi.ctx b' u hc).2
  · rw [keys_set hb] at hm; exact hi.key b' hm
  · have hne : b' ≠ b := by
      rintro rfl
      rcases hi.key _ hkb with h3 | h3
      · exact hK h3
      · omega
    rw [h2 b' hne]; exact hi.frame b' hlt hK

/-- What of a block may not be written any more. -/
def fzn (fz : Nat × Nat) (o n : Nat) : Nat × Nat := if n = 0 then fz else if fz.1 == fz.2 then (o, o + n) else (min fz.1 o, max fz.2 (o + n))
/-- What a step may do, told of what is held. -/
def swp {α : Type} (P : Program) (I : Ctx) : Sem α → Mem → (α → Mem → Prop) → Prop
  | .pure a, h, Q => Q a h
  | .load _ a k, h, Q => ∃ v, CellIs I h a v ∧ swp P I (k v) h Q
  | .store _ a v k, h, Q => (∀ x, v ≠ .agg x) ∧ (∀ x, v ≠ .tuple x) ∧ a.spot = none ∧
      ∃ i cs t, h[i]? = some (a.block, .cells cs t (0, 0)) ∧ a.off < cs.size ∧ swp P I k (h.set i (a.block, .cells (cs.setIfInBounds a.off v) t (0, 0))) Q
  | .new o k, h, Q => ∀ g, g ∉ keys h → I g = none → swp P I (k g) ((g, o) :: h) Q
  | .shape r k, h, Q => ∃ cs e fz, Has I h r (.cells cs e fz) ∧ swp P I (k (some (e, cs.size))) h Q
  | .freeze a n k, h, Q => (n = 0 ∧ swp P I k h Q) ∨ (∃ i cs t fz, h[i]? = some (a.block, .cells cs t fz) ∧ swp P I k (h.set i (a.block, .cells cs t (fzn fz a.off n))) Q)
  | .frozen a k, h, Q => ∃ cs e fz, Has I h a.block (.cells cs e fz) ∧ swp P I (k (fz.1 ≤ a.off && a.off < fz.2)) h Q
  | .getObj r k, h, Q => ∃ o, Has I h r o ∧ (∀ c e f, o ≠ .cells c e f) ∧ swp P I (k o) h Q
  | .setObj r o k, h, Q => ∃ i o0, h[i]? = some (r, o0) ∧ (∀ c e f, o0 ≠ .cells c e f) ∧ swp P I k (h.set i (r, o)) Q
  | .choose q k, h, Q => (q.forced = true → swp P I (k 0) h Q) ∧ (q.forced = false → ∀ t, swp P I (k (q.cut t)) h Q)
  | .sys _ _, _, _ => False
  | .program k, h, Q => swp P I (k P) h Q
  | .mark _ k, h, Q => swp P I k h Q
  | .halt _, _, _ => False

section
variable {P : Program} {I : Ctx}
theorem swp_run {w0 : World} {K0 : List Nat} {α : Type} (s : Sem α) : ∀ {h : Mem} {Q : α → Mem → Prop} {w : World}, swp P I s h Q → Inv w0 K0 I h w →
    ∃ a w' h', s.run P w = .ok a w' ∧ Q a h' ∧ Inv w0 K0 I h' w' := by
  induction s with
  | pure a => intro h Q w hs hi; exact ⟨a, w, h, rfl, hs, hi⟩
  | load m a k ih =>
    intro h Q w hs hi
    obtain ⟨v, hc, hs⟩ := hs
    obtain ⟨x, w', h', hr, hq, hi'⟩ := ih v hs hi
    exact ⟨x, w', h', by simp only [Sem.run, hi.cell hc]; exact hr, hq, hi'⟩
  | store m a v k ih =>
    intro h Q w hs hi
    obtain ⟨h1, h2, h3, i, cs, t, hb, hlt, hs⟩ := hs
    have hbw := hi.own _ _ (List.mem_of_getElem? hb)
    have hcell : w.cell? a = some (cs[a.off]'hlt) := by simp [World.cell?, hbw, h3, hlt]
    have hfz : w.frozen? a = false := by simp [World.frozen?, hbw]
    have hi2 : Inv w0 K0 I (h.set i (a.block, .cells (cs.setIfInBounds a.off v) t (0, 0))) (w.setCell a v) := by
      refine hi.set hb ⟨rfl, rfl, rfl, by simp [World.setCell]⟩ ?_ (fun k hk => Go.RowKit.Below.heap_setCell w a v k hk)
      simp [World.setCell, Array.getElem?_modify, hbw, h3]
    obtain ⟨x, w', h', hr, hq, hi'⟩ := ih hs hi2
    refine ⟨x, w', h', ?_, hq, hi'⟩
    cases v <;> first | exact absurd rfl (h1 _) | exact absurd rfl (h2 _) | (simp only [Sem.run, hcell, hfz]; exact hr)
  | new o k ih =>
    intro h Q w hs hi
    obtain ⟨hk, hI, hi2⟩ := hi.new o
    obtain ⟨x, w', h', hr, hq, hi'⟩ := ih _ (hs _ hk hI) hi2
    exact ⟨x, w', h', by simp only [Sem.run]; exact hr, hq, hi'⟩
  | shape r k ih =>
    intro h Q w hs hi
    obtain ⟨cs, e, fz, hb, hs⟩ := hs
    obtain ⟨x, w', h', hr, hq, hi'⟩ := ih _ hs hi
    exact ⟨x, w', h', by simp only [Sem.run, World.shape?, hi.has hb]; exact hr, hq, hi'⟩
  | freeze a n k ih =>
    intro h Q w hs hi
    rcases hs with ⟨rfl, hs⟩ | ⟨i, cs, t, fz, hb, hs⟩
    · obtain ⟨x, w', h', hr, hq, hi'⟩ := ih hs hi
      exact ⟨x, w', h', by simp only [Sem.run, World.freeze, if_true]; exact hr, hq, hi'⟩
    · have hbw := hi.own _ _ (List.mem_of_getElem? hb)
      have hi2 : Inv w0 K0 I (h.set i (a.block, .cells cs t (fzn fz a.off n))) (w.freeze a n) := by
        unfold fzn World.freeze
        by_cases hn : n = 0
        · simp only [if_pos hn]
          rw [show h.set i (a.block, .cells cs t fz) = h by
            apply List.ext_getElem?; intro j; rw [List.getElem?_set]; split
            · rename_i hij; subst hij; rw [hb]; split
              · rfl
              · have := (List.getElem?_eq_some_iff.1 hb).1; contradiction
            · rfl]
          exact hi
        · simp only [if_neg hn]
          refine hi.set hb ⟨rfl, rfl, rfl, by simp⟩ ?_ (fun k hk => ?_)
          · simp only [Array.getElem?_modify, if_true, hbw, Option.map_some]
          · simp only [Array.getElem?_modify]
            rw [if_neg (fun e => hk e.symm)]
      obtain ⟨x, w', h', hr, hq, hi'⟩ := ih hs hi2
      exact ⟨x, w', h', by simp only [Sem.run]; exact hr, hq, hi'⟩
  | frozen a k ih =>
    intro h Q w hs hi
    obtain ⟨cs, e, fz, hb, hs⟩ := hs
    obtain ⟨x, w', h', hr, hq, hi'⟩ := ih _ hs hi
    exact ⟨x, w', h', by simp only [Sem.run, World.frozen?, hi.has hb]; exact hr, hq, hi'⟩
  | getObj r k ih =>
    intro h Q w hs hi
    obtain ⟨o, hb, hn, hs⟩ := hs
    obtain ⟨x, w', h', hr, hq, hi'⟩ := ih _ hs hi
    refine ⟨x, w', h', ?_, hq, hi'⟩
    simp only [Sem.run, hi.has hb]
    cases o <;> first | exact absurd rfl (hn _ _ _) | exact hr
  | setObj r o k ih =>
    intro h Q w hs hi
    obtain ⟨i, o0, hb, hn, hs⟩ := hs
    have hbw := hi.own _ _ (List.mem_of_getElem? hb)
    have hlt := (Array.getElem?_eq_some_iff.1 hbw).1
    have hi2 : Inv w0 K0 I (h.set i (r, o)) { w with heap := w.heap.setIfInBounds r o } := by
      refine hi.set hb ⟨rfl, rfl, rfl, by simp⟩ (by simp [hlt]) (fun k hk => ?_)
      simp only
      exact Array.getElem?_setIfInBounds_ne (Ne.symm hk)
    obtain ⟨x, w', h', hr, hq, hi'⟩ := ih hs hi2
    refine ⟨x, w', h', ?_, hq, hi'⟩
    simp only [Sem.run, hbw]
    cases o0 <;> first | exact absurd rfl (hn _ _ _) | exact hr
  | choose q k ih =>
    intro h Q w hs hi
    cases hf : q.forced with
    | true =>
      obtain ⟨x, w', h', hr, hq, hi'⟩ := ih _ (hs.1 hf) hi
      exact ⟨x, w', h', by simp only [Sem.run, hf, if_true]; exact hr, hq, hi'⟩
    | false =>
      obtain ⟨x, w', h', hr, hq, hi'⟩ := ih _ (hs.2 hf (w.tape w.drawn q)) (hi.draw (w.drawn + 1))
      exact ⟨x, w', h', by simp only [Sem.run, hf]; exact hr, hq, hi'⟩
  | sys c k ih => intro h Q w hs hi; exact hs.elim
  | program k ih =>
    intro h Q w hs hi
    obtain ⟨x, w', h', hr, hq, hi'⟩ := ih _ hs hi
    exact ⟨x, w', h', by simp only [Sem.run]; exact hr, hq, hi'⟩
  | mark m k ih =>
    intro h Q w hs hi
    obtain ⟨x, w', h', hr, hq, hi'⟩ := ih hs hi
    exact ⟨x, w', h', by simp only [Sem.run]; exact hr, hq, hi'⟩
  | halt x => intro h Q w hs hi; exact hs.elim

theorem swp_mono {α : Type} (s : Sem α) : ∀ {h : Mem} {Q Q' : α → Mem → Prop}, swp P I s h Q → (∀ a h', Q a h' → Q' a h') → swp P I s h Q' := by
  induction s with
  | pure a => intro h Q Q' hs hq; exact hq _ _ hs
  | load m a k ih => intro h Q Q' hs hq; obtain ⟨v, hc, hs⟩ := hs; exact ⟨v, hc, ih v hs hq⟩
  | store m a v k ih => intro h Q Q' hs hq; obtain ⟨h1, h2, h3, i, cs, t, hb, hlt, hs⟩ := hs; exact ⟨h1, h2, h3, i, cs, t, hb, hlt, ih hs hq⟩
  | new o k ih => intro h Q Q' hs hq; exact fun g hg hI => ih g (hs g hg hI) hq
  | shape r k ih => intro h Q Q' hs hq; obtain ⟨cs, e, fz, hb, hs⟩ := hs; exact ⟨cs, e, fz, hb, ih _ hs hq⟩
  | freeze a n k ih =>
    intro h Q Q' hs hq
    rcases hs with ⟨hn, hs⟩ | ⟨i, cs, t, fz, hb, hs⟩
    · exact .inl ⟨hn, ih hs hq⟩
    · exact .inr ⟨i, cs, t, fz, hb, ih hs hq⟩
  | frozen a k ih => intro h Q Q' hs hq; obtain ⟨cs, e, fz, hb, hs⟩ := hs; exact ⟨cs, e, fz, hb, ih _ hs hq⟩
  | getObj r k ih => intro h Q Q' hs hq; obtain ⟨o, hb, hn, hs⟩ := hs; exact ⟨o, hb, hn, ih _ hs hq⟩
  | setObj r o k ih => intro h Q Q' hs hq; obtain ⟨i, o0, hb, hn, hs⟩ := hs; exact ⟨i, o0, hb, hn, ih hs hq⟩
  | choose q k ih => intro h Q Q' hs hq; exact ⟨fun hf => ih _ (hs.1 hf) hq, fun hf t => ih _ (hs.2 hf t) hq⟩
  | sys c k ih => intro h Q Q' hs hq; exact hs.elim
  | program k ih => intro h Q Q' hs hq; exact ih _ hs hq
  | mark m k ih => intro h Q Q' hs hq; exact ih hs hq
  | halt x => intro h Q Q' hs hq; exact hs.elim
theorem swp_bind {α β : Type} (s : Sem α) (f : α → Sem β) : ∀ (h : Mem) (Q : β → Mem → Prop), swp P I (s >>= f) h Q = swp P I s h (fun a h' => swp P I (f a) h' Q) := by
  show ∀ (h : Mem) (Q : β → Mem → Prop), swp P I (Sem.bind s f) h Q = _
  induction s with
  | pure a => intro h Q; rfl
  | load m a k ih => intro h Q; simp only [Sem.bind, swp, ih]
  | store m a v k ih => intro h Q; simp only [Sem.bind, swp, ih]
  | new o k ih => intro h Q; simp only [Sem.bind, swp, ih]
  | shape r k ih => intro h Q; simp only [Sem.bind, swp, ih]
  | freeze a n k ih => intro h Q; simp only [Sem.bind, swp, ih]
  | frozen a k ih => intro h Q; simp only [Sem.bind, swp, ih]
  | getObj r k ih => intro h Q; simp only [Sem.bind, swp, ih]
  | setObj r o k ih => intro h Q; simp only [Sem.bind, swp, ih]
  | choose q k ih => intro h Q; simp only [Sem.bind, swp, ih]
  | sys c k ih => intro h Q; rfl
  | program k ih => intro h Q; simp only [Sem.bind, swp, ih]
  | mark m k ih => intro h Q; simp only [Sem.bind, swp, ih]
  | halt x => intro h Q; rfl
@[simp] theorem swp_pure {α : Type} (a : α) (h : Mem) (Q : α → Mem → Prop) : swp P I (pure a) h Q = Q a h := rfl
@[simp] theorem swp_purec {α : Type} (a : α) (h : Mem) (Q : α → Mem → Prop) : swp P I (Sem.pure a) h Q = Q a h := rfl
@[simp] theorem swp_program (h : Mem) (Q : Program → Mem → Prop) : swp P I program h Q = Q P h := rfl
@[simp] theorem swp_load (a : Addr) (m : Mode) (h : Mem) (Q : Value → Mem → Prop) : swp P I (load a m) h Q = ∃ v, CellIs I h a v ∧ Q v h := rfl
@[simp] theorem swp_stuck {α : Type} (m : String) (h : Mem) (Q : α → Mem → Prop) : swp P I (stuck m) h Q = False := rfl
@[simp] theorem swp_newObj (o : Obj) (h : Mem) (Q : Nat → Mem → Prop) : swp P I (newObj o) h Q = ∀ g, g ∉ keys h → I g = none → Q g ((g, o) :: h) := rfl
theorem swp_store (a : Addr) (v : Value) (m : Mode) (h : Mem) (Q : Unit → Mem → Prop) : swp P I (store a v m) h Q = ((∀ x, v ≠ .agg x) ∧ (∀ x, v ≠ .tuple x) ∧ a.spot = none ∧
      ∃ i cs t, h[i]? = some (a.block, .cells cs t (0, 0)) ∧ a.off < cs.size ∧ Q () (h.set i (a.block, .cells (cs.setIfInBounds a.off v) t (0, 0)))) := rfl

/-- Behind a step there may be held, besides, what the step didn't see. -/
theorem swp_frame {α : Type} (g : Mem) (s : Sem α) : ∀ {h : Mem} {Q : α → Mem → Prop}, swp P I s h Q → swp P I s (h ++ g) (fun a h' => ∃ h1, h' = h1 ++ g ∧ Q a h1) := by
  have sub : ∀ (h : Mem) x, x ∈ h → x ∈ h ++ g := fun h x hx => List.mem_append_left _ hx
  have nth : ∀ {h : Mem} {i : Nat} {x : Nat × Obj}, h[i]? = some x → (h ++ g)[i]? = some x ∧ ∀ y, (h ++ g).set i y = h.set i y ++ g := by
    intro h i x hx
    have hlt := (List.getElem?_eq_some_iff.1 hx).1
    exact ⟨by rw [List.getElem?_append_left hlt]; exact hx, fun y => List.set_append_left _ _ hlt⟩
  induction s with
  | pure a => intro h Q hs; exact ⟨h, rfl, hs⟩
  | load m a k ih => intro h Q hs; obtain ⟨v, hc, hs⟩ := hs; exact ⟨v, hc.mono (sub h), ih v hs⟩
  | store m a v k ih =>
    intro h Q hs
    obtain ⟨h1, h2, h3, i, cs, t, hb, hlt, hs⟩ := hs
    refine ⟨h1, h2, h3, i, cs, t, (nth hb).1, hlt, ?_⟩
    rw [(nth hb).2]
    exact ih hs
  | new o k ih =>
    intro h Q hs x hx hI
    have := ih x (hs x (fun hm => hx (by rw [keys_append]; exact List.mem_append_left _ hm)) hI)
    exact this
  | shape r k ih => intro h Q hs; obtain ⟨cs, e, fz, hb, hs⟩ := hs; exact ⟨cs, e, fz, hb.mono (sub h), ih _ hs⟩
  | freeze a n k ih =>
    intro h Q hs
    rcases hs with ⟨hn, hs⟩ | ⟨i, cs, t, fz, hb, hs⟩
    · exact .inl ⟨hn, ih hs⟩
    · refine .inr ⟨i, cs, t, fz, (nth hb).1, ?_⟩
      rw [(nth hb).2]
      exact ih hs
  | frozen a k ih => intro h Q hs; obtain ⟨cs, e, fz, hb, hs⟩ := hs; exact ⟨cs, e, fz, hb.mono (sub h), ih _ hs⟩
  | getObj r k ih => intro h Q hs; obtain ⟨o, hb, hn, hs⟩ := hs; exact ⟨o, hb.mono (sub h), hn, ih _ hs⟩
  | setObj r o k ih =>
    intro h Q hs
    obtain ⟨i, o0, hb, hn, hs⟩ := hs
    refine ⟨i, o0, (nth hb).1, hn, ?_⟩
    rw [(nth hb).2]
    exact ih hs
  | choose q k ih => intro h Q hs; exact ⟨fun hf => ih _ (hs.1 hf), fun hf t => ih _ (hs.2 hf t)⟩
  | sys c k ih => intro h Q hs; exact hs.elim
  | program k ih => intro h Q hs; exact ih _ hs
  | mark m k ih => intro h Q hs; exact ih hs
  | halt x => intro h Q hs; exact hs.elim

theorem set_perm {α : Type} {h : List α} {i : Nat} {x : α} (hi : h[i]? = some x) (y : α) : (h.set i y).Perm (y :: h.eraseIdx i) ∧ h.Perm (x :: h.eraseIdx i) := by
  induction h generalizing i with
  | nil => simp at hi
  | cons z h ih =>
    cases i with
    | zero => simp at hi; subst hi; simp
    | succ i =>
      simp only [List.getElem?_cons_succ] at hi
      obtain ⟨h1, h2⟩ := ih hi
      simp only [List.set_cons_succ, List.eraseIdx_cons_succ]
      exact ⟨((h1.cons z).trans (List.Perm.swap _ _ _)), ((h2.cons z).trans (List.Perm.swap _ _ _))⟩
theorem perm_set {h g : Mem} (p : h.Perm g) {i : Nat} {x : Nat × Obj} (hi : h[i]? = some x) : ∃ j, g[j]? = some x ∧ ∀ y, (h.set i y).Perm (g.set j y) := by
  obtain ⟨j, hj⟩ := List.getElem?_of_mem (p.mem_iff.1 (List.mem_of_getElem? hi))
  refine ⟨j, hj, fun y => ?_⟩
  have h1 := set_perm hi y
  have h2 := set_perm hj y
  have h3 : (h.eraseIdx i).Perm (g.eraseIdx j) := List.Perm.cons_inv ((h1.2.symm.trans p).trans h2.2)
  exact (h1.1.trans (h3.cons y)).trans h2.1.symm
/-- The order in which the blocks are listed plays no part. -/
theorem swp_perm {α : Type} (s : Sem α) : ∀ {h g : Mem} {Q : α → Mem → Prop}, h.Perm g → swp P I s h Q → swp P I s g (fun a g' => ∃ h', h'.Perm g' ∧ Q a h') := by
  have sub : ∀ {h g : Mem}, h.Perm g → ∀ x, x ∈ h → x ∈ g := fun p x hx => p.mem_iff.1 hx
  induction s with
  | pure a => intro h g Q p hs; exact ⟨h, p, hs⟩
  | load m a k ih => intro h g Q p hs; obtain ⟨v, hc, hs⟩ := hs; exact ⟨v, hc.mono (sub p), ih v p hs⟩
  | store m a v k ih =>
    intro h g Q p hs
    obtain ⟨h1, h2, h3, i, cs, t, hb, hlt, hs⟩ := hs
    obtain ⟨j, hj, hp⟩ := perm_set p hb
    exact ⟨h1, h2, h3, j, cs, t, hj, hlt, ih (hp _) hs⟩
  | new o k ih =>
    intro h g Q p hs x hx hI
    exact ih x (p.cons _) (hs x (fun hm => hx ((keys_perm p).mem_iff.1 hm)) hI)
  | shape r k ih => intro h g Q p hs; obtain ⟨cs, e, fz, hb, hs⟩ := hs; exact ⟨cs, e, fz, hb.mono (sub p), ih _ p hs⟩
  | freeze a n k ih =>
    intro h g Q p hs
    rcases hs with ⟨hn, hs⟩ | ⟨i, cs, t, fz, hb, hs⟩
    · exact .inl ⟨hn, ih p hs⟩
    · obtain ⟨j, hj, hp⟩ := perm_set p hb
      exact .inr ⟨j, cs, t, fz, hj, ih (hp _) hs⟩
  | frozen a k ih => intro h g Q p hs; obtain ⟨cs, e, fz, hb, hs⟩ := hs; exact ⟨cs, e, fz, hb.mono (sub p), ih _ p hs⟩
  | getObj r k ih => intro h g Q p hs; obtain ⟨o, hb, hn, hs⟩ := hs; exact ⟨o, hb.mono (sub p), hn, ih _ p hs⟩
  | setObj r o k ih =>
    intro h g Q p hs
    obtain ⟨i, o0, hb, hn, hs⟩ := hs
    obtain ⟨j, hj, hp⟩ := perm_set p hb
    exact ⟨j, o0, hj, hn, ih (hp _) hs⟩
  | choose q k ih => intro h g Q p hs; exact ⟨fun hf => ih _ p (hs.1 hf), fun hf t => ih _ p (hs.2 hf t)⟩
  | sys c k ih => intro h g Q p hs; exact hs.elim
  | program k ih => intro h g Q p hs; exact ih _ p hs
  | mark m k ih => intro h g Q p hs; exact ih p hs
  | halt x => intro h g Q p hs; exact hs.elim

/-- A step that only reads. -/
def rwp {α : Type} (P : Program) (I : Ctx) (h : Mem) : Sem α → (α → Prop) → Prop
  | .pure a, Q => Q a
  | .load _ a k, Q => ∃ v, CellIs I h a v ∧ rwp P I h (k v) Q
  | .shape r k, Q => ∃ cs e fz, Has I h r (.cells cs e fz) ∧ rwp P I h (k (some (e, cs.size))) Q
  | .frozen a k, Q => ∃ cs e fz, Has I h a.block (.cells cs e fz) ∧ rwp P I h (k (fz.1 ≤ a.off && a.off < fz.2)) Q
  | .getObj r k, Q => ∃ o, Has I h r o ∧ (∀ c e f, o ≠ .cells c e f) ∧ rwp P I h (k o) Q
  | .program k, Q => rwp P I h (k P) Q
  | .mark _ k, Q => rwp P I h k Q
  | _, _ => False
theorem rwp_run {w0 w : World} {K0 : List Nat} {α : Type} {h : Mem} (hi : Inv w0 K0 I h w) (s : Sem α) : ∀ {Q : α → Prop}, rwp P I h s Q → ∃ a, s.run P w = .ok a w ∧ Q a := by
  induction s with
  | pure a => intro Q hs; exact ⟨a, rfl, hs⟩
  | load m a k ih => intro Q hs; obtain ⟨v, hc, hs⟩ := hs; obtain ⟨x, hr, hq⟩ := ih v hs; exact ⟨x, by simp only [Sem.run, hi.cell hc]; exact hr, hq⟩
  | shape r k ih => intro Q hs; obtain ⟨cs, e, fz, hb, hs⟩ := hs; obtain ⟨x, hr, hq⟩ := ih _ hs; exact ⟨x, by simp only [Sem.run, World.shape?, hi.has hb]; exact hr, hq⟩
  | frozen a k ih => intro Q hs; obtain ⟨cs, e, fz, hb, hs⟩ := hs; obtain ⟨x, hr, hq⟩ := ih _ hs; exact ⟨x, by simp only [Sem.run, World.frozen?, hi.has hb]; exact hr, hq⟩
  | getObj r k ih =>
    intro Q hs; obtain ⟨o, hb, hn, hs⟩ := hs; obtain ⟨x, hr, hq⟩ := ih _ hs
    refine ⟨x, ?_, hq⟩
    simp only [Sem.run, hi.has hb]
    cases o <;> first | exact absurd rfl (hn _ _ _) | exact hr
  | program k ih => intro Q hs; obtain ⟨x, hr, hq⟩ := ih _ hs; exact ⟨x, by simp only [Sem.run]; exact hr, hq⟩
  | mark m k ih => intro Q hs; obtain ⟨x, hr, hq⟩ := ih hs; exact ⟨x, by simp only [Sem.run]; exact hr, hq⟩
  | _ => intro Q hs; exact hs.elim
theorem rwp_mono {α : Type} {h : Mem} (s : Sem α) : ∀ {Q Q' : α → Prop}, rwp P I h s Q → (∀ a, Q a → Q' a) → rwp P I h s Q' := by
  induction s with
  | pure a => intro Q Q' hs hq; exact hq _ hs
  | load m a k ih => intro Q Q' hs hq; obtain ⟨v, hc, hs⟩ := hs; exact ⟨v, hc, ih v hs hq⟩
  | shape r k ih => intro Q Q' hs hq; obtain ⟨cs, e, fz, hb, hs⟩ := hs; exact ⟨cs, e, fz, hb, ih _ hs hq⟩
  | frozen a k ih => intro Q Q' hs hq; obtain ⟨cs, e, fz, hb, hs⟩ := hs; exact ⟨cs, e, fz, hb, ih _ hs hq⟩
  | getObj r k ih => intro Q Q' hs hq; obtain ⟨o, hb, hn, hs⟩ := hs; exact ⟨o, hb, hn, ih _ hs hq⟩
  | program k ih => intro Q Q' hs hq; exact ih _ hs hq
  | mark m k ih => intro Q Q' hs hq; exact ih hs hq
  | _ => intro Q Q' hs hq; exact hs.elim
theorem rwp_bind {α β : Type} {h : Mem} (s : Sem α) (f : α → Sem β) : ∀ (Q : β → Prop), rwp P I h (s >>= f) Q = rwp P I h s (fun a => rwp P I h (f a) Q) := by
  show ∀ (Q : β → Prop), rwp P I h (Sem.bind s f) Q = _
  induction s with
  | load m a k ih => intro Q; simp only [Sem.bind, rwp, ih]
  | shape r k ih => intro Q; simp only [Sem.bind, rwp, ih]
  | frozen a k ih => intro Q; simp only [Sem.bind, rwp, ih]
  | getObj r k ih => intro Q; simp only [Sem.bind, rwp, ih]
  | program k ih => intro Q; simp only [Sem.bind, rwp, ih]
  | mark m k ih => intro Q; simp only [Sem.bind, rwp, ih]
  | _ => intro Q; rfl
@[simp] theorem rwp_pure {α : Type} {h : Mem} (a : α) (Q : α → Prop) : rwp P I h (pure a) Q = Q a := rfl
@[simp] theorem rwp_purec {α : Type} {h : Mem} (a : α) (Q : α → Prop) : rwp P I h (Sem.pure a) Q = Q a := rfl
@[simp] theorem rwp_program {h : Mem} (Q : Program → Prop) : rwp P I h program Q = Q P := rfl
@[simp] theorem rwp_load {h : Mem} (a : Addr) (m : Mode) (Q : Value → Prop) : rwp P I h (load a m) Q = ∃ v, CellIs I h a v ∧ Q v := rfl
@[simp] theorem rwp_stuck {α : Type} {h : Mem} (m : String) (Q : α → Prop) : rwp P I h (stuck m) Q = False := rfl
theorem rwp_sub {α : Type} {h g : Mem} (hs : ∀ x ∈ h, x ∈ g) (s : Sem α) : ∀ {Q : α → Prop}, rwp P I h s Q → rwp P I g s Q := by
  induction s with
  | pure a => intro Q h; exact h
  | load m a k ih => intro Q h; obtain ⟨v, hc, h⟩ := h; exact ⟨v, hc.mono hs, ih v h⟩
  | shape r k ih => intro Q h; obtain ⟨cs, e, fz, hb, h⟩ := h; exact ⟨cs, e, fz, hb.mono hs, ih _ h⟩
  | frozen a k ih => intro Q h; obtain ⟨cs, e, fz, hb, h⟩ := h; exact ⟨cs, e, fz, hb.mono hs, ih _ h⟩
  | getObj r k ih => intro Q h; obtain ⟨o, hb, hn, h⟩ := h; exact ⟨o, hb.mono hs, hn, ih _ h⟩
  | program k ih => intro Q h; exact ih _ h
  | mark m k ih => intro Q h; exact ih h
  | _ => intro Q h; exact h.elim
theorem swp_of_rwp {α : Type} {h : Mem} (s : Sem α) : ∀ {Q : α → Mem → Prop}, rwp P I h s (fun a => Q a h) → swp P I s h Q := by
  induction s with
  | pure a => intro Q hs; exact hs
  | load m a k ih => intro Q hs; obtain ⟨v, hc, hs⟩ := hs; exact ⟨v, hc, ih v hs⟩
  | shape r k ih => intro Q hs; obtain ⟨cs, e, fz, hb, hs⟩ := hs; exact ⟨cs, e, fz, hb, ih _ hs⟩
  | frozen a k ih => intro Q hs; obtain ⟨cs, e, fz, hb, hs⟩ := hs; exact ⟨cs, e, fz, hb, ih _ hs⟩
  | getObj r k ih => intro Q hs; obtain ⟨o, hb, hn, hs⟩ := hs; exact ⟨o, hb, hn, ih _ hs⟩
  | program k ih => intro Q hs; exact ih _ hs
  | mark m k ih => intro Q hs; exact ih hs
  | _ => intro Q hs; exact hs.elim

/-- What a step yields that asks the program alone. -/
def still {α : Type} (P : Program) : Sem α → Option α
  | .pure a => some a
  | .program k => still P (k P)
  | _ => none
theorem rwp_of_still {α : Type} {h : Mem} {a : α} (s : Sem α) : still P s = some a → ∀ {Q : α → Prop}, Q a → rwp P I h s Q := by
  induction s with
  | pure b => intro hs Q hq; simp only [still, Option.some.injEq] at hs; subst hs; exact hq
  | program k ih => intro hs Q hq; exact ih _ hs hq
  | _ => intro hs; simp [still] at hs
end
end Go.Proofs.YtcafalcmfdnojaaDoorS
