/- What data that come in hold, told of the context. -/
import Derived.Test.YtcafalcmfdnojaaDoorSQ
import Derived.WideShapes
import Derived.ChangeAt
import Derived.ChangeSame
import Derived.Carry
import Derived.DataElems
import Derived.SizedLaws
import Derived.ChangeSlices
set_option linter.unusedVariables false
namespace Go.Proofs.YtcafalcmfdnojaaDoorS
open Go Go.RowKit Go.ChangeShapes Go.WideShapes
/-- Bytes that are read. -/
structure RdB (I : Ctx) (A : Option Addr) (n : Nat) (l : List UInt8) : Prop where
  len : l.length = n
  nil : A = none → n = 0
  rd : RdC I [] A (bC l)
theorem RdB.up {I J : Ctx} {A : Option Addr} {n : Nat} {l : List UInt8} (h : RdB I A n l) (hs : ∀ b o, I b = some o → J b = some o) : RdB J A n l := ⟨h.len, h.nil, h.rd.up hs⟩
/-- What is at hand is so, however it is split. -/
theorem plus_split {I : Ctx} {h hc hr : Mem} (hl : Live I h) (hp : h.Perm (hc ++ hr)) {b : Nat} {o : Obj} (hb : plus I h b = some o) : plus (plus I hr) hc b = some o := by
  have hn := (keys_perm hp).nodup_iff.1 hl.nd
  rw [keys_append] at hn
  obtain ⟨n1, n2, n3⟩ := List.nodup_append.1 hn
  rcases sub_plus (I := I) (g := h) (h := h) (fun x hx => hx) b o hb with hm | hI
  · rcases List.mem_append.1 (hp.mem_iff.1 hm) with h1 | h1
    · exact plus_mem n1 h1
    · rw [plus_of (fun hk => n3 _ hk _ (mem_keys h1) rfl)]
      exact plus_mem n2 h1
  · have h1 : b ∉ keys h := hl.ctx hI
    rw [plus_of (fun hk => h1 ((keys_perm hp).mem_iff.2 (by rw [keys_append]; exact List.mem_append_left _ hk))), plus_of (fun hk => h1 ((keys_perm hp).mem_iff.2 (by rw [keys_append]; exact List.mem_append_right _ hk)))]
    exact hI
/-- A world's context. -/
abbrev wC (w : World) : Ctx := fun b => w.heap[b]?
theorem cell_wC {w : World} {a : Addr} {v : Value} (h : w.cell? a = some v) : CellIs (wC w) [] a v := by
  unfold World.cell? at h
  split at h
  · rename_i c t f hb
    split at h
    · cases h
    · rename_i hs
      refine ⟨by cases hx : a.spot with | none => rfl | some y => rw [hx] at hs; simp at hs, c, t, f, .inr hb, h⟩
  · cases h
/-- Cells that read as data of type t are an element. -/
def Rd {α : Type} (P : Program) (t : TypeId) (el : Ctx → α → List Value → Prop) : Prop :=
  ∀ (H : Type) (enc : TypeId × Value → H) (w : World) (base : Nat) (spare : Nat → Bool) (held : Bool) (fuel : Nat) (cs : List Value) (y : DataW H × List MemPlace),
    DataW.trod enc P w base spare held fuel t cs = some y → ∃ x, el (wC w) x cs
section
variable {P : Program} {α β : Type}
theorem Rd.map {t : TypeId} {el : Ctx → α → List Value → Prop} {el' : Ctx → β → List Value → Prop} (h : Rd P t el) (hm : ∀ J x cs, el J x cs → ∃ y, el' J y cs) : Rd P t el' :=
  fun H enc w base spare held fuel cs y hy => let ⟨x, hx⟩ := h H enc w base spare held fuel cs y hy; hm _ x cs hx
abbrev elI (k : IntKind) (_ : Ctx) (x : Int) (cs : List Value) : Prop := cs = [.int k x] ∧ (Lit.int k x).wf = true
abbrev elBo (_ : Ctx) (x : Bool) (cs : List Value) : Prop := cs = [.bool x]
abbrev elStr (_ : Ctx) (x : ByteArray) (cs : List Value) : Prop := cs = [.string x] ∧ x.size ≤ maxLen
theorem Rd_int {t : TypeId} {k : IntKind} (ht : P.underlying t = some (.int k)) : Rd P t (elI k) := by
  intro H enc w base spare held fuel cs y hy
  cases fuel with
  | zero => simp [DataW.trod] at hy
  | succ fuel =>
    unfold DataW.trod at hy
    rw [ht] at hy
    match cs, hy with
    | [.int k' n], hy =>
      simp only at hy
      split at hy
      · rename_i h
        obtain ⟨rfl, hw⟩ := h
        exact ⟨n, rfl, hw⟩
      · cases hy
theorem Rd_bool {t : TypeId} (ht : P.underlying t = some .bool) : Rd P t elBo := by
  intro H enc w base spare held fuel cs y hy
  cases fuel with
  | zero => simp [DataW.trod] at hy
  | succ fuel =>
    unfold DataW.trod at hy
    rw [ht] at hy
    match cs, hy with
    | [.bool b], _ => exact ⟨b, rfl⟩
theorem Rd_string {t : TypeId} (ht : P.underlying t = some .string) : Rd P t elStr := by
  intro H enc w base spare held fuel cs y hy
  cases fuel with
  | zero => simp [DataW.trod] at hy
  | succ fuel =>
    unfold DataW.trod at hy
    rw [ht] at hy
    match cs, hy with
    | [.string s], hy =>
      simp only at hy
      split at hy
      · rename_i h
        exact ⟨s, rfl, h⟩
      · cases hy
/-- The fields of a list, from a place on. -/
def RdF (P : Program) (fs : List Field) (off sz : Nat) (el : Ctx → α → List Value → Prop) : Prop :=
  ∀ (H : Type) (enc : TypeId × Value → H) (w : World) (base : Nat) (spare : Nat → Bool) (held : Bool) (fuel : Nat) (cs : List Value),
    (∀ f ∈ fs, ∃ y, DataW.trod enc P w base spare held fuel f.type ((cs.drop f.offset).take (P.cellsOf f.type)) = some y) → ∃ x, el (wC w) x ((cs.drop off).take sz)
theorem RdF_one {f : Field} {off sz : Nat} {el : Ctx → α → List Value → Prop} (h : Rd P f.type el) (ho : f.offset = off) (hc : P.cellsOf f.type = sz) : RdF P [f] off sz el := by
  intro H enc w base spare held fuel cs hf
  obtain ⟨y, hy⟩ := hf f (List.mem_singleton.2 rfl)
  rw [ho, hc] at hy
  exact h H enc w base spare held fuel _ y hy
abbrev elP (el : Ctx → α → List Value → Prop) (el' : Ctx → β → List Value → Prop) (J : Ctx) (x : α × β) (cs : List Value) : Prop := ∃ c d, cs = c ++ d ∧ el J x.1 c ∧ el' J x.2 d
theorem RdF_cons {f : Field} {fs : List Field} {off sz sz' : Nat} {el : Ctx → α → List Value → Prop} {el' : Ctx → β → List Value → Prop} (h : Rd P f.type el) (ho : f.offset = off) (hc : P.cellsOf f.type = sz)
    (h' : RdF P fs (off + sz) sz' el') : RdF P (f :: fs) off (sz + sz') (elP el el') := by
  intro H enc w base spare held fuel cs hf
  obtain ⟨x, hx⟩ := RdF_one h ho hc H enc w base spare held fuel cs (fun g hg => hf g (by rw [List.mem_singleton] at hg; rw [hg]; exact List.mem_cons_self))
  obtain ⟨z, hz⟩ := h' H enc w base spare held fuel cs (fun g hg => hf g (List.mem_cons_of_mem _ hg))
  refine ⟨(x, z), _, _, ?_, hx, hz⟩
  rw [List.take_add, List.drop_drop]
theorem mapM_each {α β : Type} {g : α → Option β} : ∀ {l : List α} {r : List β}, l.mapM g = some r → ∀ f ∈ l, ∃ y, g f = some y
  | [], _, _ => fun f hf => by cases hf
  | a :: l, r, h => fun f hf => by
    rw [List.mapM_cons] at h
    simp only [Option.bind_eq_bind, Option.bind_eq_some_iff, Option.pure_def] at h
    obtain ⟨x, hx, ys, hys, _⟩ := h
    rcases List.mem_cons.1 hf with rfl | hf
    · exact ⟨x, hx⟩
    · exact mapM_each hys f hf
theorem Rd_struct {t : TypeId} {fs : Array Field} {sz : Nat} {el : Ctx → α → List Value → Prop} (ht : P.underlying t = some (.struct fs)) (hc : P.cellsOf t = sz) (h : RdF P fs.toList 0 sz el) : Rd P t el := by
  intro H enc w base spare held fuel cs y hy
  cases fuel with
  | zero => simp [DataW.trod] at hy
  | succ fuel =>
    unfold DataW.trod at hy
    rw [ht] at hy
    simp only at hy
    split at hy
    · rename_i hl
      cases hm : fs.toList.mapM (fun f => DataW.trod enc P w base spare held fuel f.type ((cs.drop f.offset).take (P.cellsOf f.type))) with
      | none => rw [hm] at hy; cases hy
      | some xs =>
        obtain ⟨x, hx⟩ := h H enc w base spare held fuel cs (mapM_each hm)
        rw [List.drop_zero, List.take_of_length_le (by omega)] at hx
        exact ⟨x, hx⟩
    · cases hy
theorem cells_each {w : World} {base : Nat} {a : Addr} {n : Nat} {cs : List Value} (h : w.cells? base a n = some cs) : cs.length = n ∧ ∀ i u, cs[i]? = some u → w.cell? (a.add i) = some u := by
  unfold World.cells? at h
  split at h
  · have key : ∀ (l : List Nat) (r : List Value), l.mapM (fun i => w.cell? (a.add i)) = some r → r.length = l.length ∧ ∀ (i : Nat) (u : Value), r[i]? = some u → ∃ j, l[i]? = some j ∧ w.cell? (a.add j) = some u := by
      intro l
      induction l with
      | nil => intro r hr; simp at hr; subst hr; simp
      | cons b l ih =>
        intro r hr
        rw [List.mapM_cons] at hr
        simp only [Option.bind_eq_bind, Option.bind_eq_some_iff, Option.pure_def, Option.some.injEq] at hr
        obtain ⟨x, hx, ys, hys, rfl⟩ := hr
        obtain ⟨h1, h2⟩ := ih ys hys
        refine ⟨by simp [h1], ?_⟩
        intro i u hi
        cases i with
        | zero => simp at hi; subst hi; exact ⟨b, rfl, hx⟩
        | succ i => simp at hi; obtain ⟨j, hj, hu⟩ := h2 i u hi; exact ⟨j, by simpa using hj, hu⟩
    obtain ⟨h1, h2⟩ := key _ _ h
    refine ⟨by simpa using h1, ?_⟩
    intro i u hi
    obtain ⟨j, hj, hu⟩ := h2 i u hi
    rw [List.getElem?_range] at hj
    · injection hj with hj; subst hj; exact hu
    · obtain ⟨hl, _⟩ := List.getElem?_eq_some_iff.1 hi; rw [h1] at hl; simpa using hl
  · cases h
/-- A slice that is read: its elements. -/
abbrev elSl (el : Ctx → α → List Value → Prop) (J : Ctx) (l : List α) (cs : List Value) : Prop :=
  ∃ A c cs', cs = [.slice A l.length c] ∧ RdC J [] A cs' ∧ rowC (el J) l cs' ∧ (A = none → l.length = 0) ∧ l.length ≤ c ∧ c ≤ maxLen
theorem Rd_slice {t e : TypeId} {sz : Nat} {el : Ctx → α → List Value → Prop} (ht : P.underlying t = some (.slice e)) (hc : P.cellsOf e = sz) (hlen : ∀ J x c, el J x c → c.length = sz) (h : Rd P e el) : Rd P t (elSl el) := by
  intro H enc w base spare held fuel cs y hy
  cases fuel with
  | zero => simp [DataW.trod] at hy
  | succ fuel =>
    unfold DataW.trod at hy
    rw [ht] at hy
    match cs, hy with
    | [.slice none 0 0], _ => exact ⟨[], none, 0, [], rfl, RdC.nil _, rfl, fun _ => rfl, Nat.le_refl _, by unfold maxLen; omega⟩
    | [.slice (some a) len cap], hy =>
      simp only at hy
      split at hy
      · rename_i hb
        obtain ⟨hb1, hb2, hb3⟩ := hb
        obtain ⟨elems, hm, _⟩ := Option.bind_eq_some_iff.1 hy
        have hsome := mapM_each hm
        have each : ∀ i, i < len → ∃ x c, el (wC w) x c ∧ ∀ j u, c[j]? = some u → w.cell? (a.add (i * sz + j)) = some u := by
          intro i hi
          obtain ⟨z, hz⟩ := hsome i (List.mem_range.2 hi)
          obtain ⟨c, hcs, hr⟩ := Option.bind_eq_some_iff.1 hz
          obtain ⟨hl, hcell⟩ := cells_each hcs
          obtain ⟨x, hx⟩ := h H enc w base spare held fuel c z hr
          refine ⟨x, c, hx, ?_⟩
          intro j u hj
          have := hcell j u hj
          rw [hc] at this
          have e2 : (a.add (i * sz)).add j = a.add (i * sz + j) := Addr.add_add _ _ _
          rw [e2] at this
          exact this
        have all : ∀ n, n ≤ len → ∃ (l : List α) (cs' : List Value), l.length = n ∧ rowC (el (wC w)) l cs' ∧ ∀ i u, cs'[i]? = some u → w.cell? (a.add i) = some u := by
          intro n
          induction n with
          | zero => intro _; exact ⟨[], [], rfl, rfl, by simp⟩
          | succ n ih =>
            intro hn
            obtain ⟨l, cs', hl, hrow, hcl⟩ := ih (by omega)
            obtain ⟨x, c, h1, h2⟩ := each n (by omega)
            have hlen' := hrow.len (hlen _)
            refine ⟨l ++ [x], cs' ++ c, by simp [hl], hrow.snoc h1, ?_⟩
            intro i u hi
            by_cases hlt : i < cs'.length
            · rw [List.getElem?_append_left hlt] at hi
              exact hcl i u hi
            · rw [List.getElem?_append_right (by omega)] at hi
              have := h2 _ u hi
              rw [hl] at hlen'
              rw [show n * sz + (i - cs'.length) = i by omega] at this
              exact this
        obtain ⟨l, cs', hl, hrow, hcl⟩ := all len (Nat.le_refl _)
        refine ⟨l, some a, cap, cs', by rw [hl], fun _ => ⟨a, rfl, fun i u hi => cell_wC (hcl i u hi)⟩, hrow, fun h => (by cases h), by omega, by omega⟩
      · cases hy
theorem sl_form {el : Ctx → α → List Value → Prop} {J : Ctx} {v : Value} {l : List α} (s : ∃ a n c, v = .slice a n c) (h : elSl el J l v.cells.toList) : ∃ A c cs', v = .slice A l.length c ∧ RdC J [] A cs' ∧ rowC (el J) l cs' := by
  obtain ⟨a, n, c, rfl⟩ := s
  obtain ⟨A, c', cs', e, hr, hrow, -⟩ := h
  simp [Value.cells] at e
  obtain ⟨rfl, rfl, rfl⟩ := e
  exact ⟨a, c, cs', rfl, hr, hrow⟩
/-- Bytes that come in. -/
abbrev elBy (J : Ctx) (l : List UInt8) (cs : List Value) : Prop := ∃ A c, cs = [.slice A l.length c] ∧ RdB J A l.length l ∧ l.length ≤ c ∧ c ≤ maxLen
theorem Rd_bytes {t e : TypeId} (ht : P.underlying t = some (.slice e)) (he : P.underlying e = some (.int .u8)) (hc : P.cellsOf e = 1) : Rd P t elBy := by
  refine (Rd_slice ht hc (fun J x c (h : elI .u8 J x c) => by rw [h.1]; rfl) (Rd_int he)).map ?_
  rintro J l cs ⟨A, c, cs', rfl, hr, hrow, hA, h1, h2⟩
  have key : ∀ (l : List Int) (cs' : List Value), rowC (elI .u8 J) l cs' → ∃ m : List UInt8, m.length = l.length ∧ cs' = bC m := by
    intro l
    induction l with
    | nil => intro cs' h; exact ⟨[], rfl, h⟩
    | cons x l ih =>
      rintro cs' ⟨c, r, rfl, ⟨rfl, hw⟩, h2⟩
      obtain ⟨m, hm, rfl⟩ := ih r h2
      refine ⟨UInt8.ofNat x.toNat :: m, by simp [hm], ?_⟩
      have hx : 0 ≤ x ∧ x ≤ 255 := by
        simp only [Lit.wf, IntKind.min, IntKind.max, IntKind.signed, IntKind.bits] at hw
        simp at hw
        omega
      have : ((UInt8.ofNat x.toNat).toNat : Int) = x := by
        simp [UInt8.toNat_ofNat]
        omega
      show [Value.int .u8 x] ++ bC m = Value.int .u8 ((UInt8.ofNat x.toNat).toNat : Int) :: bC m
      rw [this]
      rfl
  obtain ⟨m, hm, rfl⟩ := key l cs' hrow
  exact ⟨m, A, c, by rw [hm], ⟨by rw [hm], by rw [hm]; exact hA, hr⟩, by rw [hm]; exact h1, h2⟩
end
end Go.Proofs.YtcafalcmfdnojaaDoorS
