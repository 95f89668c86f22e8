/-
How data that come in read in the print's words: numbers, bools, strings, structs, slices of these.
-/
import Derived.Test.YtahllmihgpaaeaaWWords
import Derived.WideShapes
import Derived.ChangeAt
import Derived.ChangeSame
import Derived.Carry
import Derived.DataElems
namespace Go.Proofs.YtahllmihgpaaeaaW.Rds
open Go Go.RowKit Go.Proofs.YtahllmihgpaaeaaW.PrintWords

/-- Cells that read as data of type t hold a value of the kind, and it is a good one. -/
def Rds {α : Type} (P : Program) (kd : Kd α) (t : TypeId) (good : α → Prop) : Prop :=
  ∀ (H : Type) (enc : TypeId × Value → H) (w : World) (base : Nat) (spare : Nat → Bool) (held : Bool) (fuel : Nat) (cs : List Value) (y : DataW H × List MemPlace),
    DataW.trod enc P w base spare held fuel t cs = some y → ∃ x, kd.K w x cs ∧ good x

theorem Rds.mono {α : Type} {P : Program} {kd : Kd α} {t : TypeId} {good good' : α → Prop} (h : Rds P kd t good) (hg : ∀ x, good x → good' x) : Rds P kd t good' :=
  fun H enc w base spare held fuel cs y hy => let ⟨x, hx, g⟩ := h H enc w base spare held fuel cs y hy; ⟨x, hx, hg x g⟩

theorem Rds_int {P : Program} {t : TypeId} {k : IntKind} (ht : P.underlying t = some (.int k)) : Rds P (Kd.int k) t (fun x => (Lit.int k x).wf = true) := by
  intro H enc w base spare held fuel cs y hy
  cases fuel with
  | zero => simp [DataW.trod] at hy
  | succ fuel =>
    unfold DataW.trod at hy
    rw [ht] at hy
    match cs, hy with
    | [.int k' n], hy =>
      simp only at hy
      split at hy
      · rename_i h
        obtain ⟨rfl, hw⟩ := h
        exact ⟨n, rfl, hw⟩
      · cases hy

theorem Rds_bool {P : Program} {t : TypeId} (ht : P.underlying t = some .bool) : Rds P Kd.bool t (fun _ => True) := by
  intro H enc w base spare held fuel cs y hy
  cases fuel with
  | zero => simp [DataW.trod] at hy
  | succ fuel =>
    unfold DataW.trod at hy
    rw [ht] at hy
    match cs, hy with
    | [.bool b], _ => exact ⟨b, rfl, trivial⟩

theorem Rds_string {P : Program} {t : TypeId} (ht : P.underlying t = some .string) : Rds P Kd.string t (fun s => s.size ≤ maxLen) := by
  intro H enc w base spare held fuel cs y hy
  cases fuel with
  | zero => simp [DataW.trod] at hy
  | succ fuel =>
    unfold DataW.trod at hy
    rw [ht] at hy
    match cs, hy with
    | [.string s], hy =>
      simp only at hy
      split at hy
      · rename_i h
        exact ⟨s, rfl, h⟩
      · cases hy

/-- The fields of a list, from a place on. -/
def RdsF {α : Type} (P : Program) (kd : Kd α) (fs : List Field) (off : Nat) (good : α → Prop) : Prop :=
  ∀ (H : Type) (enc : TypeId × Value → H) (w : World) (base : Nat) (spare : Nat → Bool) (held : Bool) (fuel : Nat) (cs : List Value),
    (∀ f ∈ fs, ∃ y, DataW.trod enc P w base spare held fuel f.type ((cs.drop f.offset).take (P.cellsOf f.type)) = some y) → ∃ x, kd.K w x ((cs.drop off).take kd.sz) ∧ good x

theorem RdsF_one {α : Type} {P : Program} {kd : Kd α} {f : Field} {off : Nat} {good : α → Prop} (h : Rds P kd f.type good) (ho : f.offset = off) (hc : P.cellsOf f.type = kd.sz) : RdsF P kd [f] off good := by
  intro H enc w base spare held fuel cs hf
  obtain ⟨y, hy⟩ := hf f (List.mem_singleton.2 rfl)
  rw [ho, hc] at hy
  exact h H enc w base spare held fuel _ y hy

theorem RdsF_cons {α β : Type} {P : Program} {kd : Kd α} {ke : Kd β} {f : Field} {fs : List Field} {off : Nat} {good : α → Prop} {good' : β → Prop} (h : Rds P kd f.type good) (ho : f.offset = off) (hc : P.cellsOf f.type = kd.sz)
    (h' : RdsF P ke fs (off + kd.sz) good') : RdsF P (Kd.pair kd ke) (f :: fs) off (fun x => good x.1 ∧ good' x.2) := by
  intro H enc w base spare held fuel cs hf
  obtain ⟨x, hx, gx⟩ := RdsF_one h ho hc H enc w base spare held fuel cs (fun g hg => hf g (by rw [List.mem_singleton] at hg; rw [hg]; exact List.mem_cons_self))
  obtain ⟨z, hz, gz⟩ := h' H enc w base spare held fuel cs (fun g hg => hf g (List.mem_cons_of_mem _ hg))
  refine ⟨(x, z), ⟨_, _, ?_, hx, hz⟩, gx, gz⟩
  show (cs.drop off).take (kd.sz + ke.sz) = _
  rw [List.take_add, List.drop_drop]

theorem mapM_some {α β : Type} {g : α → Option β} : ∀ {l : List α} {r : List β}, l.mapM g = some r → ∀ f ∈ l, ∃ y, g f = some y
  | [], _, _ => fun f hf => by cases hf
  | a :: l, r, h => fun f hf => by
    rw [List.mapM_cons] at h
    simp only [Option.bind_eq_bind, Option.bind_eq_some_iff, Option.pure_def] at h
    obtain ⟨x, hx, ys, hys, _⟩ := h
    rcases List.mem_cons.1 hf with rfl | hf
    · exact ⟨x, hx⟩
    · exact mapM_some hys f hf

theorem Rds_pairs {α : Type} {P : Program} {kd : Kd α} {t : TypeId} {fs : Array Field} {good : α → Prop} (ht : P.underlying t = some (.struct fs)) (hc : P.cellsOf t = kd.sz) (h : RdsF P kd fs.toList 0 good) : Rds P kd t good := by
  intro H enc w base spare held fuel cs y hy
  cases fuel with
  | zero => simp [DataW.trod] at hy
  | succ fuel =>
    unfold DataW.trod at hy
    rw [ht] at hy
    simp only at hy
    split at hy
    · rename_i hl
      cases hm : fs.toList.mapM (fun f => DataW.trod enc P w base spare held fuel f.type ((cs.drop f.offset).take (P.cellsOf f.type))) with
      | none => rw [hm] at hy; cases hy
      | some xs =>
        obtain ⟨x, hx, g⟩ := h H enc w base spare held fuel cs (mapM_some hm)
        rw [List.drop_zero, List.take_of_length_le (by omega)] at hx
        exact ⟨x, hx, g⟩
    · cases hy

theorem Rds_iso {α β : Type} {P : Program} {kd : Kd α} {t : TypeId} {good : α → Prop} (f : β → α) (g : α → β) (hfg : ∀ y, f (g y) = y) (h : Rds P kd t good) : Rds P (Kd.iso kd f) t (fun x => good (f x)) := by
  intro H enc w base spare held fuel cs y hy
  obtain ⟨x, hx, gx⟩ := h H enc w base spare held fuel cs y hy
  refine ⟨g x, ?_, ?_⟩
  · show kd.K w (f (g x)) cs
    rw [hfg]
    exact hx
  · show good (f (g x))
    rw [hfg]
    exact gx

theorem cells_all {w : World} {base : Nat} {a : Addr} {n : Nat} {cs : List Value} (h : w.cells? base a n = some cs) : cs.length = n ∧ ∀ i u, cs[i]? = some u → w.cell? (a.add i) = some u := by
  unfold World.cells? at h
  split at h
  · have key : ∀ (l : List Nat) (r : List Value), l.mapM (fun i => w.cell? (a.add i)) = some r → r.length = l.length ∧ ∀ (i : Nat) (u : Value), r[i]? = some u → ∃ j, l[i]? = some j ∧ w.cell? (a.add j) = some u := by
      intro l
      induction l with
      | nil => intro r hr; simp at hr; subst hr; simp
      | cons b l ih =>
        intro r hr
        rw [List.mapM_cons] at hr
        simp only [Option.bind_eq_bind, Option.bind_eq_some_iff, Option.pure_def, Option.some.injEq] at hr
        obtain ⟨x, hx, ys, hys, rfl⟩ := hr
        obtain ⟨h1, h2⟩ := ih ys hys
        refine ⟨by simp [h1], ?_⟩
        intro i u hi
        cases i with
        | zero => simp at hi; subst hi; exact ⟨b, rfl, hx⟩
        | succ i => simp at hi; obtain ⟨j, hj, hu⟩ := h2 i u hi; exact ⟨j, by simpa using hj, hu⟩
    obtain ⟨h1, h2⟩ := key _ _ h
    refine ⟨by simpa using h1, ?_⟩
    intro i u hi
    obtain ⟨j, hj, hu⟩ := h2 i u hi
    rw [List.getElem?_range] at hj
    · injection hj with hj; subst hj; exact hu
    · obtain ⟨hl, _⟩ := List.getElem?_eq_some_iff.1 hi; rw [h1] at hl; simpa using hl
  · cases h

theorem Rds_slice {α : Type} {P : Program} {kd : Kd α} {t e : TypeId} {good : α → Prop} (ht : P.underlying t = some (.slice e)) (hc : P.cellsOf e = kd.sz) (h : Rds P kd e good) :
    Rds P (Kd.slice e kd) t (fun l => l.length ≤ maxLen ∧ ∀ x ∈ l, good x) := by
  intro H enc w base spare held fuel cs y hy
  cases fuel with
  | zero => simp [DataW.trod] at hy
  | succ fuel =>
    unfold DataW.trod at hy
    rw [ht] at hy
    match cs, hy with
    | [.slice none 0 0], _ => exact ⟨[], ⟨none, 0, rfl, Nat.le_refl _, rfl, by show (0 : Nat) ≤ _; omega, fun hn => absurd hn (by simp)⟩, by unfold maxLen; simp, by simp⟩
    | [.slice (some a) len cap], hy =>
      simp only at hy
      split at hy
      · rename_i hb
        obtain ⟨hb1, hb2, hb3⟩ := hb
        obtain ⟨elems, hm, _⟩ := Option.bind_eq_some_iff.1 hy
        have hsome := mapM_some hm
        -- each element reads
        have each : ∀ i, i < len → ∃ x c, c.length = kd.sz ∧ kd.K w x c ∧ good x ∧ ∀ j u, c[j]? = some u → w.cell? (a.add (i * kd.sz + j)) = some u := by
          intro i hi
          obtain ⟨z, hz⟩ := hsome i (List.mem_range.2 hi)
          obtain ⟨c, hcs, hr⟩ := Option.bind_eq_some_iff.1 hz
          obtain ⟨hl, hcell⟩ := cells_all hcs
          obtain ⟨x, hx, gx⟩ := h H enc w base spare held fuel c z hr
          refine ⟨x, c, by rw [hl, hc], hx, gx, ?_⟩
          intro j u hj
          have := hcell j u hj
          rw [hc] at this
          have e2 : (a.add (i * kd.sz)).add j = a.add (i * kd.sz + j) := Addr.add_add _ _ _
          rw [e2] at this
          exact this
        have all : ∀ n, n ≤ len → ∃ l : List α, l.length = n ∧ (∀ x ∈ l, good x) ∧ ∀ i p, l[i]? = some p → ∃ c, c.length = kd.sz ∧ kd.K w p c ∧ ∀ j u, c[j]? = some u → w.cell? (a.add (i * kd.sz + j)) = some u := by
          intro n
          induction n with
          | zero => intro _; exact ⟨[], rfl, by simp, by simp⟩
          | succ n ih =>
            intro hn
            obtain ⟨l, hl, hg, hcl⟩ := ih (by omega)
            obtain ⟨x, c, h1, h2, h3, h4⟩ := each n (by omega)
            refine ⟨l ++ [x], by simp [hl], ?_, ?_⟩
            · intro z hz
              rcases List.mem_append.1 hz with hz | hz
              · exact hg z hz
              · rw [List.mem_singleton] at hz; rw [hz]; exact h3
            · intro i p hp
              by_cases hi : i < l.length
              · rw [List.getElem?_append_left hi] at hp
                exact hcl i p hp
              · rw [List.getElem?_append_right (by omega)] at hp
                have : i = n := by
                  obtain ⟨hl2, _⟩ := List.getElem?_eq_some_iff.1 hp
                  simp at hl2
                  omega
                subst this
                rw [hl, Nat.sub_self] at hp
                simp at hp
                subst hp
                exact ⟨c, h1, h2, h4⟩
        obtain ⟨l, hl, hg, hcl⟩ := all len (Nat.le_refl _)
        refine ⟨l, ⟨some a, cap, by rw [hl], by omega, ⟨rfl, by unfold maxLen at hb3; omega, fun _ => ⟨a, rfl, hcl⟩⟩⟩, by unfold maxLen at *; omega, hg⟩
      · cases hy

theorem arr_of {cs : Array Value} {l : List Value} (h : cs.toList = l) : cs = l.toArray := by rw [← h]
end Go.Proofs.YtahllmihgpaaeaaW.Rds
