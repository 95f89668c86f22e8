/-
What a function with a label does: a rule for a scope in which the run jumps back to one label, with a number that every pass lowers.
-/
import Derived.ScopeJumps
import Derived.WalkMore
import Derived.Deep.LoopGhost
namespace Go.Proofs.YtahllmihgpaaeaaW.Goto
open Go

/-- What is owed where the run first comes to the label: a relation with a number, and that every pass from the label on hands it on at a smaller one. -/
def LabelK (P : Program) (l : Nat) (b : Code) (Q : Exit → Act → World → Prop) (a : Act) (w : World) : Prop :=
  ∃ (I : Nat → Act → World → Prop) (n0 : Nat), I n0 a w ∧ ∀ n a w, I n a w → ∀ (J : Nat → Act → World → Prop) (K : Act → World → Prop),
    (∀ k a' w', I k a' w' → J k a' w') → (∀ a' w', Handed J n a' w' → K a' w') → b.wp P (Exit.jump l K Q) a w

section
variable {P : Program} {a : Act} {w : World} {Q : Exit → Act → World → Prop}

theorem wp_here {b : Code} {l : Nat} (h : LabelK P l b Q a w) : b.wp P (Exit.jump l (LabelK P l b Q) Q) a w := by
  obtain ⟨I, n0, h0, pass⟩ := h
  exact pass n0 a w h0 I _ (fun _ _ _ q => q) fun a' w' ⟨n', _, h'⟩ => ⟨I, n', h', pass⟩

theorem wp_skip_seq {b : Code} {R : Exit → Act → World → Prop} (h : b.wp P R a w) : (Code.seq .skip b).wp P R a w := by
  refine wp_seq ?_
  exact wp_skip h

theorem wp_scope_label {c b : Code} (l : Nat) (hf : findLabel c l = some (Code.seq .skip b))
    (first : c.wp P (Exit.jump l (LabelK P l b Q) Q) a w) : (Code.scope c).wp P Q a w := by
  intro f k cs
  have hg : gotoIn l (.inScope c :: k) = some (.code (Code.seq .skip b) :: .inScope c :: k) := by simp [gotoIn, hf]
  have key : ∀ (I : Nat → Act → World → Prop), (∀ n a w, I n a w → ∀ (J : Nat → Act → World → Prop) (K : Act → World → Prop),
      (∀ k a' w', I k a' w' → J k a' w') → (∀ a' w', Handed J n a' w' → K a' w') → b.wp P (Exit.jump l K Q) a w) →
      ∀ n a w, I n a w → ∃ e a' w', Q e a' w' ∧ Arrives P (lone (f.at a (.code (Code.seq .skip b) :: .inScope c :: k)) cs w) f k cs e a' w' := by
    intro I pass n
    induction n using Nat.strongRecOn with
    | _ n ih =>
      intro a w hI
      obtain ⟨e, a₁, w₁, hq, harr⟩ := wp_skip_seq (pass n a w hI I _ (fun _ _ _ q => q) fun _ _ q => q) f (.inScope c :: k) cs
      cases e with
      | normal => exact ⟨.normal, a₁, w₁, hq, Steps.trans harr (.one step_inScope)⟩
      | exit id => exact ⟨.exit id, a₁, w₁, hq, fun k' hk => harr k' (by simp [exitTo, hk])⟩
      | goto l' =>
        obtain ⟨rfl, n', hlt, hI'⟩ := hq
        obtain ⟨e₂, a₂, w₂, hq₂, harr₂⟩ := ih n' hlt a₁ w₁ hI'
        exact ⟨e₂, a₂, w₂, hq₂, .of_steps (harr _ hg) harr₂⟩
      | ret => exact ⟨_, a₁, w₁, hq, harr⟩
      | panic ch => exact ⟨_, a₁, w₁, hq, harr⟩
      | outgrown => exact ⟨_, a₁, w₁, hq, harr⟩
  obtain ⟨e, a₁, w₁, hq, harr⟩ := first f (.inScope c :: k) cs
  cases e with
  | normal => exact ⟨.normal, a₁, w₁, hq, .head step_scope (Steps.trans harr (.one step_inScope))⟩
  | exit id => exact ⟨.exit id, a₁, w₁, hq, fun k' hk => .head step_scope (harr k' (by simp [exitTo, hk]))⟩
  | goto l' =>
    obtain ⟨rfl, I, n0, h0, pass⟩ := hq
    obtain ⟨e₂, a₂, w₂, hq₂, harr₂⟩ := key I pass n0 a₁ w₁ h0
    exact ⟨e₂, a₂, w₂, hq₂, .of_steps (.head step_scope (harr _ hg)) harr₂⟩
  | ret => exact ⟨_, a₁, w₁, hq, .of_steps (.one step_scope) harr⟩
  | panic ch => exact ⟨_, a₁, w₁, hq, .of_steps (.one step_scope) harr⟩
  | outgrown => exact ⟨_, a₁, w₁, hq, .of_steps (.one step_scope) harr⟩
end
end Go.Proofs.YtahllmihgpaaeaaW.Goto
