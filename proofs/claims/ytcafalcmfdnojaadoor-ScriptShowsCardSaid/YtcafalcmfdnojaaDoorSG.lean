/- The tree of a region that draws its order is sound. -/
import Derived.Test.YtcafalcmfdnojaaDoorSE
set_option linter.unusedVariables false
namespace Go.Proofs.YtcafalcmfdnojaaDoorS
section
variable {P : Program} {I : Ctx} {cfg : Cfg} {f : Ctl} {Q : Value → Mem → Prop}

theorem cls_le (o : Op) : cls o ≤ 3 := by unfold cls; split <;> omega
theorem cl_le (rid i : Nat) (o : Oper) : cl cfg rid i o ≤ 3 := by unfold cl; split <;> first | omega | (split <;> first | omega | exact cls_le _)

/-- x may come behind y. -/
def Free (un : Nat → Nat → Bool) (c : Nat → Oper → Nat) (ops : Array Oper) (i j : Nat) : Prop :=
  ∃ x y, ops[i]? = some x ∧ ops[j]? = some y ∧ x.apart ops y = true ∧ allowed un i j (c i x) (c j y) = true
structure Facts (un : Nat → Nat → Bool) (c : Nat → Oper → Nat) (pre : List (List Nat)) (ops : Array Oper) : Prop where
  le : ∀ i o, c i o ≤ 3
  sel : ∀ (i : Nat) (o : Oper), ops[i]? = some o → ∀ cs b, o.op ≠ .select cs b
  pre : ∀ i, i < ops.size → ∀ x ∈ pre.getD i [], x ∈ dp ops i ∨ ∃ y ∈ dp ops i, x ∈ pre.getD y []
  dp : ∀ i, i < ops.size → ∀ x ∈ dp ops i, x < ops.size ∧ x ≠ i
def Pairs (un : Nat → Nat → Bool) (c : Nat → Oper → Nat) (pre : List (List Nat)) (ops : Array Oper) : List Nat → Prop
  | [] => True
  | x :: r => (∀ y ∈ r, x ≠ y ∧ y ∉ dp ops x ∧ (x ∈ pre.getD y [] ∨ Free un c ops x y)) ∧ Pairs un c pre ops r
theorem Pairs.append {un : Nat → Nat → Bool} {c : Nat → Oper → Nat} {pre : List (List Nat)} {ops : Array Oper} {B : List Nat} {i : Nat} : ∀ {A : List Nat}, Pairs un c pre ops (A ++ i :: B) →
    Pairs un c pre ops (A ++ B) ∧ (∀ x ∈ A, x ≠ i ∧ (x ∈ pre.getD i [] ∨ Free un c ops x i)) ∧ i ∉ B
  | [], h => ⟨h.2, fun x hx => by simp at hx, fun hm => (h.1 i hm).1 rfl⟩
  | a :: A, h => by
    obtain ⟨h1, h2, h3⟩ := Pairs.append h.2
    refine ⟨⟨fun y hy => h.1 y ?_, h1⟩, fun x hx => ?_, h3⟩
    · rcases List.mem_append.1 hy with hy | hy
      · exact List.mem_append_left _ hy
      · exact List.mem_append_right _ (List.mem_cons_of_mem _ hy)
    · rcases List.mem_cons.1 hx with rfl | hx
      · have := h.1 i (List.mem_append_right _ List.mem_cons_self)
        exact ⟨this.1, this.2.2⟩
      · exact h2 x hx

theorem regL_bubble {un : Nat → Nat → Bool} {c : Nat → Oper → Nat} {pre : List (List Nat)} {ops : Array Oper} {K : KP} (hF : Facts un c pre ops) (hK : Robust K) {i : Nat} {B : List Nat} :
    ∀ {A : List Nat}, (∀ x ∈ A, Free un c ops x i) → ∀ {τ : List Value} {h : Mem} {pn : Pins}, Live I h → regL P I un c ops (A ++ i :: B) τ h pn K → regL P I un c ops (i :: (A ++ B)) τ h pn K
  | [], _, _, _, _, _, hr => hr
  | x :: A, hA, τ, h, pn, hl, hr => by
    obtain ⟨ox, oi, hx, hi, hap, hal⟩ := hA x List.mem_cons_self
    simp only [List.cons_append, regL, hx] at hr
    simp only [List.cons_append, regL, hi, hx]
    refine stO_swap hl (regL_robust hK _) hap (hF.sel _ _ hx) (hF.sel _ _ hi) (hF.le _ _) (hF.le _ _) hal ?_
    refine stO_mono hl ?_ hr
    intro τ' h' pn' hl' _ hh
    have := regL_bubble hF hK (A := A) (fun y hy => hA y (List.mem_cons_of_mem _ hy)) hl' hh
    simp only [regL, hi] at this
    exact this

theorem stO_wp {un : Nat → Nat → Bool} {ops : Array Oper} {i c : Nat} {o : Oper} {rest : List Nat} {k : List Item} {τ : List Value} {h : Mem} {pn : Pins} (ho : ops[i]? = some o) (hc : c ≤ 3)
    (hs : stO P I un ops i c o τ h pn (fun τ' h' pn' => Live I h' → Wp P f (.inRegion ops rest :: k) τ' I h' Q)) (hl : Live I h) : Wp P f (.inRegion ops (i :: rest) :: k) τ I h Q := by
  unfold stO at hs
  split at hs
  · rename_i hw
    refine Wp.op ho hw ?_
    split at hs
    · obtain ⟨v, hv, hk⟩ := hs; exact hv.1 _ _ hl (hk hl)
    · obtain ⟨v, hv, hk⟩ := hs
      refine swp_of_rwp _ (rwp_mono _ hv ?_)
      rintro nx rfl
      exact hk hl
    · obtain ⟨ob, F, ha, hk⟩ := hs
      exact AlOk.swp _ ha fun g hg hI => Wp.live fun hl' => hk g hg hI hl' hl'
    · exact opw_mono hs fun v h' hh => Wp.live fun hl' => (hh hl').2 hl'
  · rename_i hw
    have hsk := fun (b : Frame) (cs : List Frame) (w : World) => stepR_op_skip (P := P) (b := b) (a := act τ f.ds) (k := k) (cs := cs) (w := w) (ops := ops) (i := i) (rest := rest)
      (by simp only [wtd] at hw; simp [ho]; simpa [act] using hw)
    simp only [ho, Option.bind_some, act_put] at hsk
    exact Wp.go_ (fun b cs w _ => hsk b cs w) (hs hl)

theorem mem_ready {ops : Array Oper} {listed : Array Bool} {i : Nat} : i ∈ Region.ready .any ops listed ↔ i < ops.size ∧ listed.getD i true = false ∧ ∀ x ∈ dp ops i, listed.getD x false = true := by
  unfold Region.ready dp
  rw [List.mem_filter, List.mem_range]
  constructor
  · rintro ⟨h1, h2⟩
    have ho : ops[i]? = some ops[i] := Array.getElem?_eq_getElem h1
    rw [ho] at h2 ⊢
    simp only [Option.map_some, Option.getD_some, Bool.and_eq_true, Bool.not_eq_true', Array.all_eq_true', Bool.or_eq_true] at h2 ⊢
    refine ⟨h1, h2.1, fun x hx => ?_⟩
    obtain ⟨e, he, rfl⟩ := List.mem_map.1 hx
    obtain ⟨he1, he2⟩ := List.mem_filter.1 he
    rcases h2.2 e (by simpa using he1) with h3 | h3
    · rw [he2] at h3; cases h3
    · exact h3
  · rintro ⟨h1, h2, h3⟩
    refine ⟨h1, ?_⟩
    have ho : ops[i]? = some ops[i] := Array.getElem?_eq_getElem h1
    rw [ho] at h3 ⊢
    simp only [Option.map_some, Option.getD_some, Bool.and_eq_true, Bool.not_eq_true', Array.all_eq_true', Bool.or_eq_true] at h3 ⊢
    refine ⟨h2, fun e he => ?_⟩
    cases hb : Region.binds .any e with
    | false => exact .inl rfl
    | true => exact .inr (h3 _ (List.mem_map.2 ⟨e, List.mem_filter.2 ⟨by simpa using he, hb⟩, rfl⟩))

theorem lin_go {un : Nat → Nat → Bool} {c : Nat → Oper → Nat} {pre : List (List Nat)} {ops : Array Oper} {k : List Item} (hF : Facts un c pre ops) :
    ∀ (fuel t : Nat) (listed : Array Bool) (L : List Nat) (τ : List Value) (h : Mem) (pn : Pins), listed.size = ops.size → (∀ i, i < ops.size → (listed.getD i true = false ↔ i ∈ L)) → (∀ i ∈ L, i < ops.size) →
      (∀ i, i < ops.size → i ∉ L → ∀ x ∈ pre.getD i [], x ∉ L) → Pairs un c pre ops L → L.length ≤ fuel → Live I h → regL P I un c ops L τ h pn (fun τ h _ => Wp P f k τ I h Q) →
      Wp P f (.inRegion ops (Region.linearise.go .any ops fuel t listed []) :: k) τ I h Q := by
  intro fuel
  induction fuel with
  | zero =>
    intro t listed L τ h pn hsz hL hlt hcl hp hlen hl hr
    have hL0 : L = [] := List.eq_nil_of_length_eq_zero (by omega)
    subst hL0
    exact Wp.regs hr
  | succ fuel ih =>
    intro t listed L τ h pn hsz hL hlt hcl hp hlen hl hr
    simp only [Region.linearise.go]
    change Wp P f (.inRegion ops (match (Region.ready .any ops listed)[t % (Region.ready .any ops listed).length]? with
      | some i => Region.linearise.go .any ops fuel (t / (Region.ready .any ops listed).length) (listed.setIfInBounds i true) [i]
      | none => [].reverse) :: k) τ I h Q
    have getf : ∀ x, x < ops.size → (listed.getD x false = true ↔ x ∉ L) := by
      intro x hx
      have h1 := hL x hx
      have h2 : listed.getD x false = listed.getD x true := by
        have : x < listed.size := by omega
        simp [Array.getD, this]
      rw [h2]
      constructor
      · intro h3 h4; rw [h1.2 h4] at h3; cases h3
      · intro h3
        cases hg : listed.getD x true with
        | true => rfl
        | false => exact absurd (h1.1 hg) h3
    cases hi : (Region.ready .any ops listed)[t % (Region.ready .any ops listed).length]? with
    | none =>
      have hnil : Region.ready .any ops listed = [] := by
        cases hr : Region.ready .any ops listed with
        | nil => rfl
        | cons x xs =>
          rw [hr] at hi
          have hlt : t % (x :: xs).length < (x :: xs).length := Nat.mod_lt _ (by simp)
          simp at hi
          simp at hlt
          omega
      have hL0 : L = [] := by
        cases L with
        | nil => rfl
        | cons y r =>
          exfalso
          have hy := hlt y List.mem_cons_self
          have : y ∈ Region.ready .any ops listed := by
            refine mem_ready.2 ⟨hy, (hL y hy).2 List.mem_cons_self, fun x hx => ?_⟩
            obtain ⟨hx1, hx2⟩ := hF.dp y hy x hx
            refine (getf x hx1).2 fun hm => ?_
            rcases List.mem_cons.1 hm with hm | hm
            · exact hx2 hm
            · exact (hp.1 x hm).2.1 hx
          rw [hnil] at this
          cases this
      subst hL0
      exact Wp.regs hr
    | some i =>
      obtain ⟨hlt', hun, hpr⟩ := mem_ready.1 (List.mem_of_getElem? hi)
      have hiL := (hL i hlt').1 hun
      have hprL : ∀ x ∈ dp ops i, x ∉ L := fun x hx => (getf x (hF.dp i hlt' x hx).1).1 (hpr x hx)
      have hpreL : ∀ x ∈ pre.getD i [], x ∉ L := by
        intro x hx
        rcases hF.pre i hlt' x hx with h1 | ⟨y, hy, h1⟩
        · exact hprL x h1
        · exact hcl y (hF.dp i hlt' y hy).1 (hprL y hy) x h1
      obtain ⟨A, B, rfl⟩ := List.append_of_mem hiL
      obtain ⟨hp1, hp2, hp3⟩ := hp.append
      have hA : ∀ x ∈ A, Free un c ops x i := by
        intro x hx
        rcases (hp2 x hx).2 with h1 | h1
        · exact absurd (List.mem_append_left _ hx) (hpreL x h1)
        · exact h1
      have hK : Robust (fun τ h (_ : Pins) => Wp P f k τ I h Q) := fun τ h h' pn pn' hw p _ => hw.perm p
      have hb := regL_bubble hF hK hA hl hr
      have ho : ops[i]? = some ops[i] := Array.getElem?_eq_getElem hlt'
      simp only [regL, ho] at hb
      simp only []
      rw [linearise_go_acc, List.reverse_singleton, List.singleton_append]
      refine stO_wp ho (hF.le _ _) (stO_mono hl ?_ hb) hl
      intro τ' h' pn' hl' _ hh _
      have hmem : ∀ x, x ∈ A ++ B → x ∈ A ++ i :: B := by
        intro x hx
        rcases List.mem_append.1 hx with hx | hx
        · exact List.mem_append_left _ hx
        · exact List.mem_append_right _ (List.mem_cons_of_mem _ hx)
      have hiAB : i ∉ A ++ B := by
        intro hm
        rcases List.mem_append.1 hm with hm | hm
        · exact (hp2 i hm).1 rfl
        · exact hp3 hm
      refine ih _ _ (A ++ B) τ' h' pn' (by simp [hsz]) (fun j hj => ?_) (fun j hj => hlt j (hmem j hj)) (fun j hj hjn x hx hxm => ?_) hp1 (by simp at hlen ⊢; omega) hl' hh
      · by_cases hji : j = i
        · subst hji
          have : j < listed.size := by omega
          simp only [Array.getD, Array.size_setIfInBounds, this, dif_pos]
          constructor
          · intro h1; simp at h1
          · intro h1; exact absurd h1 hiAB
        · have h1 := hL j hj
          have : j < listed.size := by omega
          have h2 : (listed.setIfInBounds i true).getD j true = listed.getD j true := by
            simp only [Array.getD, Array.size_setIfInBounds, this, dif_pos]
            exact Array.getElem_setIfInBounds_ne this (Ne.symm hji)
          rw [h2, h1]
          simp only [List.mem_append, List.mem_cons]
          constructor
          · rintro (h3 | h3 | h3)
            · exact .inl h3
            · exact absurd h3 hji
            · exact .inr h3
          · rintro (h3 | h3)
            · exact .inl h3
            · exact .inr (.inr h3)
      · by_cases hji : j = i
        · subst hji; exact hpreL x hx (hmem x hxm)
        · refine hcl j hj (fun hm => hjn ?_) x hx (hmem x hxm)
          simp only [List.mem_append, List.mem_cons] at hm ⊢
          rcases hm with h3 | h3 | h3
          · exact .inl h3
          · exact absurd h3 hji
          · exact .inr h3
end
end Go.Proofs.YtcafalcmfdnojaaDoorS
