/- Rules on slices: what is read of a context, what is one's own; index, cut, append, copy, texts. -/
import Derived.Test.YtcafalcmfdnojaaDoorSL
import Derived.Laws.AppendOwn
set_option linter.unusedVariables false
namespace Go.Proofs.YtcafalcmfdnojaaDoorS
section
variable {P : Program} {I J : Ctx} {f : Ctl} {Q : Value → Mem → Prop} {h : Mem}

/-- All that J holds is at hand. -/
def Sub (J I : Ctx) (h : Mem) : Prop := ∀ b o, J b = some o → Has I h b o
theorem Sub.self : Sub I I h := fun b o hb => .inr hb
theorem Sub.mono {g : Mem} (hs : Sub J I h) (hg : ∀ x ∈ h, x ∈ g) : Sub J I g := fun b o hb => (hs b o hb).mono hg
theorem sub_plus {g : Mem} (hg : ∀ x ∈ g, x ∈ h) : Sub (plus I g) I h := by
  intro b o hb
  unfold Go.Proofs.YtcafalcmfdnojaaDoorS.plus at hb
  cases hf : g.find? (fun p => p.1 == b) with
  | some p =>
    rw [hf] at hb
    injection hb with hb
    obtain ⟨hm, rfl⟩ := find_has hf
    subst hb
    exact .inl (hg _ hm)
  | none => rw [hf] at hb; exact .inr hb
theorem plus_has (hl : Live I h) {b : Nat} {o : Obj} (hb : Has I h b o) : plus I h b = some o := by
  rcases hb with hb | hb
  · exact plus_mem hl.nd hb
  · rw [plus_of (hl.ctx hb)]; exact hb
theorem Sub.up (hs : Sub J I h) (hl : Live I h) : ∀ b o, J b = some o → plus I h b = some o := fun b o hb => plus_has hl (hs b o hb)
theorem CellIs.sub {a : Addr} {v : Value} (hc : CellIs J [] a v) (hs : Sub J I h) : CellIs I h a v := by
  obtain ⟨h1, cs, t, fz, h2, h3⟩ := hc
  exact ⟨h1, cs, t, fz, h2.elim (fun hm => by simp at hm) (hs _ _), h3⟩
theorem CellIs.up {a : Addr} {v : Value} {J' : Ctx} (hc : CellIs J [] a v) (hs : ∀ b o, J b = some o → J' b = some o) : CellIs J' [] a v := by
  obtain ⟨h1, cs, t, fz, h2, h3⟩ := hc
  exact ⟨h1, cs, t, fz, h2.elim (fun hm => by simp at hm) (fun hb => .inr (hs _ _ hb)), h3⟩
theorem CellIs.all (hl : Live I h) {a : Addr} {v : Value} (hc : CellIs I h a v) : CellIs (plus I h) [] a v := by
  obtain ⟨h1, cs, t, fz, h2, h3⟩ := hc
  exact ⟨h1, cs, t, fz, .inr (plus_has hl h2), h3⟩
theorem Cells.sub {a : Addr} {cs : List Value} (hc : Cells J [] a cs) (hs : Sub J I h) : Cells I h a cs := fun i v hi => (hc i v hi).sub hs
theorem Cells.up {a : Addr} {cs : List Value} {J' : Ctx} (hc : Cells J [] a cs) (hs : ∀ b o, J b = some o → J' b = some o) : Cells J' [] a cs := fun i v hi => (hc i v hi).up hs
theorem Cells.all (hl : Live I h) {a : Addr} {cs : List Value} (hc : Cells I h a cs) : Cells (plus I h) [] a cs := fun i v hi => (hc i v hi).all hl
theorem Cells.left {a : Addr} {cs ds : List Value} (hc : Cells I h a (cs ++ ds)) : Cells I h a cs := fun i v hi => hc i v (by rw [List.getElem?_append_left (List.getElem?_eq_some_iff.1 hi).1]; exact hi)
theorem Cells.drop {a : Addr} {cs : List Value} (hc : Cells I h a cs) (n : Nat) : Cells I h (a.add n) (cs.drop n) := fun i v hi => by
  rw [add_add]
  exact hc (n + i) v (by rw [List.getElem?_drop] at hi; exact hi)
theorem Cells.take {a : Addr} {cs : List Value} (hc : Cells I h a cs) (n : Nat) : Cells I h a (cs.take n) := fun i v hi => by
  rw [List.getElem?_take] at hi
  split at hi
  · exact hc i v hi
  · cases hi

/-- The cells of a slice, at hand. -/
def RdC (I : Ctx) (h : Mem) (A : Option Addr) (cs : List Value) : Prop := cs ≠ [] → ∃ a, A = some a ∧ Cells I h a cs
theorem RdC.nil (A : Option Addr) : RdC I h A [] := fun hn => absurd rfl hn
theorem RdC.sub {A : Option Addr} {cs : List Value} (hc : RdC J [] A cs) (hs : Sub J I h) : RdC I h A cs := fun hn => let ⟨a, h1, h2⟩ := hc hn; ⟨a, h1, h2.sub hs⟩
theorem RdC.up {A : Option Addr} {cs : List Value} {J' : Ctx} (hc : RdC J [] A cs) (hs : ∀ b o, J b = some o → J' b = some o) : RdC J' [] A cs := fun hn => let ⟨a, h1, h2⟩ := hc hn; ⟨a, h1, h2.up hs⟩
theorem RdC.all (hl : Live I h) {A : Option Addr} {cs : List Value} (hc : RdC I h A cs) : RdC (plus I h) [] A cs := fun hn => let ⟨a, h1, h2⟩ := hc hn; ⟨a, h1, h2.all hl⟩
theorem RdC.take {A : Option Addr} {cs : List Value} (hc : RdC I h A cs) (n : Nat) : RdC I h A (cs.take n) := fun hn => by
  obtain ⟨a, h1, h2⟩ := hc (fun e => hn (by rw [e]; simp))
  exact ⟨a, h1, h2.take n⟩
theorem RdC.drop {A : Option Addr} {cs : List Value} (hc : RdC I h A cs) (n : Nat) : RdC I h (A.map (·.add n)) (cs.drop n) := fun hn => by
  obtain ⟨a, h1, h2⟩ := hc (fun e => hn (by rw [e]; simp))
  exact ⟨a.add n, by rw [h1]; rfl, h2.drop n⟩
theorem RdC.own {j b : Nat} {arr : Array Value} {t : TypeId} {fz : Nat × Nat} (hj : h[j]? = some (b, .cells arr t fz)) (n : Nat) : RdC I h (some ⟨b, 0, none⟩) (arr.toList.take n) :=
  fun _ => ⟨_, rfl, cells_own hj fun i v hi => by rw [List.getElem?_take] at hi; split at hi <;> simp_all⟩
theorem rw_firstCells {A : Option Addr} {n c sz : Nat} {cs : List Value} {R : Array Value → Prop} (hl : cs.length = n * sz) (hc : RdC I h A cs) (hA : A = none → n = 0) (hr : R ⟨cs⟩) : rwp P I h (Builtin.firstCells sz n (.slice A n c)) R := by
  cases A with
  | none =>
    have : n = 0 := hA rfl
    subst this
    have : cs = [] := List.eq_nil_of_length_eq_zero (by omega)
    subst this
    exact hr
  | some a =>
    show rwp P I h (loadCells a (n * sz)) R
    by_cases he : cs = []
    · subst he
      simp at hl
      rw [← hl]
      exact hr
    · obtain ⟨a', h1, h2⟩ := hc he
      injection h1 with h1
      subst h1
      exact rw_loadCells hl h2 hr

/-- A slice of the function's own: its cells and its block. -/
def Own (e : TypeId) (sz : Nat) (A : Option Addr) (n c : Nat) (cs : List Value) (m : Mem) : Prop :=
  cs.length = n * sz ∧ n ≤ c ∧ ((A = none ∧ c = 0 ∧ m = []) ∨ ∃ b arr, A = some ⟨b, 0, none⟩ ∧ m = [(b, .cells arr e (0, 0))] ∧ arr.size = c * sz ∧ arr.toList.take (n * sz) = cs)
theorem Own.nil (e : TypeId) (sz : Nat) : Own e sz none 0 0 [] [] := ⟨by simp, Nat.le_refl _, .inl ⟨rfl, rfl, rfl⟩⟩
theorem Own.rd {e : TypeId} {sz : Nat} {A : Option Addr} {n c : Nat} {cs : List Value} {m : Mem} (ho : Own e sz A n c cs m) (hm : ∀ x ∈ m, x ∈ h) : RdC I h A cs := by
  obtain ⟨h1, h2, ⟨rfl, rfl, rfl⟩ | ⟨b, arr, rfl, rfl, h3, h4⟩⟩ := ho
  · have hn : n = 0 := by omega
    have : cs = [] := List.eq_nil_of_length_eq_zero (by rw [h1, hn]; simp)
    subst this; exact RdC.nil _
  · obtain ⟨j, hj⟩ := List.getElem?_of_mem (hm _ List.mem_cons_self)
    rw [← h4]; exact RdC.own hj _
theorem Own.some_of {e : TypeId} {sz : Nat} {A : Option Addr} {n c : Nat} {cs : List Value} {m : Mem} (ho : Own e sz A n c cs m) : A = none → n = 0 := by
  obtain ⟨h1, h2, ⟨rfl, rfl, rfl⟩ | ⟨b, arr, rfl, rfl, h3, h4⟩⟩ := ho
  · intro _; omega
  · intro h; cases h
theorem Own.row {e : TypeId} {sz n : Nat} {b : Nat} {arr : Array Value} (hs : arr.size = n * sz) : Own e sz (some ⟨b, 0, none⟩) n n arr.toList [(b, .cells arr e (0, 0))] :=
  ⟨by simpa using hs, Nat.le_refl _, .inr ⟨b, arr, rfl, rfl, hs, List.take_of_length_le (by simp; omega)⟩⟩

theorem size_zeroCells (z : Array Value) (n : Nat) : (Builtin.zeroCells z n).size = n * z.size := by simp [Builtin.zeroCells]
/-- No whole number. -/
def noInt (P : Program) (t : TypeId) : Bool := match P.underlying t with | some (.int _) => false | some _ => true | none => false
theorem noInt_out {t : TypeId} (ht : noInt P t = true) : ∃ u, P.underlying t = some u ∧ ∀ k, u ≠ .int k := by
  unfold noInt at ht
  cases hu : P.underlying t with
  | none => rw [hu] at ht; cases ht
  | some u =>
    rw [hu] at ht
    refine ⟨u, rfl, fun k hk => ?_⟩
    subst hk
    cases ht
theorem ElemB.info {ts e : TypeId} {sz by_ : Nat} {z : Value} (hb : ElemB P ts e sz by_ z) : ∃ ti, P.info? e = some ti ∧ ti.size = sz ∧ ti.bytes = by_ ∧ ti.zero = some z := by
  have := hb.i
  cases hi : P.info? e with
  | none => simp [hi] at this
  | some ti => rw [hi] at this; simp at this; exact ⟨ti, rfl, this.1, this.2.1, this.2.2⟩

theorem sw_append {ts tx e ty : TypeId} {sz by_ : Nat} {z : Value} (hb : ElemB P ts e sz by_ z) {A : Option Addr} {n c n2 : Nat} {x : Value} {cs cs2 : List Value} {m hr : Mem} {K : Value → Mem → Prop}
    (hx : ∃ u, P.underlying tx = some u ∧ ∀ k, u ≠ .int k) (hn : Builtin.lenOf x = pure n2) (hf : ∀ R : Array Value → Prop, R ⟨cs2⟩ → rwp P I h (Builtin.firstCells sz n2 x) R) (hl2 : cs2.length = n2 * sz)
    (hv : ∀ v ∈ cs2, (∀ x, v ≠ .agg x) ∧ ∀ x, v ≠ .tuple x) (hp : h.Perm (m ++ hr)) (ho : Own e sz A n c cs m) (hbd : (n + n2) * by_ ≤ 140737488355328) (hby : 0 < by_)
    (hk : ∀ A' c' m' h', (n + n2 ≤ c → A' = A ∧ c' = c) → h'.Perm (m' ++ hr) → Own e sz A' (n + n2) c' (cs ++ cs2) m' → K (.slice A' (n + n2) c') h') (haff : ∀ v h1 g h2, h2.Perm (h1 ++ g) → K v h1 → K v h2) :
    swp P I (Builtin.append_ #[ts, tx] ty #[.slice A n c, x]) h K := by
  obtain ⟨ti, hi, hti1, hti2, hti3⟩ := hb.info
  obtain ⟨u, hu1, hu2⟩ := hx
  have hsz : sizeB P e = some sz := by simp [sizeB, hi, hti1]
  have hz : zeroB P e = some z := by simp [zeroB, hi, hti3]
  unfold Builtin.append_
  simp only [List.getElem?_toArray, List.getElem?_cons_zero, List.getElem?_cons_succ]
  refine swp_still (still_underlying hb.u) ?_
  simp only []
  refine swp_still (still_size hsz) ?_
  refine swp_still (still_underlying hu1) ?_
  refine swp_still (a := false) ?_ ?_
  · show some _ = some false
    cases u <;> first | rfl | exact absurd rfl (hu2 _)
  show swp P I (if false = true then _ else _) h K
  rw [if_neg (by simp)]
  rw [hn]
  refine swp_still (a := n2) rfl ?_
  obtain ⟨ho1, ho2, ho3⟩ := ho
  show swp P I (if n + n2 ≤ c then _ else _) h K
  split
  · -- there is room
    rename_i hroom
    rw [swp_bind]
    refine swp_of_rwp _ (hf _ ?_)
    rcases ho3 with ⟨rfl, rfl, rfl⟩ | ⟨b, arr, rfl, rfl, h3, h4⟩
    · have hn0 : n + n2 = 0 := by omega
      have hc0 : cs ++ cs2 = [] := List.eq_nil_of_length_eq_zero (by rw [List.length_append, ho1, hl2, ← Nat.add_mul, hn0]; simp)
      have := hk none 0 [] h (fun _ => ⟨rfl, rfl⟩) hp (by rw [hn0, hc0]; exact Own.nil _ _)
      exact this
    · show swp P I (storeCells ((⟨b, 0, none⟩ : Addr).add (n * sz)) cs2 >>= fun _ => _) h K
      rw [add_plain, Nat.zero_add]
      obtain ⟨j, hj⟩ := List.getElem?_of_mem (hp.mem_iff.2 (List.mem_append_left hr List.mem_cons_self))
      have hle : n * sz + cs2.length ≤ arr.size := by
        rw [hl2, h3, ← Nat.add_mul]; exact Nat.mul_le_mul_right _ hroom
      rw [swp_bind]
      refine sw_storeCells cs2 (n * sz) 0 arr hj (by simpa using hle) hv ?_
      intro arr' hs' hq
      have he : arr' = wr arr (n * sz) cs2 := arr_ext fun q => by rw [hq q, wr_get hle]; simp
      subst he
      refine hk _ _ [(b, .cells (wr arr (n * sz) cs2) e (0, 0))] _ (fun _ => ⟨rfl, rfl⟩) ?_ ⟨by rw [List.length_append, ho1, hl2, Nat.add_mul], hroom, .inr ⟨b, _, rfl, rfl, by rw [wr_size hle, h3], ?_⟩⟩
      · have h5 := set_perm hj (b, Obj.cells (wr arr (n * sz) cs2) e (0, 0))
        exact h5.1.trans ((List.Perm.cons_inv (h5.2.symm.trans hp)).cons _)
      · have h6 : (arr.toList.take (n * sz)).length = n * sz := by rw [h4, ho1]
        simp only [wr]
        rw [← h4, Nat.add_mul, ← hl2]
        have h7 : (arr.toList.take (n * sz) ++ cs2).length = n * sz + cs2.length := by rw [List.length_append, h6]
        rw [List.take_append_of_le_length (by omega), List.take_of_length_le (by omega)]
  · -- a new row
    rename_i hroom
    have hlt : c < n + n2 := by omega
    have hgf := growslice_fits (old := c) (need := n + n2) (bytes := by_) hlt hbd
    refine swp_still (still_typeInfo hi) ?_
    rw [hti2]
    show swp P I (if (((n + n2 : Nat) : Int) > IntKind.i64.max ∧ (false = true ∨ by_ = 0)) then _ else _) h K
    rw [if_neg (by rintro ⟨_, h | h⟩ <;> simp_all)]
    refine swp_still (still_typeInfo hi) ?_
    rw [hti2]
    show swp P I (if Builtin.nextslicecap (n + n2) c * by_ > 2 ^ 48 then _ else _) h K
    rw [if_neg (by omega)]
    rw [swp_bind]
    refine ⟨fun hfo => by simp [Question.forced] at hfo, fun _ t => ?_⟩
    have hcap : ∃ q, (Question.appendCap (n + n2) c e).cut t = n + n2 + q := ⟨t % (2 ^ 63 - (n + n2)), rfl⟩
    obtain ⟨q, hq⟩ := hcap
    rw [hq]
    show swp P I (typeInfo e >>= fun _ => _) h K
    refine swp_still (still_typeInfo hi) ?_
    rw [swp_bind]
    have hask : ∀ (y : Nat) (R : Unit → Mem → Prop), R () h → swp P I (askRoom y) h R := by
      intro y R hr
      unfold askRoom
      split
      · exact hr
      · exact hr
    refine hask _ _ ?_
    rw [swp_bind]
    have hA : A = none → n = 0 := by
      rcases ho3 with ⟨rfl, rfl, rfl⟩ | ⟨b, arr, rfl, rfl, h3, h4⟩
      · intro _; omega
      · intro h; cases h
    have ho : Own e sz A n c cs m := ⟨ho1, ho2, ho3⟩
    refine swp_of_rwp _ (rw_firstCells ho1 (ho.rd fun x hx => hp.mem_iff.2 (List.mem_append_left _ hx)) hA ?_)
    show swp P I ((if (!false) = true then Builtin.firstCells sz n2 x else _) >>= fun _ => _) h K
    rw [if_pos (by simp), swp_bind]
    refine swp_of_rwp _ (hf _ ?_)
    refine swp_still (still_zero hz) ?_
    rw [swp_bind]
    intro g hg hI
    have hk2 := hk (some ⟨g, 0, none⟩) (n + n2 + q) [(g, .cells (⟨cs⟩ ++ ⟨cs2⟩ ++ Builtin.zeroCells z.cells (n + n2 + q - (n + n2))) e (0, 0))] ((g, .cells (⟨cs⟩ ++ ⟨cs2⟩ ++ Builtin.zeroCells z.cells (n + n2 + q - (n + n2))) e (0, 0)) :: hr) (fun hh => absurd hh hroom) (List.Perm.refl _) ?_
    · refine haff _ _ m _ ?_ hk2
      exact (hp.cons _).trans ((List.perm_append_comm (l₁ := m) (l₂ := hr)).cons _)
    · refine ⟨by rw [List.length_append, ho1, hl2, Nat.add_mul], by omega, .inr ⟨g, _, rfl, rfl, ?_, ?_⟩⟩
      · simp only [Array.size_append, size_zeroCells, hb.z, List.size_toArray, ho1, hl2]
        rw [← Nat.add_mul, ← Nat.add_mul]
        congr 1
        omega
      · simp only [Array.toList_append]
        rw [Nat.add_mul, ← ho1, ← hl2, List.take_append_of_le_length (by simp), List.take_of_length_le (by simp)]
end
end Go.Proofs.YtcafalcmfdnojaaDoorS
