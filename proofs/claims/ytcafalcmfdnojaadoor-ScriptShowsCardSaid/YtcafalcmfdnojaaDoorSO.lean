/- Rules on rows that are one's own: cut, written, cleared, copied into, made. -/
import Derived.Test.YtcafalcmfdnojaaDoorSN
set_option linter.unusedVariables false
namespace Go.Proofs.YtcafalcmfdnojaaDoorS
section
variable {P : Program} {I J : Ctx} {f : Ctl} {Q : Value → Mem → Prop} {h : Mem} {sh : Sh} {k : (Nat → Leaf) → Tr}
theorem wrap64 {x : Int} (h : -9223372036854775808 ≤ x ∧ x < 9223372036854775808) : IntKind.i64.wrap x = x := by
  have : IntKind.i64.wrap x = if (true && decide (x % 18446744073709551616 ≥ 9223372036854775808)) = true then x % 18446744073709551616 - 18446744073709551616 else x % 18446744073709551616 := rfl
  rw [this]
  simp only [Bool.true_and, decide_eq_true_eq]
  split <;> omega
theorem wrapS {n : Nat} (h : n < 4611686018427387904) : IntKind.wrap .i64 ((n : Int) + 1) = ((n + 1 : Nat) : Int) := wrap64 (by omega)
theorem Cells.at {a : Addr} {cs ds : List Value} (hc : Cells I h a cs) (k : Nat) (hq : ∀ q v, ds[q]? = some v → cs[k + q]? = some v) : Cells I h (a.add k) ds := fun q v hv => by rw [add_add]; exact hc _ v (hq q v hv)
theorem Own.cells {e : TypeId} {sz : Nat} {a : Addr} {n c : Nat} {cs : List Value} {m hr : Mem} (ho : Own e sz (some a) n c cs m) (hp : h.Perm (m ++ hr)) : Cells I h a cs := by
  by_cases he : cs = []
  · subst he; intro q v hv; simp at hv
  · obtain ⟨a', h1, h2⟩ := ho.rd (I := I) (h := h) (fun x hx => hp.mem_iff.2 (List.mem_append_left _ hx)) he
    injection h1 with h1
    subst h1
    exact h2
theorem Own.cut {e : TypeId} {sz : Nat} {A : Option Addr} {n c : Nat} {cs : List Value} {m : Mem} (ho : Own e sz A n c cs m) {i : Nat} (hi : i ≤ n) : Own e sz A i c (cs.take (i * sz)) m := by
  obtain ⟨h1, h2, h3⟩ := ho
  have hle : i * sz ≤ n * sz := Nat.mul_le_mul_right _ hi
  refine ⟨by rw [List.length_take, h1]; omega, by omega, ?_⟩
  rcases h3 with h3 | ⟨b, arr, e1, e2, h4, h5⟩
  · exact .inl h3
  · refine .inr ⟨b, arr, e1, e2, h4, ?_⟩
    rw [← h5, List.take_take, Nat.min_eq_left hle]
/-- What stands behind is one's own, too. -/
theorem Own.ext {e : TypeId} {sz : Nat} {A : Option Addr} {n c : Nat} {cs : List Value} {m : Mem} (ho : Own e sz A n c cs m) {i : Nat} (hi : n ≤ i) (hc : i ≤ c) : ∃ cs', cs'.take (n * sz) = cs ∧ Own e sz A i c cs' m := by
  obtain ⟨h1, h2, ⟨rfl, rfl, rfl⟩ | ⟨b, arr, e1, e2, h4, h5⟩⟩ := ho
  · have : n = 0 := by omega
    have : i = 0 := by omega
    subst i n
    exact ⟨[], by simpa using h1, Own.nil _ _⟩
  · have hle : n * sz ≤ i * sz := Nat.mul_le_mul_right _ hi
    have hle2 : i * sz ≤ c * sz := Nat.mul_le_mul_right _ hc
    exact ⟨arr.toList.take (i * sz), by rw [List.take_take, Nat.min_eq_left hle, h5], by simp; omega, hc, .inr ⟨b, arr, e1, e2, h4, rfl⟩⟩
theorem addr_add0 (a : Addr) : a.add 0 = a := by unfold Addr.add; simp
theorem cutA_zero (A : Option Addr) (m sz : Nat) : cutA A 0 m sz = A := by
  unfold cutA
  split
  · rfl
  · cases A with
    | none => rfl
    | some a => simp [addr_add0]
theorem cutA_some {a : Addr} {l m sz : Nat} (h : m ≠ l) : cutA (some a) l m sz = some (a.add (l * sz)) := by
  unfold cutA; rw [if_neg h]; rfl
theorem cutA_ne {a : Addr} {l m sz : Nat} (h : cutA (some a) l m sz = none) {p : Prop} : p := by
  unfold cutA at h
  split at h <;> cases h
/-- Cells with others written over them. -/
def wrL (cs : List Value) (o : Nat) (vs : List Value) : List Value := cs.take o ++ vs ++ cs.drop (o + vs.length)
theorem wrL_nil {cs : List Value} {o : Nat} : wrL cs o [] = cs := by simp [wrL]
theorem wrL_length {cs vs : List Value} {o : Nat} (h : o + vs.length ≤ cs.length) : (wrL cs o vs).length = cs.length := by
  simp only [wrL, List.length_append, List.length_take, List.length_drop]; omega
theorem wrL_take {cs vs : List Value} {o : Nat} (h : o ≤ cs.length) : (wrL cs o vs).take o = cs.take o := by
  have h1 : (cs.take o).length = o := by simp; omega
  rw [wrL, List.append_assoc, List.take_append_of_le_length (by omega), List.take_of_length_le (by omega)]
theorem wrL_get {cs vs : List Value} {o : Nat} (h : o + vs.length ≤ cs.length) (q : Nat) : (wrL cs o vs)[q]? = if o ≤ q ∧ q < o + vs.length then vs[q - o]? else cs[q]? := by
  have := wr_get (arr := ⟨cs⟩) (off := o) (vs := vs) (by simpa using h) q
  simpa [wr, wrL] using this
theorem sw_storeOwn {e : TypeId} {sz : Nat} {a : Addr} {n c o : Nat} {cs vs : List Value} {m hr : Mem} {R : Unit → Mem → Prop} (hp : h.Perm (m ++ hr)) (ho : Own e sz (some a) n c cs m) (hlen : o + vs.length ≤ n * sz)
    (hv : ∀ v ∈ vs, (∀ x, v ≠ .agg x) ∧ ∀ x, v ≠ .tuple x) (hk : ∀ m' h', h'.Perm (m' ++ hr) → Own e sz (some a) n c (wrL cs o vs) m' → R () h') : swp P I (storeCells (a.add o) vs) h R := by
  obtain ⟨h1, h2, ⟨h, _, _⟩ | ⟨b, arr, e1, rfl, h4, h5⟩⟩ := ho
  · cases h
  · injection e1 with e1
    subst e1
    rw [add_plain, Nat.zero_add]
    obtain ⟨j, hj⟩ := List.getElem?_of_mem (hp.mem_iff.2 (List.mem_append_left hr List.mem_cons_self))
    have hle : n * sz ≤ arr.size := by rw [h4]; exact Nat.mul_le_mul_right _ h2
    refine sw_storeCells vs o 0 arr hj (by omega) hv ?_
    intro arr' hs' hq
    have he : arr' = wr arr o vs := arr_ext fun q => by rw [hq q, wr_get (by omega)]; simp
    subst he
    refine hk [(b, .cells (wr arr o vs) e (0, 0))] _ ?_ ⟨?_, h2, .inr ⟨b, _, rfl, rfl, by rw [wr_size (by omega), h4], ?_⟩⟩
    · have h5 := set_perm hj (b, Obj.cells (wr arr o vs) e (0, 0))
      exact h5.1.trans ((List.Perm.cons_inv (h5.2.symm.trans hp)).cons _)
    · rw [wrL_length (by omega), h1]
    · subst h5
      have l1 : (arr.toList.take o).length = o := by simp; omega
      simp only [wr, wrL]
      rw [List.take_append, List.take_of_length_le (l := arr.toList.take o ++ vs) (by rw [List.length_append, l1]; omega), List.length_append, l1, List.take_take, Nat.min_eq_left (by omega), List.drop_take]
theorem h_storeE {t e : TypeId} {v : Value} {k : Tr} {sz : Nat} {a ad : Addr} {n c : Nat} (o : Nat) {cs : List Value} {m hr : Mem} (hQ : Aff Q) (hp : h.Perm (m ++ hr)) (ho : Own e sz (some a) n c cs m) (had : ad = a.add o) (hs : sizeB P t = some v.cells.size) (hlen : o + v.cells.size ≤ n * sz)
    (hv : ∀ u ∈ v.cells.toList, (∀ x, u ≠ .agg x) ∧ ∀ x, u ≠ .tuple x) (hk : ∀ m', Own e sz (some a) n c (wrL cs o v.cells.toList) m' → holds P f I Q k (m' ++ hr)) :
    holds P f I Q (.unit (Instr.storeAt t (.pointer (some ad)) v) k) h := by
  intro _
  subst had
  show swp P I (storeVar t (a.add o) v) h _
  unfold storeVar
  refine swp_still (still_size hs) ?_
  simp only [ne_eq, not_true_eq_false, if_false]
  exact sw_storeOwn hp ho (by simpa using hlen) hv fun m' h' hp' ho' => holds_perm hQ hp' (hk m' ho')
theorem zeroCells_plain {z : Array Value} (hz : ∀ v ∈ z.toList, (∀ x, v ≠ .agg x) ∧ ∀ x, v ≠ .tuple x) (n : Nat) : ∀ v ∈ (Builtin.zeroCells z n).toList, (∀ x, v ≠ .agg x) ∧ ∀ x, v ≠ .tuple x := by
  intro v hv
  simp only [Builtin.zeroCells, Array.toList_map, List.mem_map, Array.toList_range, List.mem_range] at hv
  obtain ⟨i, hi, rfl⟩ := hv
  have hs : 0 < z.size := by
    rcases Nat.eq_zero_or_pos z.size with h | h
    · rw [h] at hi; omega
    · exact h
  have hm := Nat.mod_lt i hs
  rw [getElem!_pos z _ hm]
  exact hz _ (by simp)
theorem h_clear {ts e ty : TypeId} {sz by_ : Nat} {z : Value} {cons : Array Bool} (hb : ElemB P ts e sz by_ z) {A A' : Option Addr} {n c n' c' o : Nat} {cs : List Value} {m hr : Mem} (hQ : Aff Q) (hp : h.Perm (m ++ hr)) (ho : Own e sz A n c cs m)
    (hA : n' = 0 ∨ ∃ a, A = some a ∧ A' = some (a.add o)) (hlen : o + n' * sz ≤ n * sz) (hv : ∀ u ∈ z.cells.toList, (∀ x, u ≠ .agg x) ∧ ∀ x, u ≠ .tuple x)
    (hk : ∀ m', Own e sz A n c (wrL cs o (Builtin.zeroCells z.cells n').toList) m' → holds P f I Q (k fun _ => {}) (m' ++ hr)) :
    holds P f I Q (.nx (builtin .clear #[ts] ty cons #[.slice A' n' c']) (.tup []) k) h := by
  intro _
  refine swp_vN ?_
  show swp P I (Builtin.clear_ #[ts] ty #[.slice A' n' c']) h _
  unfold Builtin.clear_
  simp only [List.getElem?_toArray, List.getElem?_cons_zero, List.getElem?_cons_succ]
  refine swp_still (still_underlying hb.u) ?_
  rcases hA with rfl | ⟨a, rfl, rfl⟩
  · have h0 : (Builtin.zeroCells z.cells 0).toList = [] := by simp [Builtin.zeroCells]
    rw [h0, wrL_nil] at hk
    have hfin : swp P I (pure (Value.tuple #[])) h (fun v h' => ∃ l, Next.value v = .value ((Sh.tup []).val l) ∧ holds P f I Q (k l) h') := ⟨fun _ => {}, rfl, holds_perm hQ hp (hk m ho)⟩
    cases A' <;> exact hfin
  · obtain ⟨ti, hi, hti1, hti2, hti3⟩ := hb.info
    have hz : zeroB P e = some z := by simp [zeroB, hi, hti3]
    cases n' with
    | zero =>
      have h0 : (Builtin.zeroCells z.cells 0).toList = [] := by simp [Builtin.zeroCells]
      rw [h0, wrL_nil] at hk
      exact ⟨fun _ => {}, rfl, holds_perm hQ hp (hk m ho)⟩
    | succ n' =>
      show swp P I (zeroValue e >>= fun zv => storeCells (a.add o) (Builtin.zeroCells zv.cells (n' + 1)).toList >>= fun _ => pure (Value.tuple #[])) h _
      refine swp_still (still_zero hz) ?_
      rw [swp_bind]
      refine sw_storeOwn hp ho ?_ (zeroCells_plain hv _) fun m' h' hp' ho' => ⟨fun _ => {}, rfl, holds_perm hQ hp' (hk m' ho')⟩
      rw [Array.length_toList, size_zeroCells, hb.z]
      exact hlen
theorem h_appendIn (hQ : Aff Q) {ts tx e ty : TypeId} {sz by_ : Nat} {z : Value} {cons : Array Bool} (hb : ElemB P ts e sz by_ z) (hx : noInt P tx = true) {A A2 : Option Addr} {n c n2 c2 : Nat} {cs cs2 : List Value} {m hr : Mem}
    (h2 : RdC I h A2 cs2) (hA2 : A2 = none → n2 = 0) (hl2 : cs2.length = n2 * sz) (hv : ∀ v ∈ cs2, (∀ x, v ≠ .agg x) ∧ ∀ x, v ≠ .tuple x) (hp : h.Perm (m ++ hr)) (ho : Own e sz A n c cs m)
    (hbd : (n + n2) * by_ ≤ 140737488355328) (hby : 0 < by_) (hroom : n + n2 ≤ c) (hk : ∀ m', Own e sz A (n + n2) c (cs ++ cs2) m' → holds P f I Q (k fun _ => { A := A, n := n + n2, c := c }) (m' ++ hr)) :
    holds P f I Q (.nx (builtin .append #[ts, tx] ty cons #[.slice A n c, .slice A2 n2 c2]) shSl k) h := by
  intro _
  refine swp_vN (sw_append (K := fun v h' => ∃ l, Next.value v = .value (shSl.val l) ∧ holds P f I Q (k l) h') hb (noInt_out hx) rfl (fun R hr => rw_firstCells hl2 h2 hA2 hr) hl2 hv hp ho hbd hby ?_ ?_)
  · intro A' c' m' h' he hp' ho'
    obtain ⟨rfl, rfl⟩ := he hroom
    exact ⟨fun _ => { A := A', n := n + n2, c := c' }, rfl, holds_perm hQ hp' (hk m' ho')⟩
  · rintro v h1 g h2 hp2 ⟨l, hv, hh⟩
    exact ⟨l, hv, holds_drop hQ hp2 hh⟩
theorem h_make {t e : TypeId} {sz by_ : Nat} {z : Value} (hb : ElemB P t e sz by_ z) {n c : Nat} {ik ik2 : IntKind} (hn : n ≤ c) (hbd : by_ * c ≤ 140737488355328) (hby : 0 < by_)
    (hk : ∀ g, g ∉ keys h → I g = none → Own e sz (some ⟨g, 0, none⟩) n c (Builtin.zeroCells z.cells n).toList [(g, .cells (Builtin.zeroCells z.cells c) e (0, 0))] →
      holds P f I Q (k fun _ => { A := some ⟨g, 0, none⟩, n := n, c := c }) ((g, .cells (Builtin.zeroCells z.cells c) e (0, 0)) :: h)) :
    holds P f I Q (.sem (Instr.makeSlice t (.int ik n) (.int ik2 c)) shSl k) h := by
  intro _
  obtain ⟨ti, hi, hti1, hti2, hti3⟩ := hb.info
  have hsz : sizeB P e = some sz := by simp [sizeB, hi, hti1]
  have hz : zeroB P e = some z := by simp [zeroB, hi, hti3]
  have hc63 : c ≤ 140737488355328 := Nat.le_trans (Nat.le_mul_of_pos_left c hby) hbd
  unfold Instr.makeSlice
  refine swp_still (still_underlying hb.u) ?_
  simp only []
  refine swp_still (a := (n : Int)) rfl ?_
  refine swp_still (a := (c : Int)) rfl ?_
  refine swp_still (still_typeInfo hi) ?_
  rw [hti2]
  have w : ∀ x : Nat, x ≤ 140737488355328 → IntKind.i64.wrap (x : Int) = x := by
    intro x hx
    exact wrap64 (by omega)
  rw [w n (by omega), w c hc63]
  have t1 : ∀ x : Nat, x ≤ c → ((decide ((x : Int) < 0) || decide ((by_ : Int) * (x : Int) > 2 ^ 48)) = false) := by
    intro x hx
    have h1 : by_ * x ≤ 140737488355328 := Nat.le_trans (Nat.mul_le_mul_left _ hx) hbd
    have h2 : (by_ : Int) * (x : Int) ≤ 140737488355328 := by rw [← Int.natCast_mul]; omega
    simp only [Bool.or_eq_false_iff, decide_eq_false_iff_not]
    omega
  rw [if_neg (by
    rw [t1 c (Nat.le_refl _)]
    simp
    omega)]
  show swp P I (askRoom ((c : Int).toNat * by_) >>= fun _ => _) h _
  rw [swp_bind]
  have hask : ∀ (y : Nat) (R : Unit → Mem → Prop), R () h → swp P I (askRoom y) h R := by
    intro y R hr
    unfold askRoom
    split
    · exact hr
    · exact hr
  refine hask _ _ ?_
  refine swp_still (still_size hsz) ?_
  simp only [Int.toNat_natCast]
  have key : ∀ zc : Array Value, (zc = z.cells ∨ c * sz = 0) → swp P I (newRow e ((Array.range (c * sz)).map fun x => zc[x % zc.size]!) >>= fun a => pure (Value.slice (some a) n c)) h
      (fun v h' => ∃ l, v = shSl.val l ∧ holds P f I Q (k l) h') := by
    intro zc hzc
    have he : ((Array.range (c * sz)).map fun x => zc[x % zc.size]!) = Builtin.zeroCells z.cells c := by
      rcases hzc with rfl | h0
      · simp [Builtin.zeroCells, hb.z]
      · simp [Builtin.zeroCells, hb.z, h0]
    rw [he]
    intro g hg hI
    refine ⟨fun _ => { A := some ⟨g, 0, none⟩, n := n, c := c }, rfl, hk g hg hI ?_⟩
    refine ⟨by rw [Array.length_toList, size_zeroCells, hb.z], hn, .inr ⟨g, _, rfl, rfl, by rw [size_zeroCells, hb.z], ?_⟩⟩
    have hle : n * sz ≤ c * sz := Nat.mul_le_mul_right _ hn
    simp only [Builtin.zeroCells, Array.toList_map, Array.toList_range, hb.z, ← List.map_take, List.take_range, Nat.min_eq_left hle]
  by_cases h0 : c * sz = 0
  · simp only [if_pos h0, pure_bind]
    exact key #[] (.inr h0)
  · simp only [if_neg h0]
    refine swp_still (still_zero hz) ?_
    exact key z.cells (.inl rfl)
end
end Go.Proofs.YtcafalcmfdnojaaDoorS
