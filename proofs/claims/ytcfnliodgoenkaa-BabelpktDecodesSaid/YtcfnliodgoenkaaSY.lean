/- Copying. -/
import Derived.Test.YtcfnliodgoenkaaSU
set_option linter.unusedVariables false
namespace Go.Proofs.YtcfnliodgoenkaaS
section
variable {P : Program} {I : Ctx} {f : FuncId} {Q : Value → Mem → Prop} {h : Mem} {k : (Nat → Leaf) → Tr}
theorem rw_firstOf {A : Option Addr} {n n2 c sz : Nat} {cs : List Value} {R : Array Value → Prop} (hn : n ≤ n2) (hl : cs.length = n2 * sz) (hc : RdC I h A cs) (hA : A = none → n2 = 0) (hr : R ⟨cs.take (n * sz)⟩) : rwp P I h (Builtin.firstCells sz n (.slice A n2 c)) R := by
  have hle : n * sz ≤ n2 * sz := Nat.mul_le_mul_right _ hn
  have key : rwp P I h (Builtin.firstCells sz n (.slice A n c)) R := rw_firstCells (n := n) (c := c) (sz := sz) (by simp; omega) (hc.take _) (fun e => by have := hA e; omega) hr
  cases A <;> exact key
theorem h_copy {ts tx e ty : TypeId} {sz by_ : Nat} {z : Value} {cons : Array Bool} (hb : ElemB P ts e sz by_ z) {a : Addr} {A2 : Option Addr} {n c o n' c' n2 c2 : Nat} {cs cs2 : List Value} {m hr : Mem} {A' : Option Addr} (hQ : Aff Q)
    (hp : h.Perm (m ++ hr)) (ho : Own e sz (some a) n c cs m) (had : A' = some (a.add o)) (h2 : RdC I h A2 cs2) (hA2 : A2 = none → n2 = 0) (hl2 : cs2.length = n2 * sz) (hlen : o + min n2 n' * sz ≤ n * sz)
    (hv : ∀ u ∈ cs2, (∀ x, u ≠ .agg x) ∧ ∀ x, u ≠ .tuple x)
    (hk : ∀ m', Own e sz (some a) n c (wrL cs o (cs2.take (min n2 n' * sz))) m' → holds P f I Q (k fun _ => { i := ((min n2 n' : Nat) : Int) }) (m' ++ hr)) :
    holds P f I Q (.nx (builtin .copy #[ts, tx] ty cons #[.slice A' n' c', .slice A2 n2 c2]) (.one (.sc (.int .i64))) k) h := by
  obtain ⟨ti, hi, hti1, hti2, hti3⟩ := hb.info
  have hsz : sizeB P e = some sz := by simp [sizeB, hi, hti1]
  intro _
  refine swp_vN ?_
  show swp P I (Builtin.copy_ #[ts, tx] ty #[.slice A' n' c', .slice A2 n2 c2]) h _
  unfold Builtin.copy_
  simp only [List.getElem?_toArray, List.getElem?_cons_zero, List.getElem?_cons_succ]
  refine swp_still (still_underlying hb.u) ?_
  subst had
  show swp P I ((sizeOf e) >>= fun s => (Builtin.firstCells s (min n2 n') (.slice A2 n2 c2)) >>= fun cells => storeCells (a.add o) cells.toList >>= fun _ => pure (goInt ((min n2 n' : Nat) : Int))) h _
  refine swp_still (still_size hsz) ?_
  rw [swp_bind]
  refine swp_of_rwp _ (rw_firstOf (Nat.min_le_left _ _) hl2 h2 hA2 ?_)
  have hle : min n2 n' * sz ≤ n2 * sz := Nat.mul_le_mul_right _ (Nat.min_le_left _ _)
  rw [swp_bind]
  refine sw_storeOwn hp ho (by simp; omega) (fun u hu => hv u (List.mem_of_mem_take hu)) fun m' h' hp' ho' => ⟨fun _ => { i := ((min n2 n' : Nat) : Int) }, rfl, holds_perm hQ hp' (hk m' ho')⟩
/-- Into an array. -/
theorem h_copyU {ts tx e ty t0 : TypeId} {sz : Nat} {cons : Array Bool} {b off : Nat} {arr : Array Value} {A2 : Option Addr} {n' c' n2 c2 : Nat} {cs2 : List Value} {h' : Mem} (ht : P.underlying ts = some (.slice e)) (hsz : sizeB P e = some sz)
    (hu : Upd h (b, .cells arr t0 (0, 0)) (b, .cells (wr arr off (cs2.take (min n2 n' * sz))) t0 (0, 0)) h') (h2 : RdC I h A2 cs2) (hA2 : A2 = none → n2 = 0) (hl2 : cs2.length = n2 * sz) (hlen : off + min n2 n' * sz ≤ arr.size)
    (hv : ∀ u ∈ cs2, (∀ x, u ≠ .agg x) ∧ ∀ x, u ≠ .tuple x) (hk : holds P f I Q (k fun _ => { i := ((min n2 n' : Nat) : Int) }) h') :
    holds P f I Q (.nx (builtin .copy #[ts, tx] ty cons #[.slice (some ⟨b, off, none⟩) n' c', .slice A2 n2 c2]) (.one (.sc (.int .i64))) k) h := by
  intro _
  refine swp_vN ?_
  show swp P I (Builtin.copy_ #[ts, tx] ty #[.slice (some ⟨b, off, none⟩) n' c', .slice A2 n2 c2]) h _
  unfold Builtin.copy_
  simp only [List.getElem?_toArray, List.getElem?_cons_zero, List.getElem?_cons_succ]
  refine swp_still (still_underlying ht) ?_
  show swp P I ((sizeOf e) >>= fun s => (Builtin.firstCells s (min n2 n') (.slice A2 n2 c2)) >>= fun cells => storeCells ⟨b, off, none⟩ cells.toList >>= fun _ => pure (goInt ((min n2 n' : Nat) : Int))) h _
  refine swp_still (still_size hsz) ?_
  rw [swp_bind]
  refine swp_of_rwp _ (rw_firstOf (Nat.min_le_left _ _) hl2 h2 hA2 ?_)
  have hle : min n2 n' * sz ≤ n2 * sz := Nat.mul_le_mul_right _ (Nat.min_le_left _ _)
  have hlt : (cs2.take (min n2 n' * sz)).length = min n2 n' * sz := by simp; omega
  obtain ⟨j, hj, rfl⟩ := hu
  rw [swp_bind]
  refine sw_storeCells _ off 0 arr hj (by simpa [hlt] using hlen) (fun u hu => hv u (List.mem_of_mem_take hu)) ?_
  intro arr' hs' hq
  have : arr' = wr arr off (cs2.take (min n2 n' * sz)) := arr_ext fun q => by rw [hq q, wr_get (by rw [hlt]; exact hlen)]; simp
  rw [this]
  exact ⟨fun _ => { i := ((min n2 n' : Nat) : Int) }, rfl, hk⟩
end
/-- A byte of one's own is another one now. -/
theorem wr_set {l : List UInt8} {i : Nat} {b : UInt8} (hi : i < l.length) : wrL (bC l) i [.int .u8 (b.toNat : Int)] = bC (l.set i b) := by
  apply List.ext_getElem?
  intro q
  rw [wrL_get (by simp; omega)]
  simp only [bC, List.length_singleton, List.getElem?_map, List.getElem?_set]
  by_cases hq : i = q
  · subst hq
    rw [if_pos ⟨Nat.le_refl _, by omega⟩, if_pos rfl, if_pos hi]
    simp
  · rw [if_neg (by omega), if_neg hq]
theorem bC_take (l : List UInt8) (n : Nat) : (bC l).take n = bC (l.take n) := by simp [bC, List.map_take]
theorem bC_drop (l : List UInt8) (n : Nat) : (bC l).drop n = bC (l.drop n) := by simp [bC, List.map_drop]
theorem wr_bytes {l m : List UInt8} {i : Nat} : wrL (bC l) i (bC m) = bC (l.take i ++ m ++ l.drop (i + m.length)) := by
  unfold wrL
  rw [bC_take, bC_drop, ← bC_append, ← bC_append, bC_length]
end Go.Proofs.YtcfnliodgoenkaaS
