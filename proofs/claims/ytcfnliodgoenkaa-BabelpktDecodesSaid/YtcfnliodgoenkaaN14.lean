import Derived.Test.YtcfnliodgoenkaaN13
import Derived.Test.YtcfnliodgoenkaaTA
set_option linter.unusedVariables false
namespace Go.Proofs.YtcfnliodgoenkaaS
theorem rw_cutArr {P : Program} {I : Ctx} {h : Mem} {t e : TypeId} {n sz : Nat} {a : Addr} {R : Value → Prop} (ht : P.underlying t = some (.array n e)) (hs : sizeB P e = some sz) (hr : R (.slice (some a) n n)) : rwp P I h (Instr.sliceAt t (.pointer (some a)) none none none) R := by
  unfold Instr.sliceAt
  refine rwp_still (still_underlying ht) ?_
  show rwp P I h (Instr.sliceBounds false n n none none none >>= fun _ => _) R
  show rwp P I h (Instr.sliceBounds false n n none none none >>= fun p => sizeOf e >>= fun s => pure (Value.slice (some (if p.2.2 = p.1 then a else a.add (p.1 * s))) (p.2.1 - p.1) (p.2.2 - p.1))) R
  rw [rwp_bind]
  refine rw_bounds (l := 0) (u := n) (m := n) rfl rfl rfl (fun h => absurd rfl h) (Nat.zero_le _) (Nat.le_refl _) (Nat.le_refl _) ?_
  show rwp P I h (sizeOf e >>= fun s => pure (Value.slice (some (if n = 0 then a else a.add (0 * s))) (n - 0) (n - 0))) R
  refine rwp_still (still_size hs) ?_
  show R (.slice (some (if n = 0 then a else a.add (0 * sz))) (n - 0) (n - 0))
  rw [Nat.zero_mul, Nat.sub_zero, show a.add 0 = a from rfl, ite_self]
  exact hr
theorem h_cutArr {P : Program} {I : Ctx} {f : FuncId} {Q : Value → Mem → Prop} {h : Mem} {k : (Nat → Leaf) → Tr} {t e : TypeId} {n sz : Nat} {a : Addr} (ht : P.underlying t = some (.array n e)) (hs : sizeB P e = some sz) (hk : holds P f I Q (k fun _ => { A := some a, n := n, c := n }) h) :
    holds P f I Q (.rd (Instr.sliceAt t (.pointer (some a)) none none none) (.one (.sc (.sl))) k) h :=
  h_rd _ (rw_cutArr ht hs rfl) hk
def byteAt (l : List UInt8) (i : Nat) : UInt8 := l[i]?.getD 0
theorem byteAt_in {l : List UInt8} {i : Nat} (h : i < l.length) : l[i]? = some (byteAt l i) := by
  unfold byteAt; rw [List.getElem?_eq_getElem h]; rfl
theorem at2_in {I : Ctx} {A : Option Addr} {n c : Nat} {l : List UInt8} {i : Nat} (hr : RdB I A n l) (hn : n ≤ c) (hc : n ≤ maxLen) (hi : i + 2 ≤ l.length) (hi2 : i < 1000000) :
    Fn Try.prog 33 #[.slice A n c, .int .i64 (i : Int)] I [] (fun v h' => v = .int .i64 (num l i 2 : Nat) ∧ h' = []) := by
  have hlt := num_lt l i 2
  refine r_babelpkt_at2 _ _ _ _ ?_
  refine h_call0 (getL [{ i := (num l i 2 : Nat) }, { b := true }]) ca_num_Get16 (fun hl => get16_in (hr.up (Sub.self.up hl)) hn hc hi hi2) rfl ?_
  dsimp only [getL]
  refine h_end0 ⟨?_, rfl⟩
  rw [wrap64 (by omega)]
theorem RdB.seg {I : Ctx} {A : Option Addr} {n c : Nat} {l : List UInt8} (h : RdB I A n l) {i k : Nat} (hi : i + k ≤ n) (hc : n ≤ c) : RdB I (cutA A i c 1) k ((l.drop i).take k) := by
  have := h.cut (i := i) (u := i + k) (m := c) (by omega) hi hc
  rwa [show i + k - i = k by omega] at this
/-- The number of eight bytes at a place. -/
def num8N (l : List UInt8) (i : Nat) : Nat := num l i 4 * 4294967296 + num l (i + 4) 4
theorem num8_lt (l : List UInt8) (i : Nat) : num8N l i < 18446744073709551616 := by
  have h1 := num_lt l i 4
  have h2 := num_lt l (i + 4) 4
  unfold num8N; omega
theorem or_64 (x y : Nat) (hx : x < 4294967296) (hy : y < 4294967296) : bitop .or .u64 (IntKind.wrap .u64 ((IntKind.wrap .u64 (x : Int)) * 2 ^ 32)) (IntKind.wrap .u64 (y : Int)) = ((x * 4294967296 + y : Nat) : Int) := by
  have hw : ∀ n : Nat, n < 18446744073709551616 → IntKind.wrap .u64 (n : Int) = (n : Int) := fun n hn => by
    show (n : Int) % 18446744073709551616 = _; omega
  rw [hw x (by omega), hw y (by omega), show ((x : Int) * 2 ^ 32) = ((x * 4294967296 : Nat) : Int) by omega, hw _ (by omega)]
  show IntKind.u64.wrap ((BitVec.ofInt 64 ((x * 4294967296 : Nat) : Int) ||| BitVec.ofInt 64 (y : Int)).toNat : Int) = _
  rw [BitVec.toNat_or, BitVec.ofInt_natCast, BitVec.ofInt_natCast, BitVec.toNat_ofNat, BitVec.toNat_ofNat, Nat.mod_eq_of_lt (by omega), Nat.mod_eq_of_lt (by omega)]
  have h3 : x * 4294967296 ||| y = x * 4294967296 + y := by
    have := Nat.shiftLeft_add_eq_or_of_lt (i := 32) (b := y) (by omega) x
    rw [Nat.shiftLeft_eq] at this
    exact this.symm
  rw [h3]
  exact hw _ (by omega)
theorem at8_in {I : Ctx} {A : Option Addr} {n c : Nat} {l : List UInt8} {i : Nat} (hr : RdB I A n l) (hn : n ≤ c) (hc : n ≤ maxLen) (hi : i + 8 ≤ l.length) (hi2 : i < 1000) :
    Fn Try.prog 62 #[.slice A n c, .int .i64 (i : Int)] I [] (fun v h' => v = .int .u64 (num8N l i : Nat) ∧ h' = []) := by
  have h1 := num_lt l i 4
  have h2 := num_lt l (i + 4) 4
  refine r_babelpkt_at8 _ _ _ _ ?_
  refine h_call0 (getL [{ i := (num l i 4 : Nat) }, { b := true }]) ca_num_Get32 (fun hl => get32_in (hr.up (Sub.self.up hl)) hn hc (by omega) (by omega)) rfl ?_
  dsimp only [getL]
  rw [wrap64 (x := (i : Int) + 4) (by omega), show (i : Int) + 4 = ((i + 4 : Nat) : Int) by omega]
  refine h_call0 (getL [{ i := (num l (i + 4) 4 : Nat) }, { b := true }]) ca_num_Get32 (fun hl => get32_in (hr.up (Sub.self.up hl)) hn hc (by omega) (by omega)) rfl ?_
  dsimp only [getL]
  refine h_end0 ⟨?_, rfl⟩
  rw [or_64 _ _ h1 h2]
  rfl
/-- Bytes filled up to four. -/
def padB (l : List UInt8) : List UInt8 := l.take 4 ++ ([0, 0, 0, 0] : List UInt8).drop l.length
theorem padB_len (l : List UInt8) : (padB l).length = 4 := by
  unfold padB
  simp only [List.length_append, List.length_take, List.length_drop, List.length_cons, List.length_nil]
  omega
def prefV (l : List UInt8) : Nat := val (padB l)
theorem prefV_lt (l : List UInt8) : prefV l < 4294967296 := by
  have h1 := val_lt (padB l)
  rw [padB_len] at h1
  exact h1
theorem num_all {l : List UInt8} (h : l.length = 4) : num l 0 4 = val l := by
  unfold num
  rw [List.drop_zero, List.take_of_length_le (by omega)]
theorem pad_arr (l : List UInt8) (n : Nat) (h : l.length = n) : wr #[.int .u8 0, .int .u8 0, .int .u8 0, .int .u8 0] 0 ((bC l).take (min n 4 * 1)) = ⟨bC (padB l)⟩ := by
  have h1 : (bC l).take (min n 4 * 1) = bC (l.take 4) := by
    rw [bC_take, Nat.mul_one, ← h]
    congr 1
    apply List.ext_getElem?
    intro q
    simp only [List.getElem?_take]
    by_cases hq : q < 4
    · by_cases hq2 : q < l.length
      · rw [if_pos (by omega), if_pos hq]
      · rw [if_neg (by omega), if_pos hq, List.getElem?_eq_none (by omega)]
    · rw [if_neg (by omega), if_neg hq]
  have h2 : wrL (bC [0, 0, 0, 0]) 0 (bC (l.take 4)) = bC (padB l) := by
    rw [wr_bytes]
    unfold padB
    have : ([0, 0, 0, 0] : List UInt8).drop (0 + (l.take 4).length) = ([0, 0, 0, 0] : List UInt8).drop l.length := by
      rw [List.length_take]
      by_cases hq : l.length ≤ 4
      · rw [Nat.min_eq_right hq, Nat.zero_add]
      · rw [Nat.min_eq_left (by omega), List.drop_eq_nil_of_le (by simp), List.drop_eq_nil_of_le (by simp; omega)]
    rw [this]
    rfl
  rw [h1, ← h2]
  rfl
theorem prefixOf_spec {I : Ctx} {A : Option Addr} {k c : Nat} {l : List UInt8} {n : Int} (hr : RdB I A k l) (hk : k ≤ c) (hn : 0 ≤ n ∧ n ≤ 255) :
    Fn Try.prog 63 #[.int .i64 n, .slice A k c] I [] (fun v h' => v = .tuple #[.agg #[.int .u32 (prefV l : Nat), .int .i64 n], .bool (decide (l.length = nd n) && mayB (prefV l) n)] ∧ h' = []) := by
  have hlen := hr.len
  have hlt := prefV_lt l
  refine r_babelpkt_prefixOf _ _ _ _ ?_
  (repeat ((first | ((with_reducible show holds _ _ _ _ (.sem (Instr.alloc 34 _ _) _ _) _); refine h_alloc zb_Prefix fun _ _ _ => ?_) | ((with_reducible show holds _ _ _ _ (.sem (Instr.alloc 87 _ _) _ _) _); refine h_alloc zb_4_uint8 fun _ _ _ => ?_) | ((with_reducible show holds _ _ _ _ (.rd (Instr.loadAt _ (.pointer _)) _ _) _); refine la1 (by repeat (first | exact mq0 | apply mq1 | apply mq2)) (by rfl) (by kernel_rfl) ?_) | ((with_reducible show holds _ _ _ _ (.rd (loadVar _ _) _ _) _); refine lv1 (by repeat (first | exact mq0 | apply mq1 | apply mq2)) (by rfl) (by kernel_rfl) ?_) | ((with_reducible show holds _ _ _ _ (.unit (Instr.storeAt _ _ _) _) _); refine stU (by repeat (first | exact Upd.here | apply Upd.there | apply Upd.right)) (by kernel_rfl) (by rfl) (by simp [Value.cells]) ?_) | ((with_reducible show holds _ _ _ _ (.pin (vN (Instr.loadAt _ _)) _ _) _); first | refine pnA (by repeat (first | exact mq0 | apply mq1 | apply mq2)) (by rfl) (by kernel_rfl) ?_ | refine pn1 (by repeat (first | exact mq0 | apply mq1 | apply mq2)) (by rfl) (by kernel_rfl) ?_)); try dsimp only [getL]))
  refine h_cutArr (n := 4) (e := 5) (sz := 1) (by kernel_rfl) (by kernel_rfl) ?_
  dsimp only
  refine h_copyU (e := 5) (sz := 1) (by kernel_rfl) (by kernel_rfl) Upd.here (hr.rd.sub Sub.self) hr.nil (by simpa using hlen) (by show 0 + min k 4 * 1 ≤ 4; omega) (fun u hu => bC_plain _ u hu) ?_
  dsimp only [Value.cells]
  rw [pad_arr l k hlen]
  refine h_cutArr (n := 4) (e := 5) (sz := 1) (by kernel_rfl) (by kernel_rfl) ?_
  dsimp only
  have hp4 := padB_len l
  refine h_call0 (getL [{ i := (prefV l : Nat) }, { b := true }]) ca_num_Get32 (fun hl => ?_) rfl ?_
  · have h1 := get32_in (I := plus I _) (A := some ⟨_, 0, none⟩) (n := 4) (c := 4) (l := padB l) (i := 0) ⟨hp4, (fun e => nomatch e), RdC.all (cs := bC (padB l)) hl (fun _ => ⟨_, rfl, cellsM' (cs := bC (padB l)) (off := 0) (by repeat (first | exact mq0 | apply mq1 | apply mq2)) (by rw [List.drop_zero, List.take_length])⟩)⟩ (by omega) (by decide) (by omega) (by omega)
    rw [num_all hp4] at h1
    exact h1
  dsimp only [getL]
  (repeat ((first | ((with_reducible show holds _ _ _ _ (.sem (Instr.alloc 34 _ _) _ _) _); refine h_alloc zb_Prefix fun _ _ _ => ?_) | ((with_reducible show holds _ _ _ _ (.sem (Instr.alloc 87 _ _) _ _) _); refine h_alloc zb_4_uint8 fun _ _ _ => ?_) | ((with_reducible show holds _ _ _ _ (.rd (Instr.loadAt _ (.pointer _)) _ _) _); refine la1 (by repeat (first | exact mq0 | apply mq1 | apply mq2)) (by rfl) (by kernel_rfl) ?_) | ((with_reducible show holds _ _ _ _ (.rd (loadVar _ _) _ _) _); refine lv1 (by repeat (first | exact mq0 | apply mq1 | apply mq2)) (by rfl) (by kernel_rfl) ?_) | ((with_reducible show holds _ _ _ _ (.unit (Instr.storeAt _ _ _) _) _); refine stU (by repeat (first | exact Upd.here | apply Upd.there | apply Upd.right)) (by kernel_rfl) (by rfl) (by simp [Value.cells]) ?_) | ((with_reducible show holds _ _ _ _ (.pin (vN (Instr.loadAt _ _)) _ _) _); first | refine pnA (by repeat (first | exact mq0 | apply mq1 | apply mq2)) (by rfl) (by kernel_rfl) ?_ | refine pn1 (by repeat (first | exact mq0 | apply mq1 | apply mq2)) (by rfl) (by kernel_rfl) ?_)); try dsimp only [getL]))
  refine h_call0 (v := .int .i64 (nd n : Nat)) (fun _ => { i := (nd n : Nat) }) ca_babelpkt_needs (fun hl => babelpkt_needs_nd (by omega)) rfl ?_
  dsimp only
  (repeat ((first | ((with_reducible show holds _ _ _ _ (.sem (Instr.alloc 34 _ _) _ _) _); refine h_alloc zb_Prefix fun _ _ _ => ?_) | ((with_reducible show holds _ _ _ _ (.sem (Instr.alloc 87 _ _) _ _) _); refine h_alloc zb_4_uint8 fun _ _ _ => ?_) | ((with_reducible show holds _ _ _ _ (.rd (Instr.loadAt _ (.pointer _)) _ _) _); refine la1 (by repeat (first | exact mq0 | apply mq1 | apply mq2)) (by rfl) (by kernel_rfl) ?_) | ((with_reducible show holds _ _ _ _ (.rd (loadVar _ _) _ _) _); refine lv1 (by repeat (first | exact mq0 | apply mq1 | apply mq2)) (by rfl) (by kernel_rfl) ?_) | ((with_reducible show holds _ _ _ _ (.unit (Instr.storeAt _ _ _) _) _); refine stU (by repeat (first | exact Upd.here | apply Upd.there | apply Upd.right)) (by kernel_rfl) (by rfl) (by simp [Value.cells]) ?_) | ((with_reducible show holds _ _ _ _ (.pin (vN (Instr.loadAt _ _)) _ _) _); first | refine pnA (by repeat (first | exact mq0 | apply mq1 | apply mq2)) (by rfl) (by kernel_rfl) ?_ | refine pn1 (by repeat (first | exact mq0 | apply mq1 | apply mq2)) (by rfl) (by kernel_rfl) ?_)); try dsimp only [getL]))
  refine h_ite (fun t0 => ?_) (fun t0 => ?_)
  · have e : l.length = nd n := by simp at t0; omega
    (repeat ((first | ((with_reducible show holds _ _ _ _ (.sem (Instr.alloc 34 _ _) _ _) _); refine h_alloc zb_Prefix fun _ _ _ => ?_) | ((with_reducible show holds _ _ _ _ (.sem (Instr.alloc 87 _ _) _ _) _); refine h_alloc zb_4_uint8 fun _ _ _ => ?_) | ((with_reducible show holds _ _ _ _ (.rd (Instr.loadAt _ (.pointer _)) _ _) _); refine la1 (by repeat (first | exact mq0 | apply mq1 | apply mq2)) (by rfl) (by kernel_rfl) ?_) | ((with_reducible show holds _ _ _ _ (.rd (loadVar _ _) _ _) _); refine lv1 (by repeat (first | exact mq0 | apply mq1 | apply mq2)) (by rfl) (by kernel_rfl) ?_) | ((with_reducible show holds _ _ _ _ (.unit (Instr.storeAt _ _ _) _) _); refine stU (by repeat (first | exact Upd.here | apply Upd.there | apply Upd.right)) (by kernel_rfl) (by rfl) (by simp [Value.cells]) ?_) | ((with_reducible show holds _ _ _ _ (.pin (vN (Instr.loadAt _ _)) _ _) _); first | refine pnA (by repeat (first | exact mq0 | apply mq1 | apply mq2)) (by rfl) (by kernel_rfl) ?_ | refine pn1 (by repeat (first | exact mq0 | apply mq1 | apply mq2)) (by rfl) (by kernel_rfl) ?_)); try dsimp only [getL]))
    refine h_call0 (fun _ => { b := mayB (prefV l) n }) ca_prefix_May (fun hl => may_spec hlt (by omega)) rfl ?_
    dsimp only
    (repeat ((first | ((with_reducible show holds _ _ _ _ (.sem (Instr.alloc 34 _ _) _ _) _); refine h_alloc zb_Prefix fun _ _ _ => ?_) | ((with_reducible show holds _ _ _ _ (.sem (Instr.alloc 87 _ _) _ _) _); refine h_alloc zb_4_uint8 fun _ _ _ => ?_) | ((with_reducible show holds _ _ _ _ (.rd (Instr.loadAt _ (.pointer _)) _ _) _); refine la1 (by repeat (first | exact mq0 | apply mq1 | apply mq2)) (by rfl) (by kernel_rfl) ?_) | ((with_reducible show holds _ _ _ _ (.rd (loadVar _ _) _ _) _); refine lv1 (by repeat (first | exact mq0 | apply mq1 | apply mq2)) (by rfl) (by kernel_rfl) ?_) | ((with_reducible show holds _ _ _ _ (.unit (Instr.storeAt _ _ _) _) _); refine stU (by repeat (first | exact Upd.here | apply Upd.there | apply Upd.right)) (by kernel_rfl) (by rfl) (by simp [Value.cells]) ?_) | ((with_reducible show holds _ _ _ _ (.pin (vN (Instr.loadAt _ _)) _ _) _); first | refine pnA (by repeat (first | exact mq0 | apply mq1 | apply mq2)) (by rfl) (by kernel_rfl) ?_ | refine pn1 (by repeat (first | exact mq0 | apply mq1 | apply mq2)) (by rfl) (by kernel_rfl) ?_)); try dsimp only [getL]))
    refine h_end0 ⟨?_, rfl⟩
    rw [decide_eq_true e, Bool.true_and]
  · have e : ¬ l.length = nd n := by simp at t0; omega
    (repeat ((first | ((with_reducible show holds _ _ _ _ (.sem (Instr.alloc 34 _ _) _ _) _); refine h_alloc zb_Prefix fun _ _ _ => ?_) | ((with_reducible show holds _ _ _ _ (.sem (Instr.alloc 87 _ _) _ _) _); refine h_alloc zb_4_uint8 fun _ _ _ => ?_) | ((with_reducible show holds _ _ _ _ (.rd (Instr.loadAt _ (.pointer _)) _ _) _); refine la1 (by repeat (first | exact mq0 | apply mq1 | apply mq2)) (by rfl) (by kernel_rfl) ?_) | ((with_reducible show holds _ _ _ _ (.rd (loadVar _ _) _ _) _); refine lv1 (by repeat (first | exact mq0 | apply mq1 | apply mq2)) (by rfl) (by kernel_rfl) ?_) | ((with_reducible show holds _ _ _ _ (.unit (Instr.storeAt _ _ _) _) _); refine stU (by repeat (first | exact Upd.here | apply Upd.there | apply Upd.right)) (by kernel_rfl) (by rfl) (by simp [Value.cells]) ?_) | ((with_reducible show holds _ _ _ _ (.pin (vN (Instr.loadAt _ _)) _ _) _); first | refine pnA (by repeat (first | exact mq0 | apply mq1 | apply mq2)) (by rfl) (by kernel_rfl) ?_ | refine pn1 (by repeat (first | exact mq0 | apply mq1 | apply mq2)) (by rfl) (by kernel_rfl) ?_)); try dsimp only [getL]))
    refine h_end0 ⟨?_, rfl⟩
    rw [decide_eq_false e, Bool.false_and]
end Go.Proofs.YtcfnliodgoenkaaS
