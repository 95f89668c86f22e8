/- Shifts, and numbers as bytes. -/
import Derived.Test.YtcafalcmfdnojaaDoorSR
set_option linter.unusedVariables false
namespace Go.Proofs.YtcafalcmfdnojaaDoorS
section
variable {P : Program} {I : Ctx} {f : Ctl} {Q : Value → Mem → Prop} {h : Mem} {sh : Sh} {k : (Nat → Leaf) → Tr}
theorem h_shr {t : TypeId} {ik yk : IntKind} {x y : Int} (hy : 0 ≤ y) (hk : holds P f I Q (k fun _ => { i := x.fdiv (2 ^ (min y.toNat ik.bits)) }) h) : holds P f I Q (.rdn (binN .shr t (.int ik x) (.int yk y)) (.one (.sc (.int ik))) k) h := by
  refine h_rdn _ ?_ hk
  unfold binN
  refine rwp_vN ?_
  refine rwp_still (a := ()) rfl ?_
  show rwp P I h (Op.shift .shr ik x yk y) _
  unfold Op.shift
  rw [if_neg (by omega)]
  rfl
theorem h_shl {t : TypeId} {ik yk : IntKind} {x y : Int} (hy : 0 ≤ y) (hk : holds P f I Q (k fun _ => { i := ik.wrap (x * 2 ^ (min y.toNat ik.bits)) }) h) : holds P f I Q (.rdn (binN .shl t (.int ik x) (.int yk y)) (.one (.sc (.int ik))) k) h := by
  refine h_rdn _ ?_ hk
  unfold binN
  refine rwp_vN ?_
  refine rwp_still (a := ()) rfl ?_
  show rwp P I h (Op.shift .shl ik x yk y) _
  unfold Op.shift
  rw [if_neg (by omega)]
  rfl
/-- Noughts behind nothing. -/
theorem h_appendN {ts tx e ty : TypeId} {sz by_ : Nat} {z : Value} {cons : Array Bool} {ik xk : IntKind} (hb : ElemB P ts e sz by_ z) (hx : P.underlying tx = some (.int xk)) {n : Nat} (hn : 0 < n) (hbd : n * by_ ≤ 140737488355328) (hby : 0 < by_)
    (hk : ∀ g c o, g ∉ keys h → I g = none → Own e sz (some ⟨g, 0, none⟩) n c (Builtin.zeroCells z.cells n).toList [(g, o)] → holds P f I Q (k fun _ => { A := some ⟨g, 0, none⟩, n := n, c := c }) ((g, o) :: h)) :
    holds P f I Q (.nx (builtin .append #[ts, tx] ty cons #[.slice none 0 0, .int ik (n : Int)]) shSl k) h := by
  intro _
  obtain ⟨ti, hi, hti1, hti2, hti3⟩ := hb.info
  have hsz : sizeB P e = some sz := by simp [sizeB, hi, hti1]
  have hz : zeroB P e = some z := by simp [zeroB, hi, hti3]
  have hn63 : n ≤ 140737488355328 := Nat.le_trans (Nat.le_mul_of_pos_right n hby) hbd
  refine swp_vN ?_
  show swp P I (Builtin.append_ #[ts, tx] ty #[.slice none 0 0, .int ik (n : Int)]) h _
  unfold Builtin.append_
  simp only [List.getElem?_toArray, List.getElem?_cons_zero, List.getElem?_cons_succ]
  refine swp_still (still_underlying hb.u) ?_
  simp only []
  refine swp_still (still_size hsz) ?_
  refine swp_still (still_underlying hx) ?_
  refine swp_still (a := true) rfl ?_
  show swp P I (if true = true then _ else _) h _
  rw [if_pos rfl]
  refine swp_still (a := (n : Int)) rfl ?_
  have hw : IntKind.i64.wrap (n : Int) = n := wrap64 (by omega)
  rw [hw]
  rw [if_neg (by omega)]
  refine swp_still (still_typeInfo hi) ?_
  rw [hti2]
  have hle : (n : Int) * (by_ : Int) ≤ 140737488355328 := by rw [← Int.natCast_mul]; omega
  rw [if_neg (by omega)]
  refine swp_still (a := n) (by show some ((n : Int).toNat) = some n; simp) ?_
  show swp P I (if 0 + n ≤ 0 then _ else _) h _
  rw [if_neg (by omega)]
  have hgf := growslice_fits (old := 0) (need := 0 + n) (bytes := by_) (by omega) (by simpa using hbd)
  refine swp_still (still_typeInfo hi) ?_
  rw [hti2]
  have hmx : ¬ (((0 + n : Nat) : Int) > IntKind.i64.max) := by
    show ¬ (((0 + n : Nat) : Int) > 9223372036854775807)
    omega
  rw [if_neg (fun hh => hmx hh.1)]
  refine swp_still (still_typeInfo hi) ?_
  rw [hti2]
  rw [if_neg (by omega)]
  rw [swp_bind]
  refine ⟨fun hfo => by simp [Question.forced] at hfo, fun _ t => ?_⟩
  have hcap : ∃ q, (Question.appendCap (0 + n) 0 e).cut t = 0 + n + q := ⟨t % (2 ^ 63 - (0 + n)), rfl⟩
  obtain ⟨q, hq⟩ := hcap
  rw [hq]
  show swp P I (typeInfo e >>= fun _ => _) h _
  refine swp_still (still_typeInfo hi) ?_
  rw [swp_bind]
  have hask : ∀ (y : Nat) (R : Unit → Mem → Prop), R () h → swp P I (askRoom y) h R := by
    intro y R hr
    unfold askRoom
    split
    · exact hr
    · exact hr
  refine hask _ _ ?_
  refine swp_still (a := #[]) rfl ?_
  show swp P I ((if (!true) = true then Builtin.firstCells sz n (.int ik (n : Int)) else if n * sz = 0 then (pure #[] : Sem (Array Value)) else do pure (Builtin.zeroCells (← zeroValue e).cells n)) >>= fun _ => _) h _
  rw [if_neg (by simp)]
  have fin : swp P I ((do let w ← zeroValue e
                          let r ← newRow e (#[] ++ Builtin.zeroCells z.cells n ++ Builtin.zeroCells w.cells (0 + n + q - (0 + n)))
                          pure (Value.slice (some r) (0 + n) (0 + n + q))) : Sem Value) h (fun v h' => ∃ l, Next.value v = .value (shSl.val l) ∧ holds P f I Q (k l) h') := by
    refine swp_still (still_zero hz) ?_
    rw [swp_bind]
    intro g hg hI
    refine ⟨fun _ => { A := some ⟨g, 0, none⟩, n := n, c := n + q }, by simp [Sh.val, Sh1.val, Sc.val], hk g (n + q) _ hg hI ⟨by rw [Array.length_toList, size_zeroCells, hb.z], by omega, .inr ⟨g, _, rfl, rfl, ?_, ?_⟩⟩⟩
    · simp only [Array.size_append, size_zeroCells, hb.z, List.size_toArray, List.length_nil, Nat.zero_add]
      rw [← Nat.add_mul, show n + (n + q - n) = n + q by omega]
    · have h1 : (Builtin.zeroCells z.cells n).toList.length = n * sz := by rw [Array.length_toList, size_zeroCells, hb.z]
      simp only [Array.toList_append, List.nil_append]
      rw [List.take_append_of_le_length (by omega), List.take_of_length_le (by omega)]
  by_cases h0 : n * sz = 0
  · rw [if_pos h0]
    have h1 : Builtin.zeroCells z.cells n = #[] := Array.eq_empty_of_size_eq_zero (by rw [size_zeroCells, hb.z, h0])
    rw [h1] at fin
    exact fin
  · rw [if_neg h0, swp_bind]
    refine swp_still (still_zero hz) ?_
    exact fin
theorem wrap8 {x : Int} : IntKind.u8.wrap x = x % 256 := rfl
theorem wrap16 {x : Int} : IntKind.u16.wrap x = x % 65536 := rfl
theorem wrap32 {x : Int} : IntKind.u32.wrap x = x % 4294967296 := rfl
theorem wrap32n {n : Nat} (h : n < 4294967296) : IntKind.u32.wrap (n : Int) = n := by rw [wrap32]; omega
theorem wrap16n {n : Nat} (h : n < 65536) : IntKind.u16.wrap (n : Int) = n := by rw [wrap16]; omega
theorem fdiv_pow (n m : Nat) : (n : Int).fdiv (2 ^ m) = ((n / 2 ^ m : Nat) : Int) := by
  rw [Int.fdiv_eq_ediv_of_nonneg _ (by exact Int.pow_nonneg (by decide))]
  simp
theorem bS_append (x y : List UInt8) : bS x ++ bS y = bS (x ++ y) := by
  apply ByteArray.ext
  simp [bS]
theorem bS_size (x : List UInt8) : (bS x).size = x.length := by simp [bS, ByteArray.size]
theorem h_addS {t : TypeId} {x y : List UInt8} (hb : x.length + y.length ≤ 1000000000000) (hk : holds P f I Q (k fun _ => { s := bS (x ++ y) }) h) : holds P f I Q (.rdn (binN .add t (.string (bS x)) (.string (bS y))) (.one (.sc .str)) k) h := by
  refine h_rdn _ ?_ hk
  unfold binN
  refine rwp_vN ?_
  refine rwp_still (a := ()) rfl ?_
  show rwp P I h (Op.stringOp .add (bS x) (bS y)) _
  unfold Op.stringOp
  simp only []
  rw [bS_size, bS_size, if_neg (by show ¬ (((x.length + y.length : Nat) : Int) > 9223372036854775807); omega), bS_append]
  rfl
/-- A number as so many bytes, the greatest one ahead. -/
def be : Nat → Nat → List UInt8
  | 0, _ => []
  | k + 1, n => UInt8.ofNat (n / 256 ^ k) :: be k n
@[simp] theorem be_length (k n : Nat) : (be k n).length = k := by
  induction k with
  | zero => rfl
  | succ k ih => simp [be, ih]
/-- The number that bytes are. -/
def val (l : List UInt8) : Nat := l.foldl (fun a b => a * 256 + b.toNat) 0
theorem val_snoc (l : List UInt8) (b : UInt8) : val (l ++ [b]) = val l * 256 + b.toNat := by simp [val]
theorem snoc_ind {α : Type} {p : List α → Prop} (h0 : p []) (h1 : ∀ l a, p l → p (l ++ [a])) (l : List α) : p l := by
  have key : ∀ m : List α, p m.reverse := by
    intro m
    induction m with
    | nil => exact h0
    | cons a m ih => rw [List.reverse_cons]; exact h1 _ _ ih
  have := key l.reverse
  rwa [List.reverse_reverse] at this
theorem val_lt (l : List UInt8) : val l < 256 ^ l.length := by
  refine snoc_ind (p := fun l => val l < 256 ^ l.length) (by simp [val]) (fun l b ih => ?_) l
  rw [val_snoc, List.length_append, List.length_singleton, Nat.pow_succ]
  have := b.toNat_lt
  omega
theorem toNat_ofNat' (n : Nat) : (UInt8.ofNat n).toNat = n % 256 := by simp
theorem be_snoc (k n : Nat) : be (k + 1) n = be k (n / 256) ++ [UInt8.ofNat n] := by
  induction k with
  | zero => simp [be]
  | succ k ih =>
    rw [be, ih, be, Nat.div_div_eq_div_mul, show 256 * 256 ^ k = 256 ^ (k + 1) by rw [Nat.pow_succ, Nat.mul_comm]]
    rfl
theorem val_be (k n : Nat) : val (be k n) = n % 256 ^ k := by
  induction k generalizing n with
  | zero => simp [be, val, Nat.mod_one]
  | succ k ih =>
    rw [be_snoc, val_snoc, ih, toNat_ofNat']
    have h1 : n % 256 ^ (k + 1) = n % 256 + 256 * (n / 256 % 256 ^ k) := by rw [Nat.pow_succ, Nat.mul_comm (256 ^ k), Nat.mod_mul]
    omega
theorem be_val (l : List UInt8) : be l.length (val l) = l := by
  refine snoc_ind (p := fun l => be l.length (val l) = l) rfl (fun l b ih => ?_) l
  rw [List.length_append, List.length_singleton, be_snoc, val_snoc]
  have h1 : (val l * 256 + b.toNat) / 256 = val l := by have := b.toNat_lt; omega
  have h2 : UInt8.ofNat (val l * 256 + b.toNat) = b := by
    apply UInt8.toNat_inj.1
    rw [toNat_ofNat']
    have := b.toNat_lt
    omega
  rw [h1, h2, ih]
theorem zeros_take (n i : Nat) (h : i ≤ n) : (bC (List.replicate n 0)).take i = bC (List.replicate i 0) := by
  simp [bC, List.take_replicate, Nat.min_eq_left h]
theorem zero_bytes (n : Nat) : (Builtin.zeroCells #[.int .u8 0] n).toList = bC (List.replicate n 0) := by
  simp only [Builtin.zeroCells, bC, List.map_replicate, Array.toList_map, Array.toList_range, List.size_toArray, List.length_singleton, Nat.mul_one, Nat.mod_one]
  apply List.ext_getElem?
  intro i
  simp [List.getElem?_replicate, List.getElem?_range]
  split <;> simp_all
/-- A byte written ahead of those that are behind. -/
theorem wr_byte (m : Nat) (b : UInt8) (l : List UInt8) : wrL (bC (List.replicate (m + 1) 0 ++ l)) m [.int .u8 (b.toNat : Int)] = bC (List.replicate m 0 ++ (b :: l)) := by
  unfold wrL
  have h1 : List.replicate (m + 1) (0 : UInt8) ++ l = List.replicate m 0 ++ (0 :: l) := by rw [List.replicate_succ']; simp
  have h2 : (bC (List.replicate m (0 : UInt8))).length = m := by simp
  rw [h1, bC_append, List.take_append_of_le_length (by omega), List.take_of_length_le (by omega), List.append_assoc, bC_append]
  congr 1
  rw [List.drop_append, List.drop_of_length_le (by simp), h2]
  simp [bC]
/-- A number with a byte behind it. -/
theorem or_byte (x : Nat) (b : UInt8) (hx : x < 16777216) : bitop .or .u32 (IntKind.wrap .u32 ((x : Int) * 2 ^ 8)) (IntKind.wrap .u32 (b.toNat : Int)) = ((x * 256 + b.toNat : Nat) : Int) := by
  have hb := b.toNat_lt
  have h1 : IntKind.wrap .u32 ((x : Int) * 2 ^ 8) = ((x * 256 : Nat) : Int) := by rw [wrap32]; omega
  have h2 : IntKind.wrap .u32 (b.toNat : Int) = ((b.toNat : Nat) : Int) := by rw [wrap32]; omega
  rw [h1, h2]
  show IntKind.u32.wrap ((BitVec.ofInt 32 ((x * 256 : Nat) : Int) ||| BitVec.ofInt 32 ((b.toNat : Nat) : Int)).toNat : Int) = _
  rw [BitVec.toNat_or, BitVec.ofInt_natCast, BitVec.ofInt_natCast, BitVec.toNat_ofNat, BitVec.toNat_ofNat, Nat.mod_eq_of_lt (by omega), Nat.mod_eq_of_lt (by omega)]
  have h3 : x * 256 ||| b.toNat = x * 256 + b.toNat := by
    have := Nat.shiftLeft_add_eq_or_of_lt (i := 8) (b := b.toNat) (by omega) x
    rw [Nat.shiftLeft_eq] at this
    exact this.symm
  rw [h3]
  exact wrap32n (by omega)
end
end Go.Proofs.YtcafalcmfdnojaaDoorS
