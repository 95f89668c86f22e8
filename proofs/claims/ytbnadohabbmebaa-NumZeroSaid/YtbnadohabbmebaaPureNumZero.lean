/-
Bytes of an even number, with their checksum behind them, have none; two bytes that change their places with two others leave it: of at most 3000 bytes, as the statement itself asks. No condition beyond the statement's own.
-/
import Derived.Test.YtbnadohabbmebaaPNumZerox2
import Derived.Laws.BitsAllLaws
namespace Go.Proofs.Ytbnadohabbmebaa.Pure
open Go.RowKit Go.Proofs.Ytbnadohabbmebaa.PNumZero Go.Proofs.YtbnadohabbmebaaW.PrintWords Go.Proofs.YtbnadohabbmebaaW.PrintLast Go.Proofs.YtbnadohabbmebaaW.PrintMore

theorem byte_of {x : Int} (h : (Lit.int .u8 x).wf = true) : 0 ≤ x ∧ x ≤ 255 := by
  simp [Lit.wf, IntKind.min, IntKind.max, IntKind.bits, IntKind.signed] at h
  omega
theorem u16_of {x : Int} (h : (Lit.int .u16 x).wf = true) : 0 ≤ x ∧ x ≤ 65535 := by
  simp [Lit.wf, IntKind.min, IntKind.max, IntKind.bits, IntKind.signed] at h
  omega
theorem u32_of {x : Int} (h : (Lit.int .u32 x).wf = true) : 0 ≤ x ∧ x ≤ 4294967295 := by
  simp [Lit.wf, IntKind.min, IntKind.max, IntKind.bits, IntKind.signed] at h
  omega
theorem i64_of {x : Int} (h : (Lit.int .i64 x).wf = true) : -9223372036854775808 ≤ x ∧ x ≤ 9223372036854775807 := by
  simp [Lit.wf, IntKind.min, IntKind.max, IntKind.bits, IntKind.signed] at h
  omega
theorem w64 {x : Int} (h : -9223372036854775808 ≤ x ∧ x ≤ 9223372036854775807) : wrap64 x = x := by unfold wrap64; omega
theorem wrap64_eq (x : Int) : wrap64 x = (x + 9223372036854775808) % 18446744073709551616 - 9223372036854775808 := by unfold wrap64; rfl
theorem wu16 (x : Int) : IntKind.u16.wrap x = x % 65536 := IntKind.wrap_u16 x
theorem awake_now : octroilaw01_awake.f 30 = some true := by decide +kernel
theorem awake_ev : Ev octroilaw01_awake.f true := Ev.of octroilaw01_awake.mono awake_now
theorem of_ev {g : Nat → Option Bool} (h : Ev g true) : ∃ k, g k = some true := h.rounds

def wt (i : Nat) : Int := if i % 2 = 0 then 256 else 1
/-- The sum of the first n bytes, two by two. -/
def ps (l : List Int) : Nat → Int
  | 0 => 0
  | n + 1 => ps l n + rd l n * wt n
/-- What is left when all that goes over 16 bits has been added again. -/
def fold (n : Int) : Int := if n = 0 then 0 else (n - 1) % 65535 + 1
theorem rd_byte {l : List Int} (h : ∀ x ∈ l, 0 ≤ x ∧ x ≤ 255) (i : Int) : 0 ≤ rd l i ∧ rd l i ≤ 255 := by
  unfold rd
  rw [List.getD_eq_getElem?_getD]
  cases e : l[i.toNat]? with
  | none => simp
  | some x => simpa using h x (List.mem_of_getElem? e)
theorem wt_cases (i : Nat) : wt i = 256 ∨ wt i = 1 := by
  unfold wt
  split
  · exact .inl rfl
  · exact .inr rfl
theorem ps_bound {l : List Int} (h : ∀ x ∈ l, 0 ≤ x ∧ x ≤ 255) : ∀ n : Nat, 0 ≤ ps l n ∧ ps l n ≤ 65280 * n
  | 0 => by simp [ps]
  | n + 1 => by
    have ih := ps_bound h n
    have hb := rd_byte h n
    unfold ps
    rcases wt_cases n with e | e <;> rw [e] <;> omega
theorem ps_mono {l : List Int} (h : ∀ x ∈ l, 0 ≤ x ∧ x ≤ 255) (n : Nat) : ∀ m, n ≤ m → ps l n ≤ ps l m := by
  intro m
  induction m with
  | zero => intro hm; obtain rfl : n = 0 := by omega
            exact Int.le_refl _
  | succ m ih =>
    intro hm
    by_cases e : n = m + 1
    · subst e; exact Int.le_refl _
    · have := ih (by omega)
      have hb := rd_byte h m
      show ps l n ≤ ps l m + rd l m * wt m
      rcases wt_cases m with e | e <;> rw [e] <;> omega
theorem ps_zero (l : List Int) : ps l 0 = 0 := rfl
theorem ps_succ (l : List Int) (n : Nat) : ps l (n + 1) = ps l n + rd l n * wt n := rfl
attribute [irreducible] ps
theorem fold_step (n : Int) (h : n > 65535) : fold (n % 65536 + n / 65536) = fold n := by
  unfold fold
  rw [if_neg (by omega), if_neg (by omega)]
  omega
theorem fold_small (n : Int) (h : 0 ≤ n) (h2 : n ≤ 65535) : fold n = n := by
  unfold fold
  split <;> omega
theorem fold_bound (n : Int) (_h : 0 ≤ n) : 0 ≤ fold n ∧ fold n ≤ 65535 := by
  unfold fold
  split <;> omega
theorem mask16 (n : Int) (h : 0 ≤ n) (h2 : n < 18446744073709551616) : Go.bits .and .u64 n 65535 = n % 65536 := by
  rw [u64_and n 65535 h h2 (by omega) (by omega)]
  have : n.toNat &&& (65535 : Int).toNat = n.toNat % 65536 := Nat.and_two_pow_sub_one_eq_mod n.toNat 16
  rw [this]
  omega
theorem not16 (x : Int) (h : 0 ≤ x) (h2 : x ≤ 65535) : Go.bits .xor .u16 65535 x = 65535 - x := by
  rw [u16_xor 65535 x (by omega) (by omega) h (by omega)]
  have e : (65535 : Int).toNat ^^^ x.toNat = 65535 - x.toNat := by
    have hx : x.toNat < 2 ^ 16 := by omega
    have h1 : (BitVec.allOnes 16 ^^^ BitVec.ofNat 16 x.toNat).toNat = (~~~ (BitVec.ofNat 16 x.toNat)).toNat := by rw [BitVec.allOnes_xor]
    rw [BitVec.toNat_xor, BitVec.toNat_not, BitVec.toNat_allOnes, BitVec.toNat_ofNat, Nat.mod_eq_of_lt hx] at h1
    exact h1
  rw [e]
  omega
theorem wu64 (x : Int) (h : 0 ≤ x) (h2 : x < 18446744073709551616) : IntKind.u64.wrap x = x := IntWalk.u64_in x ⟨h, by omega⟩
theorem shl8 (x : Int) : shl .u64 x 8 = IntKind.u64.wrap (x * 256) := by
  have e : (2 : Int) ^ min (8 : Int).toNat (IntKind.bits .u64) = 256 := by decide
  unfold shl
  rw [e]
theorem shl0 (x : Int) : shl .u64 x 0 = IntKind.u64.wrap (x * 1) := by
  have e : (2 : Int) ^ min (0 : Int).toNat (IntKind.bits .u64) = 1 := by decide
  unfold shl
  rw [e]
theorem sum_l1 : ∀ (d : Nat) (n : Int), 0 ≤ n → n < 9223372036854775808 → n.toNat ≤ d → ∀ k, d < k → num_Sum.l1 k n = some (65535 - fold n) := by
  intro d
  induction d with
  | zero =>
    intro n h0 h1 hd k hk
    obtain ⟨k, rfl⟩ : ∃ m, k = m + 1 := ⟨k - 1, by omega⟩
    simp only [num_Sum.l1]
    rw [if_neg (by omega), wu16, not16 _ (by omega) (by omega), fold_small n h0 (by omega)]
    congr 1
    omega
  | succ d ih =>
    intro n h0 h1 hd k hk
    obtain ⟨k, rfl⟩ : ∃ m, k = m + 1 := ⟨k - 1, by omega⟩
    simp only [num_Sum.l1]
    by_cases h : n > 65535
    · rw [if_pos h, mask16 n h0 (by omega), wu64 _ (by omega) (by omega), ih _ (by omega) (by omega) (by omega) k (by omega), fold_step n h]
    · rw [if_neg h, wu16, not16 _ (by omega) (by omega), fold_small n h0 (by omega)]
      congr 1
      omega
theorem sum_l0 {l : List Int} (h : ∀ x ∈ l, 0 ≤ x ∧ x ≤ 255) (hl : l.length ≤ 100000) (M : Nat) (hM : (ps l l.length).toNat ≤ M) :
    ∀ (d i : Nat), i + d = l.length → ∀ k, d + M + 1 < k → num_Sum.l0 k (ps l i) l l.length i = some (65535 - fold (ps l l.length)) := by
  have hb := ps_bound h l.length
  intro d
  induction d with
  | zero =>
    intro i hi k hk
    obtain ⟨k, rfl⟩ : ∃ m, k = m + 1 := ⟨k - 1, by omega⟩
    simp only [num_Sum.l0]
    obtain rfl : i = l.length := by omega
    rw [if_neg (by omega)]
    exact sum_l1 M _ (by omega) (by omega) hM k (by omega)
  | succ d ih =>
    intro i hi k hk
    obtain ⟨k, rfl⟩ : ∃ m, k = m + 1 := ⟨k - 1, by omega⟩
    simp only [num_Sum.l0]
    have c1 : (i : Int) < (l.length : Int) := by omega
    have c2 : (0 : Int) ≤ (i : Int) := by omega
    have c3 : 0 ≤ 8 * (1 - (i : Int) % 2) := by omega
    have hr := rd_byte h i
    have hp := ps_bound h i
    rw [Int.tmod_eq_emod_of_nonneg c2, w64 (x := 1 - (i : Int) % 2) (by omega), w64 (x := 8 * (1 - (i : Int) % 2)) (by omega), w64 (x := (i : Int) + 1) (by omega), if_pos c1, if_pos c2, if_pos c1, if_pos c3, wu64 _ hr.1 (by omega)]
    have e4 : shl .u64 (rd l i) (8 * (1 - (i : Int) % 2)) = rd l i * wt i := by
      unfold wt
      by_cases e : i % 2 = 0
      · have : (8 * (1 - (i : Int) % 2)) = 8 := by omega
        rw [if_pos e, this, shl8, wu64 _ (by omega) (by omega)]
      · have : (8 * (1 - (i : Int) % 2)) = 0 := by omega
        rw [if_neg e, this, shl0, wu64 _ (by omega) (by omega)]
    have e5 : ps l i + rd l i * wt i = ps l (i + 1) := (ps_succ l i).symm
    have hp1 := ps_bound h (i + 1)
    rw [e4, e5, wu64 _ hp1.1 (by omega)]
    have := ih (i + 1) (by omega) k (by omega)
    rw [show ((i + 1 : Nat) : Int) = (i : Int) + 1 by omega] at this
    exact this
theorem sum_ev {l : List Int} (h : ∀ x ∈ l, 0 ≤ x ∧ x ≤ 255) (hl : l.length ≤ 100000) : Ev (fun k => num_Sum.f k l) (65535 - fold (ps l l.length)) :=
  by
  refine ⟨l.length + (ps l l.length).toNat + 2, fun k hk => ?_⟩
  have := sum_l0 h hl _ (Nat.le_refl _) l.length 0 (by omega) k (by omega)
  rw [ps_zero] at this
  exact this
theorem bytes_of {l : List Int} (h : ∀ x ∈ l, (Lit.int .u8 x).wf = true) : ∀ x ∈ l, 0 ≤ x ∧ x ≤ 255 := fun x hx => byte_of (h x hx)

theorem w_0 : wrap64 0 = 0 := by decide +kernel
theorem w_1 : wrap64 1 = 1 := by decide +kernel
theorem w_2 : wrap64 2 = 2 := by decide +kernel
theorem w_3 : wrap64 3 = 3 := by decide +kernel
theorem w_4 : wrap64 4 = 4 := by decide +kernel
theorem w_8 : wrap64 8 = 8 := by decide +kernel
theorem w_16 : wrap64 16 = 16 := by decide +kernel
theorem w_24 : wrap64 24 = 24 := by decide +kernel
theorem put_2 (n : Int) (h : 0 ≤ n) (h2 : n ≤ 65535) : num_put.f 10 n 2 = some [n / 256, n % 256] := by
  have s0 : shr .u32 n 0 = n := by
    have e : (2 : Int) ^ min (0 : Int).toNat (IntKind.bits .u32) = 1 := by decide
    unfold shr
    rw [e]
    omega
  have s8 : shr .u32 n 8 = n / 256 := by
    have e : (2 : Int) ^ min (8 : Int).toNat (IntKind.bits .u32) = 256 := by decide
    unfold shr
    rw [e]
  have hm : n / 256 % 256 = n / 256 := by omega
  unfold num_put.f
  simp [num_put.l0, w_0, w_1, w_2, w_8, s0, s8, hm]
theorem put_ev (n : Int) (h : 0 ≤ n) (h2 : n ≤ 65535) : Ev (fun k => num_Put16.f k n) [n / 256, n % 256] := by
  refine Ev.of (num_Put16.mono n) (k := 10) ?_
  unfold num_Put16.f
  rw [show n % 4294967296 = n by omega, put_2 n h h2]
  rfl
theorem rd_append_left {a b : List Int} {i : Nat} (h : i < a.length) : rd (a ++ b) i = rd a i := by
  unfold rd
  rw [List.getD_eq_getElem?_getD, List.getD_eq_getElem?_getD, List.getElem?_append_left (by omega)]
theorem rd_append_right {a b : List Int} {i : Nat} (h : a.length ≤ i) : rd (a ++ b) i = rd b (i - a.length : Nat) := by
  unfold rd
  rw [List.getD_eq_getElem?_getD, List.getD_eq_getElem?_getD, List.getElem?_append_right (by omega)]
  rfl
theorem ps_append_left {a b : List Int} : ∀ n : Nat, n ≤ a.length → ps (a ++ b) n = ps a n
  | 0, _ => by rw [ps_zero, ps_zero]
  | n + 1, h => by rw [ps_succ, ps_succ, ps_append_left n (by omega), rd_append_left (by omega)]
theorem ps_append {a b : List Int} (ha : a.length % 2 = 0) : ∀ n : Nat, ps (a ++ b) (a.length + n) = ps a a.length + ps b n
  | 0 => by rw [ps_zero, Nat.add_zero, ps_append_left _ (Nat.le_refl _), Int.add_zero]
  | n + 1 => by
    have e : wt (a.length + n) = wt n := by unfold wt; rw [show (a.length + n) % 2 = n % 2 by omega]
    rw [← Nat.add_assoc, ps_succ, ps_succ, ps_append ha n, rd_append_right (by omega), Nat.add_sub_cancel_left, e, Int.add_assoc]
theorem ps_two (x y : Int) : ps [x, y] 2 = x * 256 + y := by
  rw [ps_succ, ps_succ, ps_zero]
  simp [wt, rd]
theorem fold_mod (n : Int) (_h : 0 ≤ n) : fold n % 65535 = n % 65535 ∧ (fold n = 0 ↔ n = 0) := by
  unfold fold
  split <;> omega
theorem fold_eq (n m : Int) (hn : 0 ≤ n) (hm : 0 ≤ m) (h : n % 65535 = m % 65535) (h0 : n = 0 ↔ m = 0) : fold n = fold m := by
  unfold fold
  repeat' split
  all_goals omega

theorem rd_set {l : List Int} (j i : Nat) (v : Int) : rd (l.set j v) i = if j = i ∧ j < l.length then v else rd l i := by
  unfold rd
  rw [List.getD_eq_getElem?_getD, List.getD_eq_getElem?_getD, List.getElem?_set]
  simp only [Int.toNat_natCast]
  by_cases h : j = i
  · subst h
    by_cases h2 : j < l.length
    · simp [h2]
    · simp [h2]
  · simp [h]
theorem ps_set {l : List Int} (j : Nat) (v : Int) (hj : j < l.length) : ∀ n : Nat, ps (l.set j v) n = ps l n + if j < n then (v - rd l j) * wt j else 0
  | 0 => by rw [ps_zero, ps_zero]; simp
  | n + 1 => by
    rw [ps_succ, ps_succ, ps_set j v hj n, rd_set]
    by_cases h : j = n
    · subst h
      rw [if_neg (by omega), if_pos ⟨rfl, hj⟩, if_pos (by omega), Int.sub_mul]
      omega
    · rw [if_neg (show ¬ (j = n ∧ j < l.length) by omega)]
      by_cases h2 : j < n
      · rw [if_pos h2, if_pos (by omega)]
        omega
      · rw [if_neg h2, if_neg (by omega)]
        omega
theorem ps_swap {l : List Int} (i k : Nat) (hi : 2 * i + 1 < l.length) (hk : 2 * k + 1 < l.length) :
    ps ((((l.set (2 * i) (rd l (2 * k : Nat))).set (2 * i + 1) (rd l (2 * k + 1 : Nat))).set (2 * k) (rd l (2 * i : Nat))).set (2 * k + 1) (rd l (2 * i + 1 : Nat))) l.length = ps l l.length := by
  rw [ps_set _ _ (by simp; omega), ps_set _ _ (by simp; omega), ps_set _ _ (by simp; omega), ps_set _ _ (by omega)]
  rw [if_pos (by omega), if_pos (by omega), if_pos (by omega), if_pos (by omega)]
  have w0 : ∀ x, wt (2 * x) = 256 := fun x => by unfold wt; rw [if_pos (by omega)]
  have w1 : ∀ x, wt (2 * x + 1) = 1 := fun x => by unfold wt; rw [if_neg (by omega)]
  rw [w0, w0, w1, w1]
  simp only [rd_set, List.length_set]
  by_cases h : i = k
  · subst h
    generalize rd l ((2 * i : Nat) : Int) = a
    generalize rd l ((2 * i + 1 : Nat) : Int) = b
    repeat' split
    all_goals omega
  · generalize rd l ((2 * i : Nat) : Int) = a
    generalize rd l ((2 * i + 1 : Nat) : Int) = b
    generalize rd l ((2 * k : Nat) : Int) = c
    generalize rd l ((2 * k + 1 : Nat) : Int) = d
    repeat' split
    all_goals omega
theorem NumZero : octroilaw01_NumZero.Pure := by
  intro l i k _ _ hl hi hk
  have hl := bytes_of hl
  have hi := i64_of hi
  have hk := i64_of hk
  have skip0 : ∀ n, octroilaw01_NumZero.j0 (n + 1) l i k true true = some true := fun n => by simp [octroilaw01_NumZero.j0]
  have skip1 : Ev (fun n => octroilaw01_NumZero.j1 n l i k true true) true := Ev.step (f := fun _ => some true) (fun n => by simp [octroilaw01_NumZero.j1]) (Ev.now true)
  by_cases h1 : (l.length : Int) > 3000
  · refine ⟨30, ?_⟩
    unfold octroilaw01_NumZero.f
    rw [awake_now]
    simp only [Option.bind_some, if_pos h1]
    exact skip0 29
  by_cases h3 : (((l.length : Int) % 2) != 0) = true
  · refine ⟨30, ?_⟩
    unfold octroilaw01_NumZero.f
    rw [awake_now]
    simp only [Option.bind_some, if_neg h1, h3]
    exact skip0 29
  have h4 : l.length % 2 = 0 := by
    rw [bne_iff_ne] at h3
    omega
  refine of_ev ?_
  unfold octroilaw01_NumZero.f
  refine Ev.bind awake_ev ?_
  simp only [if_neg h1, Bool.eq_false_iff.mpr h3]
  refine Ev.step (f := _) (fun n => by simp only [octroilaw01_NumZero.j0, Bool.false_eq_true, if_false]; rfl) ?_
  simp only [List.nil_append, List.length_nil, Nat.zero_add, Option.bind_some]
  simp only [if_pos (show l.length < 140737488355328 by omega)]
  have hs := ps_bound hl l.length
  have hf := fold_bound (ps l l.length) hs.1
  have hm := fold_mod _ hs.1
  refine Ev.bind (sum_ev hl (by omega)) ?_
  refine Ev.bind (put_ev (65535 - fold (ps l l.length)) (by omega) (by omega)) ?_
  simp only [List.length_cons, List.length_nil, Nat.reduceAdd, if_pos (show l.length + 2 < 140737488355328 by omega)]
  have hc : ∀ x ∈ l ++ [(65535 - fold (ps l l.length)) / 256, (65535 - fold (ps l l.length)) % 256], 0 ≤ x ∧ x ≤ 255 := by
    intro x hx
    rcases List.mem_append.1 hx with h | h
    · exact hl x h
    · simp at h
      omega
  refine Ev.bind (sum_ev hc (by simp; omega)) ?_
  have e1 : fold (ps (l ++ [(65535 - fold (ps l l.length)) / 256, (65535 - fold (ps l l.length)) % 256]) (l ++ [(65535 - fold (ps l l.length)) / 256, (65535 - fold (ps l l.length)) % 256]).length) = 65535 := by
    rw [List.length_append]
    have := ps_append (a := l) (b := [(65535 - fold (ps l l.length)) / 256, (65535 - fold (ps l l.length)) % 256]) h4 2
    rw [ps_two] at this
    refine (congrArg fold this).trans ?_
    generalize ps l l.length = S at *
    unfold fold at *
    split at hf <;> split <;> omega
  rw [e1]
  simp only [Int.sub_self, if_true]
  by_cases c1 : i < 0
  · simp only [if_pos c1]
    exact skip1
  simp only [if_neg c1]
  by_cases c2 : k < 0
  · simp only [if_pos c2]
    exact skip1
  simp only [if_neg c2, w64 (x := (l.length : Int) / 2) (by omega)]
  by_cases c3 : i ≥ (l.length : Int) / 2
  · simp only [if_pos c3]
    exact skip1
  simp only [if_neg c3]
  by_cases c4 : k ≥ (l.length : Int) / 2
  · simp only [decide_eq_true c4]
    exact skip1
  simp only [decide_eq_false c4]
  obtain ⟨i, rfl⟩ : ∃ n : Nat, i = n := ⟨i.toNat, by omega⟩
  obtain ⟨k, rfl⟩ : ∃ n : Nat, k = n := ⟨k.toNat, by omega⟩
  refine Ev.step (f := _) (fun n => by simp only [octroilaw01_NumZero.j1, Bool.false_eq_true, if_false]; rfl) ?_
  have a1 : wrap64 (2 * (i : Int)) = ((2 * i : Nat) : Int) := by rw [w64 (by omega)]; omega
  have a2 : wrap64 (2 * (k : Int)) = ((2 * k : Nat) : Int) := by rw [w64 (by omega)]; omega
  have a3 : wrap64 (((2 * i : Nat) : Int) + 1) = ((2 * i + 1 : Nat) : Int) := by rw [w64 (by omega)]; omega
  have a4 : wrap64 (((2 * k : Nat) : Int) + 1) = ((2 * k + 1 : Nat) : Int) := by rw [w64 (by omega)]; omega
  simp only [a1, a2, a3, a4]
  clear a1 a2 a3 a4
  simp only [List.nil_append, List.length_nil, Nat.zero_add, Option.bind_some, if_true, Int.toNat_natCast, if_pos (show l.length < 140737488355328 by omega), if_pos (show (0 : Int) ≤ ((2 * i : Nat) : Int) by omega), if_pos (show (0 : Int) ≤ ((2 * k : Nat) : Int) by omega), if_pos (show (0 : Int) ≤ ((2 * i + 1 : Nat) : Int) by omega), if_pos (show (0 : Int) ≤ ((2 * k + 1 : Nat) : Int) by omega), if_pos (show ((2 * i : Nat) : Int) < (l.length : Int) by omega), if_pos (show ((2 * k : Nat) : Int) < (l.length : Int) by omega), if_pos (show ((2 * i + 1 : Nat) : Int) < (l.length : Int) by omega), if_pos (show ((2 * k + 1 : Nat) : Int) < (l.length : Int) by omega)]
  have hd : ∀ x ∈ (((l.set (2 * i) (rd l (2 * k : Nat))).set (2 * i + 1) (rd l (2 * k + 1 : Nat))).set (2 * k) (rd l (2 * i : Nat))).set (2 * k + 1) (rd l (2 * i + 1 : Nat)), 0 ≤ x ∧ x ≤ 255 := by
    intro x hx
    rcases List.mem_or_eq_of_mem_set hx with hx | rfl
    · rcases List.mem_or_eq_of_mem_set hx with hx | rfl
      · rcases List.mem_or_eq_of_mem_set hx with hx | rfl
        · rcases List.mem_or_eq_of_mem_set hx with hx | rfl
          · exact hl x hx
          · exact rd_byte hl _
        · exact rd_byte hl _
      · exact rd_byte hl _
    · exact rd_byte hl _
  refine Ev.bind (sum_ev hd (by simp; omega)) ?_
  refine Ev.bind (sum_ev hl (by omega)) ?_
  have e2 := ps_swap (l := l) i k (by omega) (by omega)
  simp only [List.length_set] at e2 ⊢
  rw [e2]
  simp only [beq_self_eq_true]
  exact Ev.now true

end Go.Proofs.Ytbnadohabbmebaa.Pure
