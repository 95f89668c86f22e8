/-
Bytes of an even number, and others behind them, have the checksum that their two sums tell, added anew: of at most 2000 bytes each, as the statement itself asks. No condition beyond the statement's own.
-/
import Derived.Test.YtbnadohabbmebaaPNumPartsx1
import Derived.Laws.BitsAllLaws
namespace Go.Proofs.Ytbnadohabbmebaa.Pure
open Go.RowKit Go.Proofs.Ytbnadohabbmebaa.PNumParts Go.Proofs.YtbnadohabbmebaaW.PrintWords Go.Proofs.YtbnadohabbmebaaW.PrintLast Go.Proofs.YtbnadohabbmebaaW.PrintMore

theorem byte_of {x : Int} (h : (Lit.int .u8 x).wf = true) : 0 ≤ x ∧ x ≤ 255 := by
  simp [Lit.wf, IntKind.min, IntKind.max, IntKind.bits, IntKind.signed] at h
  omega
theorem u16_of {x : Int} (h : (Lit.int .u16 x).wf = true) : 0 ≤ x ∧ x ≤ 65535 := by
  simp [Lit.wf, IntKind.min, IntKind.max, IntKind.bits, IntKind.signed] at h
  omega
theorem u32_of {x : Int} (h : (Lit.int .u32 x).wf = true) : 0 ≤ x ∧ x ≤ 4294967295 := by
  simp [Lit.wf, IntKind.min, IntKind.max, IntKind.bits, IntKind.signed] at h
  omega
theorem i64_of {x : Int} (h : (Lit.int .i64 x).wf = true) : -9223372036854775808 ≤ x ∧ x ≤ 9223372036854775807 := by
  simp [Lit.wf, IntKind.min, IntKind.max, IntKind.bits, IntKind.signed] at h
  omega
theorem w64 {x : Int} (h : -9223372036854775808 ≤ x ∧ x ≤ 9223372036854775807) : wrap64 x = x := by unfold wrap64; omega
theorem wrap64_eq (x : Int) : wrap64 x = (x + 9223372036854775808) % 18446744073709551616 - 9223372036854775808 := by unfold wrap64; rfl
theorem wu16 (x : Int) : IntKind.u16.wrap x = x % 65536 := IntKind.wrap_u16 x
theorem awake_now : octroilaw01_awake.f 30 = some true := by decide +kernel
theorem awake_ev : Ev octroilaw01_awake.f true := Ev.of octroilaw01_awake.mono awake_now
theorem of_ev {g : Nat → Option Bool} (h : Ev g true) : ∃ k, g k = some true := h.rounds

def wt (i : Nat) : Int := if i % 2 = 0 then 256 else 1
/-- The sum of the first n bytes, two by two. -/
def ps (l : List Int) : Nat → Int
  | 0 => 0
  | n + 1 => ps l n + rd l n * wt n
/-- What is left when all that goes over 16 bits has been added again. -/
def fold (n : Int) : Int := if n = 0 then 0 else (n - 1) % 65535 + 1
theorem rd_byte {l : List Int} (h : ∀ x ∈ l, 0 ≤ x ∧ x ≤ 255) (i : Int) : 0 ≤ rd l i ∧ rd l i ≤ 255 := by
  unfold rd
  rw [List.getD_eq_getElem?_getD]
  cases e : l[i.toNat]? with
  | none => simp
  | some x => simpa using h x (List.mem_of_getElem? e)
theorem wt_cases (i : Nat) : wt i = 256 ∨ wt i = 1 := by
  unfold wt
  split
  · exact .inl rfl
  · exact .inr rfl
theorem ps_bound {l : List Int} (h : ∀ x ∈ l, 0 ≤ x ∧ x ≤ 255) : ∀ n : Nat, 0 ≤ ps l n ∧ ps l n ≤ 65280 * n
  | 0 => by simp [ps]
  | n + 1 => by
    have ih := ps_bound h n
    have hb := rd_byte h n
    unfold ps
    rcases wt_cases n with e | e <;> rw [e] <;> omega
theorem ps_mono {l : List Int} (h : ∀ x ∈ l, 0 ≤ x ∧ x ≤ 255) (n : Nat) : ∀ m, n ≤ m → ps l n ≤ ps l m := by
  intro m
  induction m with
  | zero => intro hm; obtain rfl : n = 0 := by omega
            exact Int.le_refl _
  | succ m ih =>
    intro hm
    by_cases e : n = m + 1
    · subst e; exact Int.le_refl _
    · have := ih (by omega)
      have hb := rd_byte h m
      show ps l n ≤ ps l m + rd l m * wt m
      rcases wt_cases m with e | e <;> rw [e] <;> omega
theorem ps_zero (l : List Int) : ps l 0 = 0 := rfl
theorem ps_succ (l : List Int) (n : Nat) : ps l (n + 1) = ps l n + rd l n * wt n := rfl
attribute [irreducible] ps
theorem fold_step (n : Int) (h : n > 65535) : fold (n % 65536 + n / 65536) = fold n := by
  unfold fold
  rw [if_neg (by omega), if_neg (by omega)]
  omega
theorem fold_small (n : Int) (h : 0 ≤ n) (h2 : n ≤ 65535) : fold n = n := by
  unfold fold
  split <;> omega
theorem fold_bound (n : Int) (_h : 0 ≤ n) : 0 ≤ fold n ∧ fold n ≤ 65535 := by
  unfold fold
  split <;> omega
theorem mask16 (n : Int) (h : 0 ≤ n) (h2 : n < 18446744073709551616) : Go.bits .and .u64 n 65535 = n % 65536 := by
  rw [u64_and n 65535 h h2 (by omega) (by omega)]
  have : n.toNat &&& (65535 : Int).toNat = n.toNat % 65536 := Nat.and_two_pow_sub_one_eq_mod n.toNat 16
  rw [this]
  omega
theorem not16 (x : Int) (h : 0 ≤ x) (h2 : x ≤ 65535) : Go.bits .xor .u16 65535 x = 65535 - x := by
  rw [u16_xor 65535 x (by omega) (by omega) h (by omega)]
  have e : (65535 : Int).toNat ^^^ x.toNat = 65535 - x.toNat := by
    have hx : x.toNat < 2 ^ 16 := by omega
    have h1 : (BitVec.allOnes 16 ^^^ BitVec.ofNat 16 x.toNat).toNat = (~~~ (BitVec.ofNat 16 x.toNat)).toNat := by rw [BitVec.allOnes_xor]
    rw [BitVec.toNat_xor, BitVec.toNat_not, BitVec.toNat_allOnes, BitVec.toNat_ofNat, Nat.mod_eq_of_lt hx] at h1
    exact h1
  rw [e]
  omega
theorem wu64 (x : Int) (h : 0 ≤ x) (h2 : x < 18446744073709551616) : IntKind.u64.wrap x = x := IntWalk.u64_in x ⟨h, by omega⟩
theorem shl8 (x : Int) : shl .u64 x 8 = IntKind.u64.wrap (x * 256) := by
  have e : (2 : Int) ^ min (8 : Int).toNat (IntKind.bits .u64) = 256 := by decide
  unfold shl
  rw [e]
theorem shl0 (x : Int) : shl .u64 x 0 = IntKind.u64.wrap (x * 1) := by
  have e : (2 : Int) ^ min (0 : Int).toNat (IntKind.bits .u64) = 1 := by decide
  unfold shl
  rw [e]
theorem sum_l1 : ∀ (d : Nat) (n : Int), 0 ≤ n → n < 9223372036854775808 → n.toNat ≤ d → ∀ k, d < k → num_Sum.l1 k n = some (65535 - fold n) := by
  intro d
  induction d with
  | zero =>
    intro n h0 h1 hd k hk
    obtain ⟨k, rfl⟩ : ∃ m, k = m + 1 := ⟨k - 1, by omega⟩
    simp only [num_Sum.l1]
    rw [if_neg (by omega), wu16, not16 _ (by omega) (by omega), fold_small n h0 (by omega)]
    congr 1
    omega
  | succ d ih =>
    intro n h0 h1 hd k hk
    obtain ⟨k, rfl⟩ : ∃ m, k = m + 1 := ⟨k - 1, by omega⟩
    simp only [num_Sum.l1]
    by_cases h : n > 65535
    · rw [if_pos h, mask16 n h0 (by omega), wu64 _ (by omega) (by omega), ih _ (by omega) (by omega) (by omega) k (by omega), fold_step n h]
    · rw [if_neg h, wu16, not16 _ (by omega) (by omega), fold_small n h0 (by omega)]
      congr 1
      omega
theorem sum_l0 {l : List Int} (h : ∀ x ∈ l, 0 ≤ x ∧ x ≤ 255) (hl : l.length ≤ 100000) (M : Nat) (hM : (ps l l.length).toNat ≤ M) :
    ∀ (d i : Nat), i + d = l.length → ∀ k, d + M + 1 < k → num_Sum.l0 k (ps l i) l l.length i = some (65535 - fold (ps l l.length)) := by
  have hb := ps_bound h l.length
  intro d
  induction d with
  | zero =>
    intro i hi k hk
    obtain ⟨k, rfl⟩ : ∃ m, k = m + 1 := ⟨k - 1, by omega⟩
    simp only [num_Sum.l0]
    obtain rfl : i = l.length := by omega
    rw [if_neg (by omega)]
    exact sum_l1 M _ (by omega) (by omega) hM k (by omega)
  | succ d ih =>
    intro i hi k hk
    obtain ⟨k, rfl⟩ : ∃ m, k = m + 1 := ⟨k - 1, by omega⟩
    simp only [num_Sum.l0]
    have c1 : (i : Int) < (l.length : Int) := by omega
    have c2 : (0 : Int) ≤ (i : Int) := by omega
    have c3 : 0 ≤ 8 * (1 - (i : Int) % 2) := by omega
    have hr := rd_byte h i
    have hp := ps_bound h i
    rw [Int.tmod_eq_emod_of_nonneg c2, w64 (x := 1 - (i : Int) % 2) (by omega), w64 (x := 8 * (1 - (i : Int) % 2)) (by omega), w64 (x := (i : Int) + 1) (by omega), if_pos c1, if_pos c2, if_pos c1, if_pos c3, wu64 _ hr.1 (by omega)]
    have e4 : shl .u64 (rd l i) (8 * (1 - (i : Int) % 2)) = rd l i * wt i := by
      unfold wt
      by_cases e : i % 2 = 0
      · have : (8 * (1 - (i : Int) % 2)) = 8 := by omega
        rw [if_pos e, this, shl8, wu64 _ (by omega) (by omega)]
      · have : (8 * (1 - (i : Int) % 2)) = 0 := by omega
        rw [if_neg e, this, shl0, wu64 _ (by omega) (by omega)]
    have e5 : ps l i + rd l i * wt i = ps l (i + 1) := (ps_succ l i).symm
    have hp1 := ps_bound h (i + 1)
    rw [e4, e5, wu64 _ hp1.1 (by omega)]
    have := ih (i + 1) (by omega) k (by omega)
    rw [show ((i + 1 : Nat) : Int) = (i : Int) + 1 by omega] at this
    exact this
theorem sum_ev {l : List Int} (h : ∀ x ∈ l, 0 ≤ x ∧ x ≤ 255) (hl : l.length ≤ 100000) : Ev (fun k => num_Sum.f k l) (65535 - fold (ps l l.length)) :=
  by
  refine ⟨l.length + (ps l l.length).toNat + 2, fun k hk => ?_⟩
  have := sum_l0 h hl _ (Nat.le_refl _) l.length 0 (by omega) k (by omega)
  rw [ps_zero] at this
  exact this
theorem bytes_of {l : List Int} (h : ∀ x ∈ l, (Lit.int .u8 x).wf = true) : ∀ x ∈ l, 0 ≤ x ∧ x ≤ 255 := fun x hx => byte_of (h x hx)

theorem w_0 : wrap64 0 = 0 := by decide +kernel
theorem w_1 : wrap64 1 = 1 := by decide +kernel
theorem w_2 : wrap64 2 = 2 := by decide +kernel
theorem w_3 : wrap64 3 = 3 := by decide +kernel
theorem w_4 : wrap64 4 = 4 := by decide +kernel
theorem w_8 : wrap64 8 = 8 := by decide +kernel
theorem w_16 : wrap64 16 = 16 := by decide +kernel
theorem w_24 : wrap64 24 = 24 := by decide +kernel
theorem put_2 (n : Int) (h : 0 ≤ n) (h2 : n ≤ 65535) : num_put.f 10 n 2 = some [n / 256, n % 256] := by
  have s0 : shr .u32 n 0 = n := by
    have e : (2 : Int) ^ min (0 : Int).toNat (IntKind.bits .u32) = 1 := by decide
    unfold shr
    rw [e]
    omega
  have s8 : shr .u32 n 8 = n / 256 := by
    have e : (2 : Int) ^ min (8 : Int).toNat (IntKind.bits .u32) = 256 := by decide
    unfold shr
    rw [e]
  have hm : n / 256 % 256 = n / 256 := by omega
  unfold num_put.f
  simp [num_put.l0, w_0, w_1, w_2, w_8, s0, s8, hm]
theorem put_ev (n : Int) (h : 0 ≤ n) (h2 : n ≤ 65535) : Ev (fun k => num_Put16.f k n) [n / 256, n % 256] := by
  refine Ev.of (num_Put16.mono n) (k := 10) ?_
  unfold num_Put16.f
  rw [show n % 4294967296 = n by omega, put_2 n h h2]
  rfl
theorem rd_append_left {a b : List Int} {i : Nat} (h : i < a.length) : rd (a ++ b) i = rd a i := by
  unfold rd
  rw [List.getD_eq_getElem?_getD, List.getD_eq_getElem?_getD, List.getElem?_append_left (by omega)]
theorem rd_append_right {a b : List Int} {i : Nat} (h : a.length ≤ i) : rd (a ++ b) i = rd b (i - a.length : Nat) := by
  unfold rd
  rw [List.getD_eq_getElem?_getD, List.getD_eq_getElem?_getD, List.getElem?_append_right (by omega)]
  rfl
theorem ps_append_left {a b : List Int} : ∀ n : Nat, n ≤ a.length → ps (a ++ b) n = ps a n
  | 0, _ => by rw [ps_zero, ps_zero]
  | n + 1, h => by rw [ps_succ, ps_succ, ps_append_left n (by omega), rd_append_left (by omega)]
theorem ps_append {a b : List Int} (ha : a.length % 2 = 0) : ∀ n : Nat, ps (a ++ b) (a.length + n) = ps a a.length + ps b n
  | 0 => by rw [ps_zero, Nat.add_zero, ps_append_left _ (Nat.le_refl _), Int.add_zero]
  | n + 1 => by
    have e : wt (a.length + n) = wt n := by unfold wt; rw [show (a.length + n) % 2 = n % 2 by omega]
    rw [← Nat.add_assoc, ps_succ, ps_succ, ps_append ha n, rd_append_right (by omega), Nat.add_sub_cancel_left, e, Int.add_assoc]
theorem ps_two (x y : Int) : ps [x, y] 2 = x * 256 + y := by
  rw [ps_succ, ps_succ, ps_zero]
  simp [wt, rd]
theorem fold_mod (n : Int) (_h : 0 ≤ n) : fold n % 65535 = n % 65535 ∧ (fold n = 0 ↔ n = 0) := by
  unfold fold
  split <;> omega
theorem fold_eq (n m : Int) (hn : 0 ≤ n) (hm : 0 ≤ m) (h : n % 65535 = m % 65535) (h0 : n = 0 ↔ m = 0) : fold n = fold m := by
  unfold fold
  repeat' split
  all_goals omega

theorem NumParts : octroilaw01_NumParts.Pure := by
  intro a b _ _ ha _ _ hb
  have ha := bytes_of ha
  have hb := bytes_of hb
  have skip : ∀ k, octroilaw01_NumParts.j0 (k + 1) a b true true = some true := fun k => by simp [octroilaw01_NumParts.j0]
  by_cases h1 : (a.length : Int) > 2000
  · refine ⟨30, ?_⟩
    unfold octroilaw01_NumParts.f
    rw [awake_now]
    simp only [Option.bind_some, if_pos h1]
    exact skip 29
  by_cases h2 : (b.length : Int) > 2000
  · refine ⟨30, ?_⟩
    unfold octroilaw01_NumParts.f
    rw [awake_now]
    simp only [Option.bind_some, if_neg h1, if_pos h2]
    exact skip 29
  by_cases h3 : (((a.length : Int) % 2) != 0) = true
  · refine ⟨30, ?_⟩
    unfold octroilaw01_NumParts.f
    rw [awake_now]
    simp only [Option.bind_some, if_neg h1, if_neg h2, h3]
    exact skip 29
  have h4 : a.length % 2 = 0 := by
    rw [bne_iff_ne] at h3
    omega
  refine of_ev ?_
  unfold octroilaw01_NumParts.f
  refine Ev.bind awake_ev ?_
  simp only [if_neg h1, if_neg h2, Bool.eq_false_iff.mpr h3]
  refine Ev.step (f := _) (fun k => by simp only [octroilaw01_NumParts.j0, Bool.false_eq_true, if_false]; rfl) ?_
  simp only [List.nil_append, List.length_nil, Nat.zero_add, Option.bind_some, if_true]
  have hsa := ps_bound ha a.length
  have hsb := ps_bound hb b.length
  have fa := fold_bound (ps a a.length) hsa.1
  have fb := fold_bound (ps b b.length) hsb.1
  have hab : ∀ x ∈ a ++ b, 0 ≤ x ∧ x ≤ 255 := fun x hx => (List.mem_append.1 hx).elim (ha x) (hb x)
  simp only [if_pos (show a.length < 140737488355328 by omega), if_pos (show a.length + b.length < 140737488355328 by omega)]
  refine Ev.bind (sum_ev ha (by omega)) ?_
  simp only [not16 _ (show (0 : Int) ≤ 65535 - fold (ps a a.length) by omega) (by omega), Int.sub_sub_self]
  refine Ev.bind (put_ev _ fa.1 fa.2) ?_
  refine Ev.bind (sum_ev hb (by omega)) ?_
  simp only [not16 _ (show (0 : Int) ≤ 65535 - fold (ps b b.length) by omega) (by omega), Int.sub_sub_self]
  refine Ev.bind (put_ev _ fb.1 fb.2) ?_
  simp only [List.length_cons, List.length_nil, Nat.reduceAdd, Nat.reduceLT, if_true]
  refine Ev.bind (sum_ev hab (by simp; omega)) ?_
  refine Ev.bind (sum_ev (l := [fold (ps a a.length) / 256, fold (ps a a.length) % 256] ++ [fold (ps b b.length) / 256, fold (ps b b.length) % 256]) ?_ (by simp)) ?_
  · intro x hx
    simp at hx
    omega
  have e1 : ps (a ++ b) (a ++ b).length = ps a a.length + ps b b.length := by rw [List.length_append]; exact ps_append h4 _
  have e2 : ps ([fold (ps a a.length) / 256, fold (ps a a.length) % 256] ++ [fold (ps b b.length) / 256, fold (ps b b.length) % 256]) ([fold (ps a a.length) / 256, fold (ps a a.length) % 256] ++ [fold (ps b b.length) / 256, fold (ps b b.length) % 256]).length = fold (ps a a.length) + fold (ps b b.length) := by
    rw [List.length_append]
    have := ps_append (a := [fold (ps a a.length) / 256, fold (ps a a.length) % 256]) (b := [fold (ps b b.length) / 256, fold (ps b b.length) % 256]) (by simp) 2
    refine this.trans ?_
    have e3 : ∀ x y : Int, ps [x, y] [x, y].length = x * 256 + y := ps_two
    rw [e3, ps_two]
    omega
  have m1 := fold_mod _ hsa.1
  have m2 := fold_mod _ hsb.1
  have e4 : fold (ps a a.length + ps b b.length) = fold (fold (ps a a.length) + fold (ps b b.length)) := fold_eq _ _ (by omega) (by omega) (by omega) (by omega)
  rw [e1, e2, e4]
  simp only [beq_self_eq_true]
  exact Ev.now true

end Go.Proofs.Ytbnadohabbmebaa.Pure
