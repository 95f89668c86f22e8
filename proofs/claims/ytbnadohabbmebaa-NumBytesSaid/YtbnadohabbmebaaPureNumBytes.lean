/-
Any number is the bytes, and any bytes at any place are the number, that the document says: of at most 3000 bytes, as the statement itself asks. No condition beyond the statement's own.
-/
import Derived.Test.YtbnadohabbmebaaPNumBytesx3
import Derived.Laws.BitsAllLaws
namespace Go.Proofs.Ytbnadohabbmebaa.Pure
open Go.RowKit Go.Proofs.Ytbnadohabbmebaa.PNumBytes Go.Proofs.YtbnadohabbmebaaW.PrintWords Go.Proofs.YtbnadohabbmebaaW.PrintLast Go.Proofs.YtbnadohabbmebaaW.PrintMore

theorem byte_of {x : Int} (h : (Lit.int .u8 x).wf = true) : 0 ≤ x ∧ x ≤ 255 := by
  simp [Lit.wf, IntKind.min, IntKind.max, IntKind.bits, IntKind.signed] at h
  omega
theorem u16_of {x : Int} (h : (Lit.int .u16 x).wf = true) : 0 ≤ x ∧ x ≤ 65535 := by
  simp [Lit.wf, IntKind.min, IntKind.max, IntKind.bits, IntKind.signed] at h
  omega
theorem u32_of {x : Int} (h : (Lit.int .u32 x).wf = true) : 0 ≤ x ∧ x ≤ 4294967295 := by
  simp [Lit.wf, IntKind.min, IntKind.max, IntKind.bits, IntKind.signed] at h
  omega
theorem i64_of {x : Int} (h : (Lit.int .i64 x).wf = true) : -9223372036854775808 ≤ x ∧ x ≤ 9223372036854775807 := by
  simp [Lit.wf, IntKind.min, IntKind.max, IntKind.bits, IntKind.signed] at h
  omega
theorem w64 {x : Int} (h : -9223372036854775808 ≤ x ∧ x ≤ 9223372036854775807) : wrap64 x = x := by unfold wrap64; omega
theorem wrap64_eq (x : Int) : wrap64 x = (x + 9223372036854775808) % 18446744073709551616 - 9223372036854775808 := by unfold wrap64; rfl
theorem wu16 (x : Int) : IntKind.u16.wrap x = x % 65536 := IntKind.wrap_u16 x
theorem awake_now : octroilaw01_awake.f 30 = some true := by decide +kernel
theorem awake_ev : Ev octroilaw01_awake.f true := Ev.of octroilaw01_awake.mono awake_now
theorem of_ev {g : Nat → Option Bool} (h : Ev g true) : ∃ k, g k = some true := h.rounds

def wt (i : Nat) : Int := if i % 2 = 0 then 256 else 1
/-- The sum of the first n bytes, two by two. -/
def ps (l : List Int) : Nat → Int
  | 0 => 0
  | n + 1 => ps l n + rd l n * wt n
/-- What is left when all that goes over 16 bits has been added again. -/
def fold (n : Int) : Int := if n = 0 then 0 else (n - 1) % 65535 + 1
theorem rd_byte {l : List Int} (h : ∀ x ∈ l, 0 ≤ x ∧ x ≤ 255) (i : Int) : 0 ≤ rd l i ∧ rd l i ≤ 255 := by
  unfold rd
  rw [List.getD_eq_getElem?_getD]
  cases e : l[i.toNat]? with
  | none => simp
  | some x => simpa using h x (List.mem_of_getElem? e)
theorem wt_cases (i : Nat) : wt i = 256 ∨ wt i = 1 := by
  unfold wt
  split
  · exact .inl rfl
  · exact .inr rfl
theorem ps_bound {l : List Int} (h : ∀ x ∈ l, 0 ≤ x ∧ x ≤ 255) : ∀ n : Nat, 0 ≤ ps l n ∧ ps l n ≤ 65280 * n
  | 0 => by simp [ps]
  | n + 1 => by
    have ih := ps_bound h n
    have hb := rd_byte h n
    unfold ps
    rcases wt_cases n with e | e <;> rw [e] <;> omega
theorem ps_mono {l : List Int} (h : ∀ x ∈ l, 0 ≤ x ∧ x ≤ 255) (n : Nat) : ∀ m, n ≤ m → ps l n ≤ ps l m := by
  intro m
  induction m with
  | zero => intro hm; obtain rfl : n = 0 := by omega
            exact Int.le_refl _
  | succ m ih =>
    intro hm
    by_cases e : n = m + 1
    · subst e; exact Int.le_refl _
    · have := ih (by omega)
      have hb := rd_byte h m
      show ps l n ≤ ps l m + rd l m * wt m
      rcases wt_cases m with e | e <;> rw [e] <;> omega
theorem ps_zero (l : List Int) : ps l 0 = 0 := rfl
theorem ps_succ (l : List Int) (n : Nat) : ps l (n + 1) = ps l n + rd l n * wt n := rfl
attribute [irreducible] ps
theorem fold_step (n : Int) (h : n > 65535) : fold (n % 65536 + n / 65536) = fold n := by
  unfold fold
  rw [if_neg (by omega), if_neg (by omega)]
  omega
theorem fold_small (n : Int) (h : 0 ≤ n) (h2 : n ≤ 65535) : fold n = n := by
  unfold fold
  split <;> omega
theorem fold_bound (n : Int) (_h : 0 ≤ n) : 0 ≤ fold n ∧ fold n ≤ 65535 := by
  unfold fold
  split <;> omega
theorem mask16 (n : Int) (h : 0 ≤ n) (h2 : n < 18446744073709551616) : Go.bits .and .u64 n 65535 = n % 65536 := by
  rw [u64_and n 65535 h h2 (by omega) (by omega)]
  have : n.toNat &&& (65535 : Int).toNat = n.toNat % 65536 := Nat.and_two_pow_sub_one_eq_mod n.toNat 16
  rw [this]
  omega
theorem not16 (x : Int) (h : 0 ≤ x) (h2 : x ≤ 65535) : Go.bits .xor .u16 65535 x = 65535 - x := by
  rw [u16_xor 65535 x (by omega) (by omega) h (by omega)]
  have e : (65535 : Int).toNat ^^^ x.toNat = 65535 - x.toNat := by
    have hx : x.toNat < 2 ^ 16 := by omega
    have h1 : (BitVec.allOnes 16 ^^^ BitVec.ofNat 16 x.toNat).toNat = (~~~ (BitVec.ofNat 16 x.toNat)).toNat := by rw [BitVec.allOnes_xor]
    rw [BitVec.toNat_xor, BitVec.toNat_not, BitVec.toNat_allOnes, BitVec.toNat_ofNat, Nat.mod_eq_of_lt hx] at h1
    exact h1
  rw [e]
  omega
theorem wu64 (x : Int) (h : 0 ≤ x) (h2 : x < 18446744073709551616) : IntKind.u64.wrap x = x := IntWalk.u64_in x ⟨h, by omega⟩
theorem shl8 (x : Int) : shl .u64 x 8 = IntKind.u64.wrap (x * 256) := by
  have e : (2 : Int) ^ min (8 : Int).toNat (IntKind.bits .u64) = 256 := by decide
  unfold shl
  rw [e]
theorem shl0 (x : Int) : shl .u64 x 0 = IntKind.u64.wrap (x * 1) := by
  have e : (2 : Int) ^ min (0 : Int).toNat (IntKind.bits .u64) = 1 := by decide
  unfold shl
  rw [e]
theorem sum_l1 : ∀ (d : Nat) (n : Int), 0 ≤ n → n < 9223372036854775808 → n.toNat ≤ d → ∀ k, d < k → num_Sum.l1 k n = some (65535 - fold n) := by
  intro d
  induction d with
  | zero =>
    intro n h0 h1 hd k hk
    obtain ⟨k, rfl⟩ : ∃ m, k = m + 1 := ⟨k - 1, by omega⟩
    simp only [num_Sum.l1]
    rw [if_neg (by omega), wu16, not16 _ (by omega) (by omega), fold_small n h0 (by omega)]
    congr 1
    omega
  | succ d ih =>
    intro n h0 h1 hd k hk
    obtain ⟨k, rfl⟩ : ∃ m, k = m + 1 := ⟨k - 1, by omega⟩
    simp only [num_Sum.l1]
    by_cases h : n > 65535
    · rw [if_pos h, mask16 n h0 (by omega), wu64 _ (by omega) (by omega), ih _ (by omega) (by omega) (by omega) k (by omega), fold_step n h]
    · rw [if_neg h, wu16, not16 _ (by omega) (by omega), fold_small n h0 (by omega)]
      congr 1
      omega
theorem sum_l0 {l : List Int} (h : ∀ x ∈ l, 0 ≤ x ∧ x ≤ 255) (hl : l.length ≤ 100000) (M : Nat) (hM : (ps l l.length).toNat ≤ M) :
    ∀ (d i : Nat), i + d = l.length → ∀ k, d + M + 1 < k → num_Sum.l0 k (ps l i) l l.length i = some (65535 - fold (ps l l.length)) := by
  have hb := ps_bound h l.length
  intro d
  induction d with
  | zero =>
    intro i hi k hk
    obtain ⟨k, rfl⟩ : ∃ m, k = m + 1 := ⟨k - 1, by omega⟩
    simp only [num_Sum.l0]
    obtain rfl : i = l.length := by omega
    rw [if_neg (by omega)]
    exact sum_l1 M _ (by omega) (by omega) hM k (by omega)
  | succ d ih =>
    intro i hi k hk
    obtain ⟨k, rfl⟩ : ∃ m, k = m + 1 := ⟨k - 1, by omega⟩
    simp only [num_Sum.l0]
    have c1 : (i : Int) < (l.length : Int) := by omega
    have c2 : (0 : Int) ≤ (i : Int) := by omega
    have c3 : 0 ≤ 8 * (1 - (i : Int) % 2) := by omega
    have hr := rd_byte h i
    have hp := ps_bound h i
    rw [Int.tmod_eq_emod_of_nonneg c2, w64 (x := 1 - (i : Int) % 2) (by omega), w64 (x := 8 * (1 - (i : Int) % 2)) (by omega), w64 (x := (i : Int) + 1) (by omega), if_pos c1, if_pos c2, if_pos c1, if_pos c3, wu64 _ hr.1 (by omega)]
    have e4 : shl .u64 (rd l i) (8 * (1 - (i : Int) % 2)) = rd l i * wt i := by
      unfold wt
      by_cases e : i % 2 = 0
      · have : (8 * (1 - (i : Int) % 2)) = 8 := by omega
        rw [if_pos e, this, shl8, wu64 _ (by omega) (by omega)]
      · have : (8 * (1 - (i : Int) % 2)) = 0 := by omega
        rw [if_neg e, this, shl0, wu64 _ (by omega) (by omega)]
    have e5 : ps l i + rd l i * wt i = ps l (i + 1) := (ps_succ l i).symm
    have hp1 := ps_bound h (i + 1)
    rw [e4, e5, wu64 _ hp1.1 (by omega)]
    have := ih (i + 1) (by omega) k (by omega)
    rw [show ((i + 1 : Nat) : Int) = (i : Int) + 1 by omega] at this
    exact this
theorem sum_ev {l : List Int} (h : ∀ x ∈ l, 0 ≤ x ∧ x ≤ 255) (hl : l.length ≤ 100000) : Ev (fun k => num_Sum.f k l) (65535 - fold (ps l l.length)) :=
  by
  refine ⟨l.length + (ps l l.length).toNat + 2, fun k hk => ?_⟩
  have := sum_l0 h hl _ (Nat.le_refl _) l.length 0 (by omega) k (by omega)
  rw [ps_zero] at this
  exact this
theorem bytes_of {l : List Int} (h : ∀ x ∈ l, (Lit.int .u8 x).wf = true) : ∀ x ∈ l, 0 ≤ x ∧ x ≤ 255 := fun x hx => byte_of (h x hx)

theorem w_0 : wrap64 0 = 0 := by decide +kernel
theorem w_1 : wrap64 1 = 1 := by decide +kernel
theorem w_2 : wrap64 2 = 2 := by decide +kernel
theorem w_3 : wrap64 3 = 3 := by decide +kernel
theorem w_4 : wrap64 4 = 4 := by decide +kernel
theorem w_8 : wrap64 8 = 8 := by decide +kernel
theorem w_16 : wrap64 16 = 16 := by decide +kernel
theorem w_24 : wrap64 24 = 24 := by decide +kernel
theorem put_2 (n : Int) (h : 0 ≤ n) (h2 : n ≤ 65535) : num_put.f 10 n 2 = some [n / 256, n % 256] := by
  have s0 : shr .u32 n 0 = n := by
    have e : (2 : Int) ^ min (0 : Int).toNat (IntKind.bits .u32) = 1 := by decide
    unfold shr
    rw [e]
    omega
  have s8 : shr .u32 n 8 = n / 256 := by
    have e : (2 : Int) ^ min (8 : Int).toNat (IntKind.bits .u32) = 256 := by decide
    unfold shr
    rw [e]
  have hm : n / 256 % 256 = n / 256 := by omega
  unfold num_put.f
  simp [num_put.l0, w_0, w_1, w_2, w_8, s0, s8, hm]
theorem put_ev (n : Int) (h : 0 ≤ n) (h2 : n ≤ 65535) : Ev (fun k => num_Put16.f k n) [n / 256, n % 256] := by
  refine Ev.of (num_Put16.mono n) (k := 10) ?_
  unfold num_Put16.f
  rw [show n % 4294967296 = n by omega, put_2 n h h2]
  rfl
theorem rd_append_left {a b : List Int} {i : Nat} (h : i < a.length) : rd (a ++ b) i = rd a i := by
  unfold rd
  rw [List.getD_eq_getElem?_getD, List.getD_eq_getElem?_getD, List.getElem?_append_left (by omega)]
theorem rd_append_right {a b : List Int} {i : Nat} (h : a.length ≤ i) : rd (a ++ b) i = rd b (i - a.length : Nat) := by
  unfold rd
  rw [List.getD_eq_getElem?_getD, List.getD_eq_getElem?_getD, List.getElem?_append_right (by omega)]
  rfl
theorem ps_append_left {a b : List Int} : ∀ n : Nat, n ≤ a.length → ps (a ++ b) n = ps a n
  | 0, _ => by rw [ps_zero, ps_zero]
  | n + 1, h => by rw [ps_succ, ps_succ, ps_append_left n (by omega), rd_append_left (by omega)]
theorem ps_append {a b : List Int} (ha : a.length % 2 = 0) : ∀ n : Nat, ps (a ++ b) (a.length + n) = ps a a.length + ps b n
  | 0 => by rw [ps_zero, Nat.add_zero, ps_append_left _ (Nat.le_refl _), Int.add_zero]
  | n + 1 => by
    have e : wt (a.length + n) = wt n := by unfold wt; rw [show (a.length + n) % 2 = n % 2 by omega]
    rw [← Nat.add_assoc, ps_succ, ps_succ, ps_append ha n, rd_append_right (by omega), Nat.add_sub_cancel_left, e, Int.add_assoc]
theorem ps_two (x y : Int) : ps [x, y] 2 = x * 256 + y := by
  rw [ps_succ, ps_succ, ps_zero]
  simp [wt, rd]
theorem fold_mod (n : Int) (_h : 0 ≤ n) : fold n % 65535 = n % 65535 ∧ (fold n = 0 ↔ n = 0) := by
  unfold fold
  split <;> omega
theorem fold_eq (n m : Int) (hn : 0 ≤ n) (hm : 0 ≤ m) (h : n % 65535 = m % 65535) (h0 : n = 0 ↔ m = 0) : fold n = fold m := by
  unfold fold
  repeat' split
  all_goals omega

/-- The number of the first n bytes, the highest first. -/
def gv (l : List Int) : Nat → Int
  | 0 => 0
  | n + 1 => gv l n * 256 + rd l n
theorem gv_zero (l : List Int) : gv l 0 = 0 := rfl
theorem gv_succ (l : List Int) (n : Nat) : gv l (n + 1) = gv l n * 256 + rd l n := rfl
theorem gv_bound {l : List Int} (h : ∀ x ∈ l, 0 ≤ x ∧ x ≤ 255) : ∀ n : Nat, 0 ≤ gv l n ∧ gv l n < 256 ^ n
  | 0 => by rw [gv_zero]; simp
  | n + 1 => by
    have ih := gv_bound h n
    have hb := rd_byte h n
    rw [gv_succ, Int.pow_succ]
    generalize (256 : Int) ^ n = p at *
    omega
theorem gv_small {l : List Int} (h : ∀ x ∈ l, 0 ≤ x ∧ x ≤ 255) (n : Nat) (hn : n < 4) : 0 ≤ gv l n ∧ gv l n < 16777216 := by
  have hb := gv_bound h n
  have : n = 0 ∨ n = 1 ∨ n = 2 ∨ n = 3 := by omega
  rcases this with rfl | rfl | rfl | rfl <;> simp at hb <;> omega
attribute [irreducible] gv
theorem or_join (a b : Int) (ha : 0 ≤ a) (ha2 : a < 16777216) (hb : 0 ≤ b) (hb2 : b ≤ 255) : Go.bits .or .u32 (a * 256) b = a * 256 + b := by
  rw [u32_or _ _ (by omega) (by omega) hb (by omega)]
  have : (a * 256).toNat ||| b.toNat = (a * 256).toNat + b.toNat := nat_join 8 _ _ (by omega) (by omega)
  rw [this]
  omega
theorem get_l0 {y : List Int} (h : ∀ x ∈ y, 0 ≤ x ∧ x ≤ 255) (hy : y.length ≤ 4) :
    ∀ (d i : Nat), i + d = y.length → ∀ k, d < k → num_get.l0 k (gv y i) y y.length i = some (gv y y.length, true) := by
  intro d
  induction d with
  | zero =>
    intro i hi k hk
    obtain ⟨k, rfl⟩ : ∃ m, k = m + 1 := ⟨k - 1, by omega⟩
    simp only [num_get.l0]
    rw [if_neg (by omega), show i = y.length by omega]
  | succ d ih =>
    intro i hi k hk
    obtain ⟨k, rfl⟩ : ∃ m, k = m + 1 := ⟨k - 1, by omega⟩
    simp only [num_get.l0]
    have hb := rd_byte h i
    have hs := gv_small h i (by omega)
    rw [if_pos (by omega), if_pos (by omega), if_pos (by omega), w64 (x := (i : Int) + 1) (by omega), show gv y i * 256 % 4294967296 = gv y i * 256 by omega, show rd y i % 4294967296 = rd y i by omega, or_join _ _ hs.1 hs.2 hb.1 hb.2, ← gv_succ]
    have := ih (i + 1) (by omega) k (by omega)
    rw [show ((i + 1 : Nat) : Int) = (i : Int) + 1 by omega] at this
    exact this
/-- n bytes from a place on. -/
def win (l : List Int) (i n : Nat) : List Int := (l.take (i + n)).drop i
theorem win_length {l : List Int} {i n : Nat} (h : i + n ≤ l.length) : (win l i n).length = n := by
  unfold win
  rw [List.length_drop, List.length_take]
  omega
theorem win_mem {l : List Int} {i n : Nat} {x : Int} (h : x ∈ win l i n) : x ∈ l := List.mem_of_mem_take (List.mem_of_mem_drop h)
theorem win_rd {l : List Int} {i n j : Nat} (h : j < n) : rd (win l i n) j = rd l (i + j : Nat) := by
  unfold rd win
  rw [List.getD_eq_getElem?_getD, List.getD_eq_getElem?_getD, List.getElem?_drop, List.getElem?_take]
  simp only [Int.toNat_natCast]
  rw [if_pos (by omega)]
/-- What is told of a number of n bytes at a place. -/
def gotten (l : List Int) (i : Int) (n : Nat) : Int × Bool := if 0 ≤ i ∧ i + n ≤ l.length then (gv (win l i.toNat n) n, true) else (0, false)
theorem get_eq {l : List Int} (h : ∀ x ∈ l, 0 ≤ x ∧ x ≤ 255) (hl : l.length ≤ 100000) (i : Int) (hi : -9223372036854775808 ≤ i ∧ i ≤ 9223372036854775807) (n : Nat) (hn : n ≤ 4) :
    Ev (fun k => num_get.f k l i n) (gotten l i n) := by
  unfold num_get.f gotten
  by_cases h0 : i < 0
  · simp only [if_pos h0, if_neg (show ¬ (0 ≤ i ∧ i + n ≤ l.length) by omega)]
    exact Ev.step (f := fun _ => some (0, false)) (fun k => by simp [num_get.j0]) (Ev.now _)
  simp only [if_neg h0, w64 (x := (l.length : Int) - n) (by omega)]
  by_cases h1 : i > (l.length : Int) - n
  · simp only [decide_eq_true h1, if_neg (show ¬ (0 ≤ i ∧ i + n ≤ l.length) by omega)]
    exact Ev.step (f := fun _ => some (0, false)) (fun k => by simp [num_get.j0]) (Ev.now _)
  simp only [decide_eq_false h1, if_pos (show 0 ≤ i ∧ i + n ≤ l.length by omega)]
  obtain ⟨i, rfl⟩ : ∃ m : Nat, i = m := ⟨i.toNat, by omega⟩
  refine Ev.step (f := fun k => num_get.l0 k 0 (win l i n) (win l i n).length 0) (fun k => ?_) ?_
  · simp only [num_get.j0, Bool.false_eq_true, if_false, w64 (x := (i : Int) + n) (by omega)]
    rw [if_pos (by omega), if_pos (by omega), if_pos (by omega), Option.bind_some]
    rfl
  · refine ⟨10, fun k hk => ?_⟩
    have hw := win_length (l := l) (i := i) (n := n) (by omega)
    have := get_l0 (y := win l i n) (fun x hx => h x (win_mem hx)) (by omega) n 0 (by omega) k (by omega)
    rw [gv_zero] at this
    refine this.trans ?_
    rw [hw, Int.toNat_natCast]
theorem get16_ev {l : List Int} (h : ∀ x ∈ l, 0 ≤ x ∧ x ≤ 255) (hl : l.length ≤ 100000) (i : Int) (hi : -9223372036854775808 ≤ i ∧ i ≤ 9223372036854775807) :
    Ev (fun k => num_Get16.f k l i) (gotten l i 2) := by
  unfold num_Get16.f
  refine Ev.bind (get_eq h hl i hi 2 (by omega)) ?_
  have e : IntKind.u16.wrap (gotten l i 2).1 = (gotten l i 2).1 := by
    rw [wu16]
    unfold gotten
    split
    · have hb := gv_bound (l := win l i.toNat 2) (fun x hx => h x (win_mem hx)) 2
      simp at hb
      show gv (win l i.toNat 2) 2 % 65536 = gv (win l i.toNat 2) 2
      omega
    · rfl
  simp only [e]
  exact Ev.now _
theorem get32_ev {l : List Int} (h : ∀ x ∈ l, 0 ≤ x ∧ x ≤ 255) (hl : l.length ≤ 100000) (i : Int) (hi : -9223372036854775808 ≤ i ∧ i ≤ 9223372036854775807) :
    Ev (fun k => num_Get32.f k l i) (gotten l i 4) := by
  unfold num_Get32.f
  refine Ev.bind (get_eq h hl i hi 4 (by omega)) ?_
  exact Ev.now _
theorem put_4 (n : Int) (h : 0 ≤ n) (h2 : n ≤ 4294967295) : num_put.f 10 n 4 = some [n / 16777216, n / 65536 % 256, n / 256 % 256, n % 256] := by
  have s0 : shr .u32 n 0 = n := by
    have e : (2 : Int) ^ min (0 : Int).toNat (IntKind.bits .u32) = 1 := by decide
    unfold shr
    rw [e]
    omega
  have s8 : shr .u32 n 8 = n / 256 := by
    have e : (2 : Int) ^ min (8 : Int).toNat (IntKind.bits .u32) = 256 := by decide
    unfold shr
    rw [e]
  have s16 : shr .u32 n 16 = n / 65536 := by
    have e : (2 : Int) ^ min (16 : Int).toNat (IntKind.bits .u32) = 65536 := by decide
    unfold shr
    rw [e]
  have s24 : shr .u32 n 24 = n / 16777216 := by
    have e : (2 : Int) ^ min (24 : Int).toNat (IntKind.bits .u32) = 16777216 := by decide
    unfold shr
    rw [e]
  have hm : n / 16777216 % 256 = n / 16777216 := by omega
  unfold num_put.f
  simp [num_put.l0, w_0, w_1, w_2, w_3, w_4, w_8, w_16, w_24, s0, s8, s16, s24, hm]
theorem put32_ev (n : Int) (h : 0 ≤ n) (h2 : n ≤ 4294967295) : Ev (fun k => num_Put32.f k n) [n / 16777216, n / 65536 % 256, n / 256 % 256, n % 256] := by
  refine Ev.of (num_Put32.mono n) (k := 10) ?_
  unfold num_Put32.f
  rw [put_4 n h h2]
  rfl

theorem refGet_l0 {l : List Int} (h : ∀ x ∈ l, 0 ≤ x ∧ x ≤ 255) (hl : l.length ≤ 100000) (i n : Nat) (hi : i + n ≤ l.length) (hn : n ≤ 4) :
    ∀ (d j : Nat), j + d = n → ∀ k, d < k → octroiref01_Get.l0 k l i n (gv (win l i n) j) j = some (gv (win l i n) n, true) := by
  intro d
  induction d with
  | zero =>
    intro j hj k hk
    obtain ⟨k, rfl⟩ : ∃ m, k = m + 1 := ⟨k - 1, by omega⟩
    simp only [octroiref01_Get.l0]
    rw [if_neg (by omega), show j = n by omega]
  | succ d ih =>
    intro j hj k hk
    obtain ⟨k, rfl⟩ : ∃ m, k = m + 1 := ⟨k - 1, by omega⟩
    simp only [octroiref01_Get.l0]
    have hb := rd_byte h (i + j : Nat)
    have hs := gv_small (l := win l i n) (fun x hx => h x (win_mem hx)) j (by omega)
    have hr := win_rd (l := l) (i := i) (n := n) (j := j) (by omega)
    rw [if_pos (by omega), w64 (x := (i : Int) + j) (by omega), if_pos (by omega), if_pos (by omega), w64 (x := (j : Int) + 1) (by omega), show (i : Int) + j = ((i + j : Nat) : Int) by omega, ← hr]
    rw [← hr] at hb
    rw [show (gv (win l i n) j * 256 % 4294967296 + rd (win l i n) j % 4294967296) % 4294967296 = gv (win l i n) j * 256 + rd (win l i n) j by omega, ← gv_succ]
    have := ih (j + 1) (by omega) k (by omega)
    rw [show ((j + 1 : Nat) : Int) = (j : Int) + 1 by omega] at this
    exact this
theorem refGet_ev {l : List Int} (h : ∀ x ∈ l, 0 ≤ x ∧ x ≤ 255) (hl : l.length ≤ 100000) (i : Int) (hi : -9223372036854775808 ≤ i ∧ i ≤ 9223372036854775807) (n : Nat) (hn : n ≤ 4) :
    Ev (fun k => octroiref01_Get.f k l i n) (gotten l i n) := by
  unfold octroiref01_Get.f gotten
  by_cases h0 : i < 0
  · simp only [if_pos h0, if_neg (show ¬ (0 ≤ i ∧ i + n ≤ l.length) by omega)]
    exact Ev.step (f := fun _ => some (0, false)) (fun k => by simp [octroiref01_Get.j0]) (Ev.now _)
  simp only [if_neg h0]
  by_cases h1 : i > (l.length : Int)
  · simp only [if_pos h1, if_neg (show ¬ (0 ≤ i ∧ i + n ≤ l.length) by omega)]
    exact Ev.step (f := fun _ => some (0, false)) (fun k => by simp [octroiref01_Get.j0]) (Ev.now _)
  simp only [if_neg h1, w64 (x := (l.length : Int) - i) (by omega)]
  by_cases h2 : (l.length : Int) - i < n
  · simp only [decide_eq_true h2, if_neg (show ¬ (0 ≤ i ∧ i + n ≤ l.length) by omega)]
    exact Ev.step (f := fun _ => some (0, false)) (fun k => by simp [octroiref01_Get.j0]) (Ev.now _)
  simp only [decide_eq_false h2, if_pos (show 0 ≤ i ∧ i + n ≤ l.length by omega)]
  obtain ⟨i, rfl⟩ : ∃ m : Nat, i = m := ⟨i.toNat, by omega⟩
  refine Ev.step (f := fun k => octroiref01_Get.l0 k l i n 0 0) (fun k => by simp only [octroiref01_Get.j0, Bool.false_eq_true, if_false]) ?_
  refine ⟨10, fun k hk => ?_⟩
  have := refGet_l0 h hl i n (by omega) hn n 0 (by omega) k (by omega)
  rw [gv_zero] at this
  refine this.trans ?_
  rw [Int.toNat_natCast]
theorem refPut_2 (n : Int) (h : 0 ≤ n) (h2 : n ≤ 65535) : octroiref01_Put.f 10 n 2 = some [n / 256, n % 256] := by
  have t1 : Int.tmod n 256 % 256 = n % 256 := by rw [Int.tmod_eq_emod_of_nonneg h]; omega
  have t2 : Int.tdiv n 256 % 4294967296 = n / 256 := by rw [Int.tdiv_eq_ediv_of_nonneg h]; omega
  have t3 : Int.tmod (n / 256) 256 % 256 = n / 256 := by rw [Int.tmod_eq_emod_of_nonneg (by omega)]; omega
  have wm : wrap64 (-1) = -1 := by decide +kernel
  unfold octroiref01_Put.f
  simp [octroiref01_Put.l0, w_0, w_1, wm, t1, t2, t3]
theorem refPut_4 (n : Int) (h : 0 ≤ n) (h2 : n ≤ 4294967295) : octroiref01_Put.f 10 n 4 = some [n / 16777216, n / 65536 % 256, n / 256 % 256, n % 256] := by
  have t1 : Int.tmod n 256 % 256 = n % 256 := by rw [Int.tmod_eq_emod_of_nonneg h]; omega
  have t2 : Int.tdiv n 256 % 4294967296 = n / 256 := by rw [Int.tdiv_eq_ediv_of_nonneg h]; omega
  have t3 : Int.tmod (n / 256) 256 % 256 = n / 256 % 256 := by rw [Int.tmod_eq_emod_of_nonneg (by omega)]; omega
  have t4 : Int.tdiv (n / 256) 256 % 4294967296 = n / 65536 := by rw [Int.tdiv_eq_ediv_of_nonneg (by omega)]; omega
  have t5 : Int.tmod (n / 65536) 256 % 256 = n / 65536 % 256 := by rw [Int.tmod_eq_emod_of_nonneg (by omega)]; omega
  have t6 : Int.tdiv (n / 65536) 256 % 4294967296 = n / 16777216 := by rw [Int.tdiv_eq_ediv_of_nonneg (by omega)]; omega
  have t7 : Int.tmod (n / 16777216) 256 % 256 = n / 16777216 := by rw [Int.tmod_eq_emod_of_nonneg (by omega)]; omega
  have wm : wrap64 (-1) = -1 := by decide +kernel
  unfold octroiref01_Put.f
  simp [octroiref01_Put.l0, w_0, w_1, w_2, w_3, wm, t1, t2, t3, t4, t5, t6, t7]
theorem NumBytes : octroilaw01_NumBytes.Pure := by
  intro n l i hn _ _ hl hi
  have hl := bytes_of hl
  have hi := i64_of hi
  have hn := u32_of hn
  by_cases h1 : (l.length : Int) > 3000
  · refine ⟨30, ?_⟩
    unfold octroilaw01_NumBytes.f
    rw [awake_now]
    simp only [Option.bind_some, if_pos h1]
  refine of_ev ?_
  unfold octroilaw01_NumBytes.f
  refine Ev.bind awake_ev ?_
  simp only [if_neg h1, if_true]
  refine Ev.bind (get16_ev hl (by omega) i hi) ?_
  refine Ev.bind (refGet_ev hl (by omega) i hi 2 (by omega)) ?_
  refine Ev.bind (get32_ev hl (by omega) i hi) ?_
  refine Ev.bind (refGet_ev hl (by omega) i hi 4 (by omega)) ?_
  refine Ev.bind (put32_ev n hn.1 hn.2) ?_
  refine Ev.bind (Ev.of (octroiref01_Put.mono n 4) (refPut_4 n hn.1 hn.2)) ?_
  simp only [if_true]
  have e1 : IntKind.u16.wrap n = n % 65536 := wu16 n
  have e2 : Int.tmod n 65536 = n % 65536 := Int.tmod_eq_emod_of_nonneg hn.1
  simp only [e1, e2]
  refine Ev.bind (put_ev (n % 65536) (by omega) (by omega)) ?_
  refine Ev.bind (Ev.of (octroiref01_Put.mono (n % 65536) 2) (refPut_2 (n % 65536) (by omega) (by omega))) ?_
  have e3 : (gotten l i 2).1 % 4294967296 = (gotten l i 2).1 := by
    unfold gotten
    split
    · have hb := gv_bound (l := win l i.toNat 2) (fun x hx => hl x (win_mem hx)) 2
      simp at hb
      show gv (win l i.toNat 2) 2 % 4294967296 = gv (win l i.toNat 2) 2
      omega
    · rfl
  simp only [e3, if_true, beq_self_eq_true]
  exact Ev.now true

end Go.Proofs.Ytbnadohabbmebaa.Pure
