import Derived.Test.YtcafalcmfdnojaaDoorN2
set_option linter.unusedVariables false
namespace Go.Proofs.YtcafalcmfdnojaaDoorS
/-! What the items' text is, and what a text is read as. -/
def word : Nat → List UInt8
  | 0 => [116, 105, 99, 107] | 1 => [100, 101, 108, 105, 118, 101, 114] | 2 => [108, 111, 115, 101] | 3 => [100, 111, 117, 98, 108, 101] | 4 => [100, 111, 119, 110]
  | 5 => [117, 112] | 6 => [111, 119, 110] | 7 => [100, 114, 111, 112] | 8 => [99, 114, 97, 115, 104] | _ => []
def num : Nat → Nat
  | 0 => 2 | 1 => 1 | 2 => 1 | 3 => 1 | 4 => 1 | 5 => 1 | 6 => 3 | 7 => 3 | 8 => 1 | _ => 0
def wordI (k : Int) : List UInt8 := if 0 ≤ k then word k.toNat else []
def numI (k : Int) : Nat := if 0 ≤ k then num k.toNat else 0
theorem kinds (k : Int) : (k < 0 ∨ 9 ≤ k) ∨ k = 0 ∨ k = 1 ∨ k = 2 ∨ k = 3 ∨ k = 4 ∨ k = 5 ∨ k = 6 ∨ k = 7 ∨ k = 8 := by omega
theorem word_big {n : Nat} (h : 9 ≤ n) : word n = [] ∧ num n = 0 := by
  obtain ⟨m, rfl⟩ : ∃ m, n = m + 9 := ⟨n - 9, by omega⟩
  exact ⟨rfl, rfl⟩
theorem kind_out {k : Int} (h : k < 0 ∨ 9 ≤ k) : wordI k = [] ∧ numI k = 0 := by
  unfold wordI numI
  rcases h with h | h
  · rw [if_neg (by omega), if_neg (by omega)]; exact ⟨rfl, rfl⟩
  · rw [if_pos (by omega), if_pos (by omega)]; exact word_big (by omega)
theorem numI_le (k : Int) : numI k ≤ 3 := by
  rcases kinds k with h | h | h | h | h | h | h | h | h | h
  · rw [(kind_out h).2]; decide
  all_goals subst h; decide
theorem numI_pos {k : Int} (h : numI k ≠ 0) : 0 ≤ k ∧ k ≤ 8 := by
  rcases kinds k with h1 | h1 | h1 | h1 | h1 | h1 | h1 | h1 | h1 | h1
  · exact absurd (kind_out h1).2 h
  all_goals omega
theorem wordI_facts (k : Int) : (wordI k).length ≤ 7 ∧ 32 ∉ wordI k ∧ 10 ∉ wordI k ∧ (wordI k = [] ↔ numI k = 0) := by
  rcases kinds k with h | h | h | h | h | h | h | h | h | h
  · rw [(kind_out h).1, (kind_out h).2]; decide
  all_goals subst h; decide
theorem word_inj : ∀ a b : Fin 9, word a.1 = word b.1 → a = b := by decide
theorem wordI_inj {k j : Int} (h : numI k ≠ 0) (h2 : numI j ≠ 0) (he : wordI k = wordI j) : k = j := by
  obtain ⟨h3, h4⟩ := numI_pos h
  obtain ⟨h5, h6⟩ := numI_pos h2
  unfold wordI at he
  rw [if_pos h3, if_pos h5] at he
  have := word_inj ⟨k.toNat, by omega⟩ ⟨j.toNat, by omega⟩ he
  injection this with this
  omega
@[ext] structure It where
  k : Int
  a : Int
  b : Int
  c : Int
  deriving DecidableEq
def It.ns (x : It) : List Int := [x.a, x.b, x.c]
def okN (m i : Nat) (n : Int) : Bool := if i < m then decide (0 ≤ n ∧ n ≤ 1000000000) else decide (n = 0)
def okNs (x : It) : Bool := okN (numI x.k) 0 x.a && (okN (numI x.k) 1 x.b && okN (numI x.k) 2 x.c)
def may (x : It) : Bool := decide (numI x.k ≠ 0) && okNs x
def wds (x : It) : List (List UInt8) := (x.ns.take (numI x.k)).map Lib.itoa
def bare (x : It) : List UInt8 := Lib.join (wordI x.k :: wds x) [32]
def lineL (x : It) : List UInt8 := bare x ++ [10]
/-- Cut at a sign. -/
def spl (sg : UInt8) : List UInt8 → List (List UInt8)
  | [] => [[]]
  | c :: r => if c = sg then [] :: spl sg r else match spl sg r with | [] => [[c]] | w :: ws => (c :: w) :: ws
theorem index_cons (b c : UInt8) (l : List UInt8) (h : b ≠ c) : Lib.index (b :: l) [c] = if Lib.index l [c] == -1 then -1 else Lib.index l [c] + 1 := by
  have hp : ([c] : List UInt8).isPrefixOf (b :: l) = false := by simp [List.isPrefixOf, Ne.symm h]
  rw [Lib.index, hp]; simp
theorem split_spl (sg : UInt8) : ∀ s : List UInt8, splitL s sg = spl sg s
  | [] => by unfold splitL; rw [Lib.count_miss (by simp [Lib.index])]; rfl
  | c :: r => by
    have ih := split_spl sg r
    by_cases h : c = sg
    · subst h
      unfold splitL at ih ⊢
      have hix : Lib.index (c :: r) [c] = 0 := by rw [Lib.index]; simp [List.isPrefixOf]
      rw [Lib.count_cons_eq, Nat.add_comm, Lib.splitK, hix]
      simp only [spl, if_true]
      rw [← ih]
      rfl
    · unfold splitL at ih ⊢
      rw [Lib.count_cons_ne c sg r h]
      simp only [spl, if_neg h]
      rw [← ih]
      by_cases hm : Lib.index r [sg] = -1
      · rw [Lib.count_miss hm]
        rfl
      · have hge := Lib.index_ge r [sg]
        obtain ⟨j, hj⟩ : ∃ j : Nat, Lib.index r [sg] = j := ⟨(Lib.index r [sg]).toNat, by omega⟩
        have hb : (Lib.index r [sg] == -1) = false := by rw [beq_eq_false_iff_ne]; exact hm
        have hb2 : (((j : Nat) : Int) + 1 == -1) = false := by rw [beq_eq_false_iff_ne]; omega
        have hb3 : (((j : Nat) : Int) == -1) = false := by rw [beq_eq_false_iff_ne]; omega
        rw [Lib.count_hit (by simp) hj, Nat.add_comm 1]
        simp only [Lib.splitK, index_cons c sg r h, hj, hb2, hb3]
        simp
        omega
theorem spl_ne (sg : UInt8) (s : List UInt8) : spl sg s ≠ [] := by
  cases s with
  | nil => simp [spl]
  | cons c r =>
    simp only [spl]
    split
    · simp
    · split <;> simp
theorem spl_no {sg : UInt8} : ∀ {s : List UInt8}, sg ∉ s → spl sg s = [s]
  | [], _ => rfl
  | c :: r, h => by
    rw [List.mem_cons, not_or] at h
    simp only [spl, if_neg (fun e : c = sg => h.1 e.symm), spl_no h.2]
theorem spl_hit {sg : UInt8} {r : List UInt8} : ∀ {x : List UInt8}, sg ∉ x → spl sg (x ++ sg :: r) = x :: spl sg r
  | [], _ => by simp [spl]
  | c :: x, h => by
    rw [List.mem_cons, not_or] at h
    rw [List.cons_append]
    simp only [spl, if_neg (fun e : c = sg => h.1 e.symm), spl_hit h.2]
theorem spl_tail {sg : UInt8} : ∀ {r : List (List UInt8)} {x : List UInt8}, sg ∉ x → (∀ y ∈ r, sg ∉ y) → spl sg (x ++ Lib.joinTail [sg] r) = x :: r
  | [], x, h, _ => by rw [show Lib.joinTail [sg] [] = [] from rfl, List.append_nil]; exact spl_no h
  | y :: r, x, h, hr => by
    have e : Lib.joinTail [sg] (y :: r) = sg :: (y ++ Lib.joinTail [sg] r) := by simp [Lib.joinTail]
    rw [e, spl_hit h, spl_tail (hr y List.mem_cons_self) (fun z hz => hr z (List.mem_cons_of_mem _ hz))]
theorem spl_join {sg : UInt8} {x : List UInt8} {r : List (List UInt8)} (h : sg ∉ x) (hr : ∀ y ∈ r, sg ∉ y) : spl sg (Lib.join (x :: r) [sg]) = x :: r := by
  rw [Lib.join_cons]; exact spl_tail h hr
/-! Numbers. -/
def isDig (x : UInt8) : Bool := decide (48 ≤ x.toNat ∧ x.toNat ≤ 57)
theorem dig_ofNat {n : Nat} (h : n < 10) : (UInt8.ofNat (48 + n)).toNat = 48 + n := by simp; omega
theorem dec_step {n : Nat} (h : ¬ n < 10) : Lib.decDigits n = Lib.decDigits (n / 10) ++ [UInt8.ofNat (48 + n % 10)] := by rw [Lib.decDigits.eq_def n, dif_neg h]
theorem dec_dig (n : Nat) : ∀ x ∈ Lib.decDigits n, isDig x = true := by
  induction n using Nat.strongRecOn with
  | _ n ih =>
    by_cases h : n < 10
    · rw [Lib.decDigits_one h]
      intro x hx
      rw [List.mem_singleton] at hx; subst hx
      have := dig_ofNat h
      unfold isDig; rw [this]; simp; omega
    · rw [dec_step h]
      intro x hx
      rcases List.mem_append.1 hx with hx | hx
      · exact ih (n / 10) (by omega) x hx
      · rw [List.mem_singleton] at hx; subst hx
        have := dig_ofNat (Nat.mod_lt n (by decide : 0 < 10))
        unfold isDig; rw [this]; simp; omega
theorem dec_ne (n : Nat) : Lib.decDigits n ≠ [] := by
  by_cases h : n < 10
  · rw [Lib.decDigits_one h]; simp
  · rw [dec_step h]; simp
theorem dec_len {k : Nat} : ∀ {n : Nat}, n < 10 ^ (k + 1) → (Lib.decDigits n).length ≤ k + 1 := by
  induction k with
  | zero => intro n h; rw [Lib.decDigits_one (by simpa using h)]; simp
  | succ k ih =>
    intro n h
    by_cases h1 : n < 10
    · rw [Lib.decDigits_one h1]; simp
    · rw [dec_step h1, List.length_append]
      have := ih (n := n / 10) (by rw [Nat.div_lt_iff_lt_mul (by decide)]; rw [Nat.pow_succ] at h; exact h)
      simp; omega
theorem dec_parse (n : Nat) (h : n < 1000000000000) : ∀ r, Lib.parseUint10 0 (Lib.decDigits n ++ r) = Lib.parseUint10 n r := by
  induction n using Nat.strongRecOn with
  | _ n ih =>
    intro r
    by_cases h1 : n < 10
    · rw [Lib.decDigits_one h1]
      have := dig_ofNat h1
      simp only [List.cons_append, List.nil_append, Lib.parseUint10, this]
      rw [if_pos (by omega), if_neg (by omega), if_neg (by omega)]
      congr 1; omega
    · rw [dec_step h1, List.append_assoc, ih (n / 10) (by omega) (by omega)]
      have := dig_ofNat (Nat.mod_lt n (by decide : 0 < 10))
      simp only [List.cons_append, List.nil_append, Lib.parseUint10, this]
      rw [if_pos (by omega), if_neg (by omega), if_neg (by omega)]
      congr 1; omega
theorem itoa_nat (n : Nat) : Lib.itoa (n : Int) = Lib.decDigits n := by
  unfold Lib.itoa
  rw [if_neg (by omega)]
  rfl
theorem atoi_dec {n : Nat} (h : n < 1000000000000) : Lib.atoiAll (Lib.decDigits n) = .ok (n : Int) := by
  have hp := dec_parse n h []
  rw [List.append_nil] at hp
  have hne := dec_ne n
  have hd := dec_dig n
  cases hl : Lib.decDigits n with
  | nil => exact absurd hl hne
  | cons c r =>
    rw [hl] at hp hd
    have h1 := hd c List.mem_cons_self
    unfold isDig at h1
    simp only [decide_eq_true_eq] at h1
    have hs : ¬ (c.toNat = 43 ∨ c.toNat = 45) := by omega
    have hm : Lib.parseMag (c :: r) = .ok n := by
      unfold Lib.parseMag
      rw [if_neg (by simp), hp]
      rfl
    unfold Lib.atoiAll
    simp only
    rw [if_neg hs, hm]
    simp only
    rw [if_neg (by omega), if_neg (by omega), if_neg (by omega)]
theorem atoi_itoa {n : Int} (h : 0 ≤ n ∧ n ≤ 1000000000) : Lib.atoiAll (Lib.itoa n) = .ok n := by
  obtain ⟨m, rfl⟩ := Int.eq_ofNat_of_zero_le h.1
  rw [itoa_nat]; exact atoi_dec (by omega)
theorem itoa_len {n : Int} (h : 0 ≤ n ∧ n ≤ 1000000000) : (Lib.itoa n).length ≤ 10 := by
  obtain ⟨m, rfl⟩ := Int.eq_ofNat_of_zero_le h.1
  rw [itoa_nat]; exact dec_len (k := 9) (by omega)
theorem itoa_no {n : Int} (h : 0 ≤ n ∧ n ≤ 1000000000) : 32 ∉ Lib.itoa n ∧ 10 ∉ Lib.itoa n := by
  obtain ⟨m, rfl⟩ := Int.eq_ofNat_of_zero_le h.1
  rw [itoa_nat]
  exact ⟨fun hm => absurd (dec_dig m _ hm) (by decide), fun hm => absurd (dec_dig m _ hm) (by decide)⟩
/-! The reference's number. -/
def stepR (x : Int) (c : UInt8) : Int := IntKind.wrap .i64 (IntKind.wrap .i64 (10 * x) + IntKind.wrap .i64 (IntKind.wrap .u8 ((c.toNat : Int) - 48)))
def numF (x : Int) : List UInt8 → Int
  | [] => x
  | c :: r => if (c.toNat : Int) < 48 then -1 else if (c.toNat : Int) > 57 then -1 else numF (stepR x c) r
def numR (s : List UInt8) : Int := if s.length = 0 then -1 else if 10 < s.length then -1 else numF 0 s
theorem dec_numF (n : Nat) (h : n < 1000000000000) : ∀ r, numF 0 (Lib.decDigits n ++ r) = numF n r := by
  induction n using Nat.strongRecOn with
  | _ n ih =>
    intro r
    by_cases h1 : n < 10
    · rw [Lib.decDigits_one h1]
      have := dig_ofNat h1
      simp only [List.cons_append, List.nil_append, numF, this]
      rw [if_neg (by omega), if_neg (by omega)]
      congr 1
      unfold stepR
      rw [this, wrap8, wrap64 (x := 10 * 0) (by omega), wrap64 (x := (((48 + n : Nat) : Int) - 48) % 256) (by omega), wrap64 (by omega)]
      omega
    · rw [dec_step h1, List.append_assoc, ih (n / 10) (by omega) (by omega)]
      have := dig_ofNat (Nat.mod_lt n (by decide : 0 < 10))
      simp only [List.cons_append, List.nil_append, numF, this]
      rw [if_neg (by omega), if_neg (by omega)]
      congr 1
      unfold stepR
      rw [this, wrap8, wrap64 (x := 10 * _) (by omega), wrap64 (x := (((48 + n % 10 : Nat) : Int) - 48) % 256) (by omega), wrap64 (by omega)]
      omega
theorem numR_itoa {n : Int} (h : 0 ≤ n ∧ n ≤ 1000000000) : numR (Lib.itoa n) = n := by
  have hl := itoa_len h
  obtain ⟨m, rfl⟩ := Int.eq_ofNat_of_zero_le h.1
  rw [itoa_nat] at hl ⊢
  unfold numR
  rw [if_neg (fun e => dec_ne m (List.eq_nil_of_length_eq_zero e)), if_neg (by omega)]
  have := dec_numF m (by omega) []
  rwa [List.append_nil] at this
theorem wrap_rng (x : Int) : -9223372036854775808 ≤ IntKind.wrap .i64 x ∧ IntKind.wrap .i64 x ≤ 9223372036854775807 := by
  have : IntKind.i64.wrap x = if (true && decide (x % 18446744073709551616 ≥ 9223372036854775808)) = true then x % 18446744073709551616 - 18446744073709551616 else x % 18446744073709551616 := rfl
  rw [this]
  simp only [Bool.true_and, decide_eq_true_eq]
  split <;> omega
theorem numF_rng : ∀ (s : List UInt8) {x : Int}, -9223372036854775808 ≤ x ∧ x ≤ 9223372036854775807 → -9223372036854775808 ≤ numF x s ∧ numF x s ≤ 9223372036854775807
  | [], x, h => h
  | c :: r, x, h => by
    simp only [numF]
    split
    · omega
    · split
      · omega
      · exact numF_rng r (wrap_rng _)
theorem numR_rng (s : List UInt8) : -9223372036854775808 ≤ numR s ∧ numR s ≤ 9223372036854775807 := by
  unfold numR
  split
  · omega
  · split
    · omega
    · exact numF_rng s (by omega)
end Go.Proofs.YtcafalcmfdnojaaDoorS
