import Derived.Test.YtenlioajflbegaaDoorN4
set_option linter.unusedVariables false
namespace Go.Proofs.YtenlioajflbegaaDoorS
/-! What a prefix's text is, and what its text is read as. -/
def part (a i : Nat) : Nat := a / 2 ^ (8 * (3 - i)) % 256
def dotL (a : Nat) : List (List UInt8) := (List.range 4).map fun i => Lib.decDigits (part a i)
def showL (a : Nat) (n : Int) : List UInt8 := (Lib.join (dotL a) [46] ++ [47]) ++ Lib.itoa n
def dec3 (b : Nat) : List UInt8 := if b < 10 then [UInt8.ofNat (48 + b)] else if b < 100 then [UInt8.ofNat (48 + b / 10), UInt8.ofNat (48 + b % 10)] else [UInt8.ofNat (48 + b / 10 / 10), UInt8.ofNat (48 + b / 10 % 10), UInt8.ofNat (48 + b % 10)]
theorem dec_eq {b : Nat} (h : b < 1000) : Lib.decDigits b = dec3 b := by
  unfold dec3
  split
  · rename_i h1; exact Lib.decDigits_one h1
  · rename_i h1
    split
    · rename_i h2; exact Lib.decDigits_two h1 h2
    · rename_i h2
      rw [Lib.decDigits, dif_neg h1, Lib.decDigits_two (by omega) (by omega)]
      rfl
def isDig (x : UInt8) : Bool := decide (48 ≤ x.toNat ∧ x.toNat ≤ 57)
theorem dec3_facts : ∀ b : Fin 256, (dec3 b.1).length ≤ 3 ∧ pu8 (dec3 b.1) = some b.1 ∧ (dec3 b.1).all isDig = true := by decide +kernel
theorem dec_len {b : Nat} (h : b < 256) : (Lib.decDigits b).length ≤ 3 := by rw [dec_eq (by omega)]; exact (dec3_facts ⟨b, h⟩).1
theorem dec_pu {b : Nat} (h : b < 256) : pu8 (Lib.decDigits b) = some b := by rw [dec_eq (by omega)]; exact (dec3_facts ⟨b, h⟩).2.1
theorem dec_dig {b : Nat} (h : b < 256) : ∀ x ∈ Lib.decDigits b, isDig x = true := by rw [dec_eq (by omega)]; exact List.all_eq_true.1 (dec3_facts ⟨b, h⟩).2.2
theorem index_sg {sg : UInt8} {r : List UInt8} : ∀ {x : List UInt8}, sg ∉ x → Lib.index (x ++ sg :: r) [sg] = x.length
  | [], _ => by simp [Lib.index]
  | b :: x, h => by
    rw [List.mem_cons, not_or] at h
    have ih := index_sg (sg := sg) (r := r) h.2
    have hb : (sg == b) = false := by simpa using h.1
    rw [List.cons_append, Lib.index, ih]
    have h1 : (((x.length : Nat) : Int) == -1) = false := by rw [beq_eq_false_iff_ne]; omega
    simp [List.isPrefixOf, hb, h1]
theorem cut_sg {x r : List UInt8} {sg : UInt8} (h : sg ∉ x) : Lib.cut (x ++ sg :: r) [sg] = (x, r, true) := by
  unfold Lib.cut
  rw [index_sg h, if_pos (by omega)]
  simp
theorem pu_lt {M : Nat} : ∀ {l : List UInt8} {acc u : Nat}, acc ≤ M → Lib.parseUintM M acc l = .ok u → u ≤ M
  | [], acc, u, h, e => by simp only [Lib.parseUintM] at e; injection e with e; omega
  | c :: r, acc, u, h, e => by
    simp only [Lib.parseUintM] at e
    split at e
    · split at e
      · cases e
      · split at e
        · cases e
        · exact pu_lt (by omega) e
    · cases e
theorem pu8_lt {l : List UInt8} {u : Nat} (h : pu8 l = some u) : u < 256 := by
  unfold pu8 Lib.parseUintB at h
  split at h
  · rename_i v hv
    injection h with h
    split at hv
    · cases hv
    · have := pu_lt (Nat.zero_le _) hv
      omega
  · cases h
/-- The number that a text begins with, up to a sign. -/
def numP (s : List UInt8) (sg : UInt8) : Option (Nat × List UInt8) :=
  if (Lib.cut s [sg]).2.2 = true then if 3 < (Lib.cut s [sg]).1.length then none else (pu8 (Lib.cut s [sg]).1).map (fun x => (x, (Lib.cut s [sg]).2.1)) else none
theorem numP_dec {b : Nat} {sg : UInt8} {r : List UInt8} (h : b < 256) (hs : isDig sg = false) : numP (Lib.decDigits b ++ sg :: r) sg = some (b, r) := by
  have hn : sg ∉ Lib.decDigits b := fun hm => by have := dec_dig h _ hm; rw [hs] at this; cases this
  have := dec_len h
  unfold numP
  rw [cut_sg hn, if_pos rfl, if_neg (by simp only; omega), dec_pu h]
  rfl
theorem numP_lt {s r : List UInt8} {sg : UInt8} {x : Nat} (h : numP s sg = some (x, r)) : x < 256 := by
  unfold numP at h
  split at h
  · split at h
    · cases h
    · rw [Option.map_eq_some_iff] at h
      obtain ⟨y, hy, he⟩ := h
      injection he with h1 h2
      subst h1
      exact pu8_lt hy
  · cases h
theorem cut_len {s : List UInt8} {sg : UInt8} : (Lib.cut s [sg]).1.length ≤ s.length ∧ (Lib.cut s [sg]).2.1.length ≤ s.length := by
  unfold Lib.cut
  split <;> simp <;> omega
theorem numP_rest {s r : List UInt8} {sg : UInt8} {x : Nat} (h : numP s sg = some (x, r)) : r.length ≤ s.length := by
  unfold numP at h
  split at h
  · split at h
    · cases h
    · rw [Option.map_eq_some_iff] at h
      obtain ⟨y, hy, he⟩ := h
      injection he with h1 h2
      subst h2
      exact cut_len.2
  · cases h
def chainP : Nat → Nat → List UInt8 → Option (Nat × List UInt8)
  | 0, acc, r => some (acc, r)
  | k + 1, acc, r => (numP r (if k = 0 then 47 else 46)).bind fun p => chainP k (acc * 256 + p.1) p.2
theorem chainP_lt : ∀ {k acc : Nat} {r r' : List UInt8} {a b : Nat}, acc < b → chainP k acc r = some (a, r') → a < b * 256 ^ k
  | 0, acc, r, r', a, b, hb, h => by simp only [chainP] at h; injection h with h; injection h with h1 h2; omega
  | k + 1, acc, r, r', a, b, hb, h => by
    simp only [chainP] at h
    rw [Option.bind_eq_some_iff] at h
    obtain ⟨⟨x, q⟩, hx, h⟩ := h
    have := numP_lt hx
    have := chainP_lt (b := b * 256) (by simp only; omega) h
    rw [Nat.pow_succ, Nat.mul_comm (256 ^ k) 256, ← Nat.mul_assoc]
    exact this
def lenP (a : Nat) (r s : List UInt8) : Option (Nat × Int) := (pu8 r).bind fun n => if mayB a n = true then if showL a n = s then some (a, (n : Int)) else none else none
def parseP (s : List UInt8) : Option (Nat × Int) := (chainP 4 0 s).bind fun p => lenP p.1 p.2 s
theorem showL_eq (a : Nat) (n : Int) : showL a n = Lib.decDigits (part a 0) ++ 46 :: (Lib.decDigits (part a 1) ++ 46 :: (Lib.decDigits (part a 2) ++ 46 :: (Lib.decDigits (part a 3) ++ 47 :: Lib.itoa n))) := by
  unfold showL dotL
  rw [show List.range 4 = [0, 1, 2, 3] from rfl]
  simp [Lib.join_cons, Lib.joinTail]
theorem part_lt (a i : Nat) : part a i < 256 := Nat.mod_lt _ (by decide)
theorem parts_all {a : Nat} (h : a < 4294967296) : (((0 * 256 + part a 0) * 256 + part a 1) * 256 + part a 2) * 256 + part a 3 = a := by
  unfold part
  simp only [Nat.reduceSub, Nat.reduceMul, Nat.reducePow]
  omega
theorem may_out {a : Nat} {n : Int} (h : mayB a n = true) : 0 ≤ n ∧ n ≤ 32 := by
  unfold mayB at h
  simp only [Bool.and_eq_true, decide_eq_true_eq] at h
  exact ⟨h.1, h.2.1⟩
theorem itoa_nat (n : Nat) : Lib.itoa (n : Int) = Lib.decDigits n := by
  unfold Lib.itoa
  rw [if_neg (by omega)]
  rfl
theorem parseP_show {a : Nat} {n : Int} (ha : a < 4294967296) (hm : mayB a n = true) : parseP (showL a n) = some (a, n) := by
  obtain ⟨h0, h1⟩ := may_out hm
  obtain ⟨k, rfl⟩ := Int.eq_ofNat_of_zero_le h0
  have hk : k < 256 := by omega
  have hc : chainP 4 0 (showL a k) = some (a, Lib.decDigits k) := by
    rw [showL_eq, itoa_nat]
    have d46 : isDig 46 = false := by decide
    have d47 : isDig 47 = false := by decide
    simp only [chainP, Nat.succ_ne_zero, reduceIte, Nat.reduceEqDiff, if_false, if_true, numP_dec (part_lt a _) d46, numP_dec (part_lt a _) d47, numP_dec hk d47, Option.bind_some]
    rw [parts_all ha]
  unfold parseP lenP
  rw [hc, Option.bind_some, dec_pu hk, Option.bind_some, if_pos hm, if_pos rfl]
theorem parseP_out {s : List UInt8} {a : Nat} {n : Int} (h : parseP s = some (a, n)) : a < 4294967296 ∧ mayB a n = true ∧ showL a n = s := by
  unfold parseP at h
  rw [Option.bind_eq_some_iff] at h
  obtain ⟨⟨x, r⟩, hx, h⟩ := h
  have hlt := chainP_lt (b := 1) (by omega) hx
  unfold lenP at h
  rw [Option.bind_eq_some_iff] at h
  obtain ⟨k, hk, h⟩ := h
  split at h
  · rename_i hm
    split at h
    · rename_i hs
      injection h with h
      injection h with h1 h2
      subst h1; subst h2
      exact ⟨by simpa using hlt, hm, hs⟩
    · cases h
  · cases h
theorem showL_inj {a b : Nat} {n m : Int} (ha : a < 4294967296) (hb : b < 4294967296) (hm : mayB a n = true) (hm2 : mayB b m = true) (h : showL a n = showL b m) : a = b ∧ n = m := by
  have h1 := parseP_show ha hm
  rw [h, parseP_show hb hm2] at h1
  injection h1 with h1
  injection h1 with h1 h2
  exact ⟨h1.symm, h2.symm⟩
/-- Whatever reads all texts, and only these. -/
theorem parse_unique {q : List UInt8 → Option (Nat × Int)} (h1 : ∀ a n, a < 4294967296 → mayB a n = true → q (showL a n) = some (a, n)) (h2 : ∀ s a n, q s = some (a, n) → a < 4294967296 ∧ mayB a n = true ∧ showL a n = s) (s : List UInt8) : q s = parseP s := by
  cases hp : parseP s with
  | some p =>
    obtain ⟨a, n⟩ := p
    obtain ⟨ha, hm, rfl⟩ := parseP_out hp
    exact h1 a n ha hm
  | none =>
    cases hq : q s with
    | none => rfl
    | some p =>
      obtain ⟨a, n⟩ := p
      obtain ⟨ha, hm, rfl⟩ := h2 s a n hq
      rw [parseP_show ha hm] at hp
      cases hp
theorem showL_len (a : Nat) (n : Int) (hn : -9223372036854775808 ≤ n ∧ n ≤ 9223372036854775807) : (Lib.join (dotL a) [46]).length ≤ 100 ∧ (Lib.itoa n).length ≤ 100 := by
  constructor
  · have h := showL_eq a 0
    have h2 := congrArg List.length h
    unfold showL at h2
    have l0 := dec_len (part_lt a 0)
    have l1 := dec_len (part_lt a 1)
    have l2 := dec_len (part_lt a 2)
    have l3 := dec_len (part_lt a 3)
    simp at h2
    omega
  · have hd : ∀ u : Nat, u < 10 ^ 20 → (Lib.decDigits u).length ≤ 20 := by
      intro u hu
      rw [Lib.decDigits_length]
      rcases Nat.lt_or_ge 20 (Lib.nDigits u) with h | h
      · exfalso
        have hle : ∀ (k u : Nat), k < Lib.nDigits u → 0 < k → 10 ^ k ≤ u := by
          intro k
          induction k with
          | zero => intro u _ h0; omega
          | succ k ih =>
            intro u hk _
            by_cases hu : u < 10
            · rw [Lib.nDigits_small hu] at hk; omega
            · rw [Lib.nDigits_big hu] at hk
              rw [Nat.pow_succ]
              by_cases h0 : k = 0
              · subst h0; simp; omega
              · have := ih (u / 10) (by omega) (by omega)
                omega
        have := hle 20 u h (by omega)
        omega
      · exact h
    unfold Lib.itoa
    split
    · have := hd n.natAbs (by omega)
      simp; omega
    · have := hd n.toNat (by omega)
      omega
end Go.Proofs.YtenlioajflbegaaDoorS
