import Derived.Test.YtahllmihgpaaeaaN12
set_option linter.unusedVariables false
namespace Go.Proofs.YtahllmihgpaaeaaS
/-! What a packet's bytes are: in plain Lean. -/
theorem num_at {l x y : List UInt8} {i k n : Nat} (hl : l = x ++ (be k n ++ y)) (hx : x.length = i) (hn : n < 256 ^ k) : num l i k = n := by
  unfold num
  have h1 : (l.drop i).take k = be k n := by
    rw [hl, ← hx, List.drop_left]
    exact List.take_left' (be_length k n)
  rw [h1, val_be, Nat.mod_eq_of_lt hn]
theorem be_num {l : List UInt8} {i k : Nat} (h : i + k ≤ l.length) : be k (num l i k) = (l.drop i).take k := by
  have h1 := be_val ((l.drop i).take k)
  have h2 : ((l.drop i).take k).length = k := by simp; omega
  rw [h2] at h1
  exact h1
theorem cut_app {l : List UInt8} (i k : Nat) : l.drop i = (l.drop i).take k ++ l.drop (i + k) := by
  rw [← List.drop_drop, List.take_append_drop]
theorem ent_m32 {e : Ent} (h : entB e = true) : (e.m32 : Int) = e.m ∧ 0 ≤ e.n ∧ e.n ≤ 32 := by
  unfold entB mayB at h
  simp only [Bool.and_eq_true, decide_eq_true_eq] at h
  refine ⟨?_, h.1.1, h.1.2.1⟩
  unfold Ent.m32
  omega
theorem read_enc {e : Ent} (ho : e.ok) (h : entB e = true) : readEnt (encE e) = e ∧ readOk (encE e) = true := by
  obtain ⟨hm, hn0, hn1⟩ := ent_m32 h
  have ha := ho.a
  have ht := ho.tag
  have hx := ho.next
  have hk : maskOf e.n < 4294967296 := maskN_lt _
  have h32 : e.m32 < 4294967296 := by unfold Ent.m32; omega
  have n2 : num (encE e) 2 2 = e.tag := num_at (x := [0, 2]) (y := be 4 e.a ++ (be 4 (maskOf e.n) ++ (be 4 e.next ++ be 4 e.m32))) (by simp [encE]) rfl (by omega)
  have n4 : num (encE e) 4 4 = e.a := num_at (x := [0, 2] ++ be 2 e.tag) (y := be 4 (maskOf e.n) ++ (be 4 e.next ++ be 4 e.m32)) (by simp [encE]) (by simp [be_length]) (by omega)
  have n8 : num (encE e) 8 4 = maskOf e.n := num_at (x := [0, 2] ++ (be 2 e.tag ++ be 4 e.a)) (y := be 4 e.next ++ be 4 e.m32) (by simp [encE]) (by simp [be_length]) (by omega)
  have n12 : num (encE e) 12 4 = e.next := num_at (x := [0, 2] ++ (be 2 e.tag ++ (be 4 e.a ++ be 4 (maskOf e.n)))) (y := be 4 e.m32) (by simp [encE]) (by simp [be_length]) (by omega)
  have n16 : num (encE e) 16 4 = e.m32 := num_at (x := [0, 2] ++ (be 2 e.tag ++ (be 4 e.a ++ (be 4 (maskOf e.n) ++ be 4 e.next)))) (y := []) (by simp [encE]) (by simp [be_length]) (by omega)
  have hb : bitsOf (maskOf e.n) = some e.n.toNat := by
    refine bitsOf_some (by omega) ?_
    unfold maskOf
    rw [Nat.min_eq_left (by omega)]
  have hr : readEnt (encE e) = e := by
    unfold readEnt
    rw [n2, n4, n8, n12, n16, hb]
    cases e with | mk a n tag next m =>
    dsimp only at hm hn0 ⊢
    rw [hm]
    simp only [Option.getD_some]
    congr 1
    omega
  refine ⟨hr, ?_⟩
  unfold readOk
  rw [hr, h, n8, hb]
  rfl
theorem enc_read {l : List UInt8} (hl : l.length = 20) (h : readOk l = true) : encE (readEnt l) = l ∧ entB (readEnt l) = true := by
  unfold readOk at h
  simp only [Bool.and_eq_true, beq_iff_eq] at h
  obtain ⟨hb, he, h0, h1⟩ := h
  refine ⟨?_, he⟩
  obtain ⟨k, hk⟩ := Option.isSome_iff_exists.1 hb
  have hk2 : maskN k = num l 8 4 ∧ k ≤ 32 := by
    unfold bitsOf at hk
    have h2 := List.find?_some hk
    have h3 := List.mem_range.1 (List.mem_of_find?_eq_some hk)
    exact ⟨by simpa using h2, by omega⟩
  have hm : maskOf (readEnt l).n = num l 8 4 := by
    show maskOf (((bitsOf (num l 8 4)).getD 0 : Nat) : Int) = _
    rw [hk]
    unfold maskOf
    rw [Option.getD_some, Int.toNat_natCast, Nat.min_eq_left hk2.2]
    exact hk2.1
  have h32 : (readEnt l).m32 = num l 16 4 := by
    have := num_lt l 16 4
    unfold Ent.m32
    show ((((num l 16 4 : Nat) : Int)) % 4294967296).toNat = _
    omega
  unfold encE
  rw [hm, h32]
  show [0, 2] ++ (be 2 (num l 2 2) ++ (be 4 (num l 4 4) ++ (be 4 (num l 8 4) ++ (be 4 (num l 12 4) ++ be 4 (num l 16 4))))) = l
  rw [be_num (by omega), be_num (by omega), be_num (by omega), be_num (by omega), be_num (by omega)]
  have h16 : (l.drop 16).take 4 = l.drop 16 := List.take_of_length_le (by simp; omega)
  have h2 : l = [0, 2] ++ l.drop 2 := by
    match l, h0, h1 with
    | a :: b :: r, h0, h1 =>
      simp at h0 h1
      simp [h0, h1]
  rw [h16, ← cut_app 12 4, ← cut_app 8 4, ← cut_app 4 4, ← cut_app 2 2]
  exact h2.symm
/-- Twenty bytes for each. -/
def chunks : Nat → List UInt8 → List (List UInt8)
  | 0, _ => []
  | n + 1, l => l.take 20 :: chunks n (l.drop 20)
theorem chunks_enc (es : List Ent) : chunks es.length (es.flatMap encE) = es.map encE := by
  induction es with
  | nil => rfl
  | cons e es ih =>
    rw [List.flatMap_cons, List.length_cons, List.map_cons]
    unfold chunks
    have h1 := encE_len e
    rw [show (encE e ++ es.flatMap encE).take 20 = encE e by rw [← h1, List.take_left], show (encE e ++ es.flatMap encE).drop 20 = es.flatMap encE by rw [← h1, List.drop_left], ih]
theorem chunks_len {n : Nat} : ∀ {l : List UInt8}, l.length = n * 20 → ∀ c ∈ chunks n l, c.length = 20 := by
  induction n with
  | zero => intro l _ c hc; simp [chunks] at hc
  | succ n ih =>
    intro l hl c hc
    unfold chunks at hc
    rcases List.mem_cons.1 hc with rfl | hc
    · simp; omega
    · exact ih (l := l.drop 20) (by simp; omega) c hc
theorem enc_chunks {n : Nat} : ∀ {l : List UInt8}, l.length = n * 20 → (chunks n l).all readOk = true → ((chunks n l).map readEnt).flatMap encE = l ∧ ((chunks n l).map readEnt).all entB = true := by
  induction n with
  | zero =>
    intro l hl _
    have : l = [] := List.eq_nil_of_length_eq_zero (by omega)
    subst this
    exact ⟨rfl, rfl⟩
  | succ n ih =>
    intro l hl ha
    unfold chunks at ha ⊢
    rw [List.all_cons, Bool.and_eq_true] at ha
    obtain ⟨h1, h2⟩ := ih (l := l.drop 20) (by simp; omega) ha.2
    obtain ⟨h3, h4⟩ := enc_read (l := l.take 20) (by simp; omega) ha.1
    rw [List.map_cons, List.flatMap_cons, List.all_cons, h1, h2, h3, h4, List.take_append_drop]
    exact ⟨rfl, rfl⟩
abbrev RPk := Int × Bool × List Ent
def none5 : RPk := (0, false, [])
def formR (l : List UInt8) : Bool := decide (4 ≤ l.length) && (decide ((l.length - 4) % 20 = 0) && ((l[0]? == some 1 || l[0]? == some 2) && (l[1]? == some 2 && (l[2]? == some 0 && l[3]? == some 0))))
def entsR (l : List UInt8) : Option (List Ent) := if (chunks (l.length / 20) l).all readOk then some ((chunks (l.length / 20) l).map readEnt) else none
/-- The packet and the error of bytes. -/
def decR (l : List UInt8) : RPk × Int :=
  if formR l = false then (none5, 2) else if l.length > 504 then (none5, 9) else if l[0]? = some 1 ∧ l.drop 4 = wholeB then ((1, true, []), 0)
  else match entsR (l.drop 4) with
    | some es => ((((l[0]?.getD 0).toNat : Nat), false, es), 0)
    | none => (none5, 2)
theorem decR_short {l : List UInt8} (h : l.length < 4 ∨ (l.length - 4) % 20 ≠ 0) : decR l = (none5, 2) := by
  have hf : formR l = false := by
    unfold formR
    rcases h with h | h
    · rw [decide_eq_false (p := 4 ≤ l.length) (by omega)]; rfl
    · rw [decide_eq_false (p := (l.length - 4) % 20 = 0) h, Bool.false_and, Bool.and_false]
  unfold decR
  rw [if_pos hf]
theorem wholeB_len : wholeB.length = 20 := by simp [wholeB, be_length]
theorem encB_length (c : Int) (w : Bool) (es : List Ent) : (encB c w es).length = 4 + (if w then 20 else 20 * es.length) := by
  unfold encB
  cases w with
  | false => simp only [Bool.false_eq_true, if_false, List.length_append, flat_len, List.length_cons, List.length_nil]; omega
  | true => simp only [if_true, List.length_append, wholeB_len, List.length_cons, List.length_nil]
theorem formR_enc {c : Int} {w : Bool} {es : List Ent} (hc : c = 1 ∨ c = 2) : formR (encB c w es) = true := by
  have hl := encB_length c w es
  have h20 : ((encB c w es).length - 4) % 20 = 0 := by
    rw [hl]
    cases w
    · simp only [Bool.false_eq_true, if_false]; omega
    · simp only [if_true]
  unfold formR
  rw [decide_eq_true (p := 4 ≤ (encB c w es).length) (by omega), decide_eq_true h20]
  rcases hc with rfl | rfl <;> rfl
theorem wholeB_enc {es : List Ent} (h : es.flatMap encE = wholeB) : False := by
  cases es with
  | nil => have := congrArg List.length h; rw [wholeB_len] at this; cases this
  | cons e es =>
    have := congrArg (fun l : List UInt8 => l[1]?) h
    simp [encE, wholeB] at this
/-- What was encoded is decoded so. -/
theorem dec_enc {c : Int} {w : Bool} {es : List Ent} (hok : ∀ e ∈ es, e.ok) (h : (encR c w es).2 = 0) : encR c w es = (encB c w es, 0) ∧ es.length ≤ 25 ∧ decR (encB c w es) = ((c, w, es), 0) := by
  unfold encR at h ⊢
  split at h
  · cases h
  rename_i h25
  split at h
  · cases h
  rename_i hno
  rw [if_neg h25, if_neg hno]
  refine ⟨rfl, by omega, ?_⟩
  have hc : c = 1 ∨ c = 2 := by
    by_cases h1 : c = 1
    · exact .inl h1
    · by_cases h2 : c = 2
      · exact .inr h2
      · exact absurd (.inl ⟨h1, h2⟩) hno
  have hw : w = true → c = 1 ∧ es = [] := fun hw => by
    by_cases h1 : c = 1
    · by_cases h2 : es.length > 0
      · exact absurd (.inr (.inl ⟨hw, .inr h2⟩)) hno
      · exact ⟨h1, List.eq_nil_of_length_eq_zero (by omega)⟩
    · exact absurd (.inr (.inl ⟨hw, .inl h1⟩)) hno
  have ha : es.all entB = true := by
    cases hh : es.all entB with
    | true => rfl
    | false => exact absurd (.inr (.inr hh)) hno
  have hl := encB_length c w es
  unfold decR
  rw [if_neg (by rw [formR_enc hc]; simp), if_neg (by rw [hl]; cases w <;> simp only [Bool.false_eq_true, if_false, if_true] <;> omega)]
  cases w with
  | true =>
    obtain ⟨rfl, rfl⟩ := hw rfl
    rw [if_pos ⟨rfl, rfl⟩]
  | false =>
    have hd : (encB c false es).drop 4 = es.flatMap encE := by simp [encB]
    rw [hd, if_neg (fun hh => wholeB_enc hh.2)]
    have he : entsR (es.flatMap encE) = some es := by
      unfold entsR
      rw [flat_len, Nat.mul_div_cancel _ (by omega), chunks_enc]
      have h1 : (es.map encE).all readOk = true := by
        rw [List.all_map, List.all_eq_true]
        intro e he
        exact (read_enc (hok e he) (List.all_eq_true.1 ha e he)).2
      have h2 : (es.map encE).map readEnt = es := by
        rw [List.map_map]
        conv => rhs; rw [← List.map_id es]
        exact List.map_congr_left fun e he => (read_enc (hok e he) (List.all_eq_true.1 ha e he)).1
      rw [if_pos h1, h2]
    rw [he]
    rcases hc with rfl | rfl <;> rfl
/-- What was decoded is encoded as just these bytes. -/
theorem enc_dec {l : List UInt8} {p : RPk} (h : decR l = (p, 0)) : encR p.1 p.2.1 p.2.2 = (l, 0) ∧ p.2.2.length ≤ 25 := by
  unfold decR at h
  split at h
  · cases h
  rename_i hf
  split at h
  · cases h
  rename_i h504
  have hf : formR l = true := by simpa using hf
  unfold formR at hf
  simp only [Bool.and_eq_true, decide_eq_true_eq, Bool.or_eq_true, beq_iff_eq] at hf
  obtain ⟨h4, h20, hc, h1, h2, h3⟩ := hf
  obtain ⟨b0, hb0, hb⟩ : ∃ b0, l = [b0, 2, 0, 0] ++ l.drop 4 ∧ (b0 = 1 ∨ b0 = 2) := by
    match l, hc, h1, h2, h3 with
    | a :: b :: c :: d :: r, hc, h1, h2, h3 =>
      simp at hc h1 h2 h3
      exact ⟨a, by simp [h1, h2, h3], hc⟩
  have hl0 : l[0]? = some b0 := by rw [hb0]; rfl
  split at h
  · rename_i hw
    obtain ⟨hw1, hw2⟩ := hw
    injection h with h5 _
    subst h5
    rw [hl0] at hw1
    injection hw1 with hw1
    subst hw1
    refine ⟨?_, by simp⟩
    show encR 1 true [] = (l, 0)
    rw [hb0, hw2]
    rfl
  · cases he : entsR (l.drop 4) with
    | none => rw [he] at h; cases h
    | some es =>
      rw [he] at h
      injection h with h5 _
      subst h5
      dsimp only
      unfold entsR at he
      split at he
      · rename_i ha
        injection he with he
        have hlen : (l.drop 4).length = ((l.drop 4).length / 20) * 20 := by simp; omega
        obtain ⟨h6, h7⟩ := enc_chunks hlen ha
        rw [he] at h6 h7
        have hn : es.length ≤ 25 := by
          have := flat_len es
          rw [h6] at this
          simp at this
          omega
        refine ⟨?_, hn⟩
        unfold encR
        rw [if_neg (by omega), if_neg]
        · rw [hl0, Option.getD_some]
          have : encB (b0.toNat : Nat) false es = l := by
            unfold encB
            rw [h6, Int.toNat_natCast]
            conv => rhs; rw [hb0]
            rcases hb with rfl | rfl <;> rfl
          rw [this]
        · rw [hl0, Option.getD_some]
          rintro (⟨h8, h9⟩ | ⟨h8, _⟩ | h8)
          · rcases hb with rfl | rfl
            · exact h8 rfl
            · exact h9 rfl
          · cases h8
          · rw [h7] at h8; cases h8
      · cases he
theorem dec_bad {l : List UInt8} (h : (decR l).2 ≠ 0) : (decR l).1 = none5 := by
  unfold decR at h ⊢
  split
  · rfl
  · split
    · rfl
    · split
      · rename_i h1 h2 h3
        rw [if_neg h1, if_neg h2, if_pos h3] at h
        exact absurd rfl h
      · rename_i h1 h2 h3
        rw [if_neg h1, if_neg h2, if_neg h3] at h
        cases he : entsR (l.drop 4) with
        | none => rfl
        | some es => rw [he] at h; exact absurd rfl h
end Go.Proofs.YtahllmihgpaaeaaS
