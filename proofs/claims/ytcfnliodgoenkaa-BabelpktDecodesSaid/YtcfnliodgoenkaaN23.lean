import Derived.Test.YtcfnliodgoenkaaN22
set_option linter.unusedVariables false
namespace Go.Proofs.YtcfnliodgoenkaaS
theorem low16_small {n : Nat} (h : n < 65536) : low16 (n : Nat) = n := by unfold low16; omega
theorem decR_form {W : List UInt8} (h : W.length < 65536) : decR ([42, 2] ++ (be 2 (low16 (W.length : Nat)) ++ W)) = finR (decD zeroD W) := by
  have hl : ([42, 2] ++ (be 2 (low16 (W.length : Nat)) ++ W) : List UInt8).length = W.length + 4 := by simp [be_length]; omega
  have hn : num ([42, 2] ++ (be 2 (low16 (W.length : Nat)) ++ W)) 2 2 = low16 (W.length : Nat) := num_at (x := [42, 2]) (y := W) rfl rfl (low16_lt _)
  rw [low16_small h] at hn
  rw [decR_fin (by omega) rfl rfl (by rw [low16_small h] at *; omega)]
  rfl
theorem decD_enc0 {ts : List Tlv} (hall : ts.all mayT = true) (hok : ∀ t ∈ ts, t.ok) (rest : List UInt8) : decD zeroD (encW w0 ts ++ rest) = decD (ofW (ts.foldl partS w0) ts) rest := by
  have := decD_enc ts w0 [] rest fun t ht => ⟨List.all_eq_true.1 hall t ht, hok t ht⟩
  rw [List.nil_append] at this
  exact this
theorem finR_ok {s : Dst} (h : s.l.length ≤ 40) : finR (some s) = (s.l, 0) := by
  unfold finR; simp only; rw [if_neg (by omega)]
theorem decR_enc {ts : List Tlv} (h0 : (bencR ts).2 = 0) (hok : ∀ t ∈ ts, t.ok) : decR (bencR ts).1 = (ts, 0) := by
  obtain ⟨e, h40, hall⟩ := benc_ok h0
  have hl := encW_len ts w0 hall
  rw [e]
  show decR ([42, 2] ++ (be 2 (low16 ((encW w0 ts).length : Nat)) ++ encW w0 ts)) = _
  rw [decR_form (by omega)]
  have := decD_enc0 hall hok []
  rw [List.append_nil, decD_nil] at this
  rw [this]
  exact finR_ok h40
theorem decR_strange {ts : List Tlv} {k : UInt8} {d : List UInt8} (hall : ts.all mayT = true) (h40 : ts.length ≤ 40) (hok : ∀ t ∈ ts, t.ok) (hk : k.toNat < 4 ∨ 10 < k.toNat ∨ k.toNat = 7) (hd : d.length ≤ 100) :
    decR ([42, 2] ++ (be 2 (low16 ((encW w0 ts ++ tlvB k d).length : Nat)) ++ (encW w0 ts ++ tlvB k d))) = (ts, 0) := by
  have hl := encW_len ts w0 hall
  have hl2 := tlvB_len k d
  rw [decR_form (by rw [List.length_append]; omega), decD_enc0 hall hok]
  have ht : ∀ s, takeD s k d = some s := fun s => by
    have ne : ∀ j : UInt8, k.toNat ≠ j.toNat → k ≠ j := fun j h e => h (by rw [e])
    unfold takeD
    rw [if_neg, if_neg, if_neg]
    · rintro (e | e) <;> rw [e] at hk <;> revert hk <;> decide
    · intro e; rw [e] at hk; revert hk; decide
    · rintro (e | e | e) <;> rw [e] at hk <;> revert hk <;> decide
  have := decD_tlv (s := ofW (ts.foldl partS w0) ts) (k := k) (b := d) (rest := []) (by omega)
  rw [List.append_nil, ht] at this
  rw [this]
  show finR (decD _ []) = _
  rw [decD_nil]
  exact finR_ok h40
theorem decR_short {b : List UInt8} (h : b.length < 4) : decR b = ([], 2) := by
  unfold decR; rw [if_pos h]
theorem decR_bad {b : List UInt8} (h : num b 2 2 ≠ b.length - 4) : decR b = ([], 2) := by
  unfold decR
  split
  · rfl
  split
  · rfl
  split
  · rfl
  first | (rw [if_pos h]; done) | rfl | (split; rfl; rename_i hx; exact absurd h hx)
theorem num_take {b : List UInt8} {m : Nat} (h : 4 ≤ m) : num (b.take m) 2 2 = num b 2 2 := by
  unfold num
  rw [List.drop_take, List.take_take, Nat.min_eq_left (by omega)]
theorem num_app {b x : List UInt8} (h : 4 ≤ b.length) : num (b ++ x) 2 2 = num b 2 2 := by
  have h1 := num_take (b := b ++ x) (m := b.length) h
  rw [List.take_left] at h1
  exact h1.symm
theorem benc_num {ts : List Tlv} (h0 : (bencR ts).2 = 0) : 4 ≤ (bencR ts).1.length ∧ (bencR ts).1.length ≤ 2000 ∧ num (bencR ts).1 2 2 = (bencR ts).1.length - 4 := by
  obtain ⟨e, h40, hall⟩ := benc_ok h0
  have hl := encW_len ts w0 hall
  have hb := benc_len h0
  refine ⟨by omega, by omega, ?_⟩
  have hn : num ([42, 2] ++ (be 2 (low16 ((encW w0 ts).length : Nat)) ++ encW w0 ts)) 2 2 = low16 ((encW w0 ts).length : Nat) := num_at (x := [42, 2]) (y := encW w0 ts) rfl rfl (low16_lt _)
  rw [hb, e, hn, low16_small (by omega)]
  omega
theorem decR_more {b x : List UInt8} (h : 4 ≤ b.length) (hn : num b 2 2 = b.length - 4) (hx : 1 ≤ x.length) : decR (b ++ x) = ([], 2) :=
  decR_bad (by rw [num_app h, hn, List.length_append]; omega)
theorem decR_cut {b : List UInt8} {m : Nat} (hn : num b 2 2 = b.length - 4) (hm : m < b.length) : decR (b.take m) = ([], 2) := by
  by_cases h : m < 4
  · exact decR_short (by rw [List.length_take]; omega)
  · exact decR_bad (by rw [num_take (by omega), hn, List.length_take]; omega)
theorem decR_err {b : List UInt8} (h : (decR b).2 ≠ 0) : (decR b).1 = [] := by
  unfold decR at h ⊢
  split
  · rfl
  split
  · rfl
  split
  · rfl
  split
  · rfl
  rename_i h1 h2 h3 h4
  rw [if_neg h1, if_neg h2, if_neg h3, if_neg h4] at h
  split
  · rfl
  rename_i s hs
  rw [hs] at h
  simp only at h ⊢
  split
  · rfl
  · rename_i hq
    rw [if_neg hq] at h
    exact absurd rfl h
/-! What is decoded may be. -/
theorem num_le (b : List UInt8) (i : Nat) : (0 : Int) ≤ (num b i 2 : Nat) ∧ ((num b i 2 : Nat) : Int) ≤ 65535 := by
  have := num_lt b i 2
  omega
theorem may_mk {t : Tlv} (h1 : mayB t.a t.n = true) (h2 : 0 ≤ t.iv ∧ t.iv ≤ 65535 ∧ 0 ≤ t.cost ∧ t.cost ≤ 65535 ∧ 0 ≤ t.hops ∧ t.hops ≤ 255) (h3 : KindP t) : mayT t = true := by
  unfold mayT
  rw [h1, Bool.true_and, decide_eq_true_eq]
  exact ⟨h2, h3⟩
theorem may0 : mayB 0 0 = true := by decide
theorem okP_may {n : Int} {w : List UInt8} (h : okP n w = true) : mayB (prefV w) n = true := by
  unfold okP at h
  simp only [Bool.and_eq_true] at h
  exact h.2
theorem all_snoc {l : List Tlv} {t : Tlv} (h : ∀ x ∈ l, mayT x = true) (ht : mayT t = true) : ∀ x ∈ l ++ [t], mayT x = true := by
  intro x hx
  rcases List.mem_append.1 hx with hx | hx
  · exact h x hx
  · rw [List.mem_singleton.1 hx]; exact ht
theorem hello_may (b : List UInt8) : mayT (helloT b) = true := by
  have h1 := num_le b 4
  refine may_mk may0 ?_ ?_
  · unfold helloT; simp only; omega
  · unfold KindP helloT; simp
theorem ihu_may (b : List UInt8) : mayT (ihuT b) = true := by
  have h1 := num_le b 4
  have h2 := num_le b 2
  refine may_mk may0 ?_ ?_
  · unfold ihuT; simp only; omega
  · unfold KindP ihuT; simp
theorem ask_may {b : List UInt8} (h : okP (bitsD b 1) (b.drop 2) = true) : mayT (askT b) = true := by
  refine may_mk (okP_may h) ?_ ?_
  · unfold askT; simp
  · unfold KindP askT; simp
theorem askS_may {b : List UInt8} (h : okP (bitsD b 1) (b.drop 14) = true) : mayT (askST b) = true := by
  have h1 := bits_le b 4
  refine may_mk (okP_may h) ?_ ?_
  · unfold askST; simp only; omega
  · unfold KindP askST; simp
theorem upd_may {s : Dst} {b : List UInt8} {g : Nat} (h : ¬ okP (bitsD b 2) (wordD s b) = false) : mayT (updTl s b g) = true := by
  have h1 := num_le b 4
  have h2 := num_le b 8
  have h3 : okP (bitsD b 2) (wordD s b) = true := by simpa using h
  refine may_mk (okP_may h3) ?_ ?_
  · unfold updTl; simp only; omega
  · unfold KindP updTl; simp
theorem take_may {s s' : Dst} {k : UInt8} {b : List UInt8} (h : takeD s k b = some s') (hs : ∀ x ∈ s.l, mayT x = true) : ∀ x ∈ s'.l, mayT x = true := by
  unfold takeD at h
  by_cases h1 : k = 4 ∨ k = 5 ∨ k = 6
  · rw [if_pos h1] at h
    unfold shortD at h
    have h := (no_if (no_if (no_if h).2).2).2
    by_cases h6 : k = 6
    · rw [if_pos h6] at h
      split at h
      · injection h with h; subst h; exact hs
      · cases h
    · rw [if_neg h6] at h
      have h := (no_if h).2
      split at h
      · injection h with h; subst h; exact all_snoc hs (hello_may b)
      · split at h
        · injection h with h; subst h; exact all_snoc hs (ihu_may b)
        · cases h
  rw [if_neg h1] at h
  by_cases h2 : k = 8
  · rw [if_pos h2] at h
    unfold updD at h
    have h := (no_if (no_if (no_if (no_if (no_if (no_if (no_if h).2).2).2).2).2).2).2
    obtain ⟨hok, h⟩ := no_if h
    by_cases h3 : b.length = 10 + newD b
    · rw [if_pos h3] at h; injection h with h; subst h; exact all_snoc hs (upd_may hok)
    · rw [if_neg h3] at h
      have h := (no_if (no_if (no_if (no_if h).2).2).2).2
      injection h with h; subst h; exact all_snoc hs (upd_may hok)
  rw [if_neg h2] at h
  by_cases h3 : k = 9 ∨ k = 10
  · rw [if_pos h3] at h
    unfold askD at h
    have h := (no_if (no_if (no_if h).2).2).2
    by_cases h4 : k = 10
    · rw [if_pos h4] at h
      have h := (no_if (no_if h).2).2
      split at h
      · rename_i hok; injection h with h; subst h; exact all_snoc hs (askS_may hok)
      · cases h
    · rw [if_neg h4] at h
      split at h
      · rename_i hok; injection h with h; subst h; exact all_snoc hs (ask_may hok)
      · cases h
  rw [if_neg h3] at h
  injection h with h; subst h; exact hs
theorem decD_may : ∀ (q : Nat) (l : List UInt8) (s s' : Dst), l.length ≤ q → decD s l = some s' → (∀ x ∈ s.l, mayT x = true) → ∀ x ∈ s'.l, mayT x = true := by
  intro q
  induction q with
  | zero =>
    intro l s s' hq h hs
    obtain rfl : l = [] := List.length_eq_zero_iff.1 (by omega)
    rw [decD_nil] at h; injection h with h; subst h; exact hs
  | succ q ih =>
    intro l s s' hq h hs
    match l, hq, h with
    | [], hq, h => rw [decD_nil] at h; injection h with h; subst h; exact hs
    | [k], hq, h => rw [decD_one] at h; cases h
    | k :: n :: r, hq, h =>
      rw [decD_cons] at h
      obtain ⟨hc, h⟩ := no_if h
      cases ht : takeD s k (r.take n.toNat) with
      | none => rw [ht] at h; cases h
      | some s1 =>
        rw [ht] at h
        exact ih (r.drop n.toNat) s1 s' (by simp at hq ⊢; omega) h (take_may ht hs)
theorem decR_ok {b : List UInt8} (h : (decR b).2 = 0) : (decR b).1.length ≤ 40 ∧ (decR b).1.all mayT = true := by
  unfold decR at h ⊢
  split at h
  · cases h
  split at h
  · cases h
  split at h
  · cases h
  split at h
  · cases h
  rename_i h1 h2 h3 h4
  rw [if_neg h1, if_neg h2, if_neg h3, if_neg h4]
  split at h
  · cases h
  rename_i s hs
  split at h
  · cases h
  rename_i h5
  rw [if_neg h5]
  exact ⟨by simp only; omega, List.all_eq_true.2 (decD_may _ _ zeroD s (Nat.le_refl _) hs fun x hx => by cases hx)⟩
theorem benc_good {ts : List Tlv} (h : ts.length ≤ 40) (hall : ts.all mayT = true) : (bencR ts).2 = 0 := by
  unfold bencR
  rw [if_neg (by omega), if_neg (by rw [hall]; simp)]
end Go.Proofs.YtcfnliodgoenkaaS
