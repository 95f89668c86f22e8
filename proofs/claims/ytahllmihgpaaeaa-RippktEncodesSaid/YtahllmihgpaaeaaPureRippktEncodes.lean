/-
Any packet is the bytes, or refused, as the document says. No condition beyond the statement's own.
-/
import Derived.Test.YtahllmihgpaaeaaPRippktEncodesx6
import Derived.Laws.BitsAllLaws
namespace Go.Proofs.Ytahllmihgpaaeaa.Pure
open Go.RowKit Go.Proofs.Ytahllmihgpaaeaa.PRippktEncodes Go.Proofs.YtahllmihgpaaeaaW.PrintWords Go.Proofs.YtahllmihgpaaeaaW.PrintLast Go.Proofs.YtahllmihgpaaeaaW.PrintMore

theorem byte_of {x : Int} (h : (Lit.int .u8 x).wf = true) : 0 ≤ x ∧ x ≤ 255 := by
  simp [Lit.wf, IntKind.min, IntKind.max, IntKind.bits, IntKind.signed] at h
  omega
theorem u16_of {x : Int} (h : (Lit.int .u16 x).wf = true) : 0 ≤ x ∧ x ≤ 65535 := by
  simp [Lit.wf, IntKind.min, IntKind.max, IntKind.bits, IntKind.signed] at h
  omega
theorem u32_of {x : Int} (h : (Lit.int .u32 x).wf = true) : 0 ≤ x ∧ x ≤ 4294967295 := by
  simp [Lit.wf, IntKind.min, IntKind.max, IntKind.bits, IntKind.signed] at h
  omega
theorem i64_of {x : Int} (h : (Lit.int .i64 x).wf = true) : -9223372036854775808 ≤ x ∧ x ≤ 9223372036854775807 := by
  simp [Lit.wf, IntKind.min, IntKind.max, IntKind.bits, IntKind.signed] at h
  omega
theorem w64 {x : Int} (h : -9223372036854775808 ≤ x ∧ x ≤ 9223372036854775807) : wrap64 x = x := by unfold wrap64; omega
theorem awake_now : octroilaw05_awake.f 60 = some true := by decide +kernel
theorem awake_ev : Ev octroilaw05_awake.f true := Ev.of octroilaw05_awake.mono awake_now
theorem of_ev {g : Nat → Option Bool} (h : Ev g true) : ∃ k, g k = some true := h.rounds
theorem w_0 : wrap64 0 = 0 := by decide +kernel
theorem w_1 : wrap64 1 = 1 := by decide +kernel
theorem w_2 : wrap64 2 = 2 := by decide +kernel
theorem w_3 : wrap64 3 = 3 := by decide +kernel
theorem w_4 : wrap64 4 = 4 := by decide +kernel
theorem w_5 : wrap64 5 = 5 := by decide +kernel
theorem w_6 : wrap64 6 = 6 := by decide +kernel
theorem w_8 : wrap64 8 = 8 := by decide +kernel
theorem w_12 : wrap64 12 = 12 := by decide +kernel
theorem w_16 : wrap64 16 = 16 := by decide +kernel
theorem w_20 : wrap64 20 = 20 := by decide +kernel
theorem w_24 : wrap64 24 = 24 := by decide +kernel
/-- How many addresses a prefix of so many bits has. -/
def low (n : Nat) : Nat := 2 ^ (32 - n)
theorem low_pos (n : Nat) : 0 < low n := Nat.two_pow_pos _
def mskv (n : Nat) : Int := ((4294967296 - low n : Nat) : Int)
theorem low_le (n : Nat) : low n ≤ 4294967296 := by
  have : low n ≤ 2 ^ 32 := Nat.pow_le_pow_right (by omega) (by omega)
  omega
theorem msk_bound (n : Nat) : 0 ≤ mskv n ∧ mskv n ≤ 4294967295 := by
  have := low_pos n
  unfold mskv
  omega
theorem Mask_all : ∀ n : Fin 33, prefix_Mask.f ((n.1 : Nat) : Int) = some (mskv n.1) := by decide +kernel
theorem Mask_eq {n : Int} (h0 : 0 ≤ n) (h1 : n ≤ 32) : prefix_Mask.f n = some (mskv n.toNat) := by
  have := Mask_all ⟨n.toNat, by omega⟩
  simpa only [Int.toNat_of_nonneg h0] using this
theorem refMask_all : ∀ n : Fin 33, octroiref02_Mask.f 40 ((n.1 : Nat) : Int) = some (mskv n.1) := by decide +kernel
theorem refMask_ev {n : Int} (h0 : 0 ≤ n) (h1 : n ≤ 32) : Ev (fun k => octroiref02_Mask.f k n) (mskv n.toNat) := by
  have := refMask_all ⟨n.toNat, by omega⟩
  simp only [Int.toNat_of_nonneg h0] at this
  exact Ev.of (octroiref02_Mask.mono n) this
theorem not_mask (a n : Nat) (ha : a < 4294967296) : bits .andNot .u32 (a : Int) (mskv n) = ((a % low n : Nat) : Int) := by
  have hp := low_pos n
  have hl := low_le n
  unfold mskv
  rw [u32_andNot_nat a _ ha (by omega), show 4294967295 - (4294967296 - low n) = low n - 1 by omega]
  unfold low
  rw [Nat.and_two_pow_sub_one_eq_mod]
theorem and_mask (a n : Nat) (ha : a < 4294967296) (hn : n ≤ 32) : (bits .and .u32 (a : Int) (mskv n) = (a : Int)) ↔ a % low n = 0 := by
  have hp := low_pos n
  have hl := low_le n
  have hm : 4294967296 - low n = (2 ^ n - 1) * low n := by
    unfold low
    rw [Nat.sub_mul, ← Nat.pow_add, show n + (32 - n) = 32 by omega, Nat.one_mul]
  unfold mskv
  rw [u32_and_nat a _ ha (by omega), hm]
  constructor
  · intro h
    have h : (a &&& (2 ^ n - 1) * low n) = a := by exact_mod_cast h
    have e : (a &&& (2 ^ n - 1) * low n) % low n = 0 := by
      unfold low
      rw [Nat.and_mod_two_pow, Nat.mul_mod_left, Nat.and_zero]
    rw [h] at e
    exact e
  · intro h
    have e : a = (a / low n) * low n := by
      have := Nat.div_add_mod a (low n)
      rw [h, Nat.add_zero, Nat.mul_comm] at this
      exact this.symm
    have q : a / low n < 2 ^ n := by
      rw [Nat.div_lt_iff_lt_mul hp]
      unfold low
      rw [← Nat.pow_add, show n + (32 - n) = 32 by omega]
      omega
    have : (a / low n * low n &&& (2 ^ n - 1) * low n) = a / low n * low n := by
      generalize a / low n = b at q
      unfold low
      rw [← Nat.shiftLeft_eq, ← Nat.shiftLeft_eq, ← Nat.shiftLeft_and_distrib, Nat.and_two_pow_sub_one_eq_mod, Nat.mod_eq_of_lt q]
    rw [← e] at this
    exact_mod_cast this
/-- May a prefix be? -/
def mayB (a n : Int) : Bool := decide (0 ≤ n ∧ n ≤ 32 ∧ a.toNat % low n.toNat = 0)
theorem May_eq {a n : Int} (ha : 0 ≤ a ∧ a ≤ 4294967295) : prefix_May.f a n = some (mayB a n) := by
  obtain ⟨a, rfl⟩ : ∃ m : Nat, a = m := ⟨a.toNat, by omega⟩
  unfold prefix_May.f mayB
  by_cases h0 : n ≥ 0
  · by_cases h1 : n ≤ 32
    · rw [if_pos h0, if_pos h1, Mask_eq h0 h1, Option.bind_some, not_mask a _ (by omega)]
      congr 1
      rw [Bool.eq_iff_iff]
      simp only [beq_iff_eq, decide_eq_true_eq, Int.toNat_natCast]
      constructor
      · intro h; exact ⟨h0, h1, by omega⟩
      · intro h; omega
    · rw [if_pos h0, if_neg h1, decide_eq_false (by omega)]
  · rw [if_neg h0, decide_eq_false (by omega)]
theorem refMay_ev {a n : Int} (ha : 0 ≤ a ∧ a ≤ 4294967295) : Ev (fun k => octroiref02_May.f k a n) (mayB a n) := by
  obtain ⟨a, rfl⟩ : ∃ m : Nat, a = m := ⟨a.toNat, by omega⟩
  unfold octroiref02_May.f mayB
  by_cases h0 : n ≥ 0
  · by_cases h1 : n ≤ 32
    · simp only [if_pos h0, if_pos h1]
      refine Ev.bind (refMask_ev h0 h1) ?_
      have e : (bits .and .u32 (a : Int) (mskv n.toNat) == (a : Int)) = decide (0 ≤ n ∧ n ≤ 32 ∧ (a : Int).toNat % low n.toNat = 0) := by
        have := and_mask a n.toNat (by omega) (by omega)
        rw [Bool.eq_iff_iff, beq_iff_eq, this, decide_eq_true_eq, Int.toNat_natCast]
        constructor
        · intro h; exact ⟨h0, h1, h⟩
        · intro h; exact h.2.2
      rw [e]
      exact Ev.now _
    · simp only [if_pos h0, if_neg h1, decide_eq_false (show ¬ (0 ≤ n ∧ n ≤ 32 ∧ (a : Int).toNat % low n.toNat = 0) by omega)]
      exact Ev.now _
  · simp only [if_neg h0, decide_eq_false (show ¬ (0 ≤ n ∧ n ≤ 32 ∧ (a : Int).toNat % low n.toNat = 0) by omega)]
    exact Ev.now _
theorem unstep {α : Type} (g : Nat → Option α) {r : α} (h : Ev (fun k => g (k + 1)) r) : Ev g r := Ev.step (fun _ => rfl) h

def ent (e : S41) : Bool := mayB e.f0.f0 e.f0.f1 && decide (1 ≤ e.f3 ∧ e.f3 ≤ 16)
structure Fits (e : S41) : Prop where
  a : 0 ≤ e.f0.f0 ∧ e.f0.f0 ≤ 4294967295
  t : 0 ≤ e.f1 ∧ e.f1 ≤ 65535
  x : 0 ≤ e.f2 ∧ e.f2 ≤ 4294967295
theorem fits {e : S41} (h : g41 e) : Fits e := ⟨u32_of h.1.1, u16_of h.2.1, u32_of h.2.2.1⟩
theorem ent_eq {e : S41} (h : Fits e) : rippkt_may.f e.f0.f0 e.f0.f1 e.f1 e.f2 e.f3 = some (ent e) := by
  unfold rippkt_may.f ent
  rw [May_eq h.a, Option.bind_some]
  cases mayB e.f0.f0 e.f0.f1
  · simp
  · by_cases c : e.f3 ≥ 1
    · simp [c]
    · simp [if_neg c]; omega
theorem bad_eq {e : S41} (h : Fits e) : rippkt_Encode_1.f e.f0.f0 e.f0.f1 e.f1 e.f2 e.f3 = some (!ent e) := by
  unfold rippkt_Encode_1.f
  rw [ent_eq h, Option.bind_some]
theorem refEnt_ev {e : S41} (h : Fits e) : Ev (fun k => octroiref05_entry.f k e.f0.f0 e.f0.f1 e.f1 e.f2 e.f3) (ent e) := by
  unfold octroiref05_entry.f ent
  refine Ev.bind (refMay_ev h.a) ?_
  cases mayB e.f0.f0 e.f0.f1
  · exact Ev.now _
  · by_cases c : e.f3 ≥ 1
    · simp only [if_true, if_pos c, Bool.true_and]
      have : decide (e.f3 ≤ 16) = decide (1 ≤ e.f3 ∧ e.f3 ≤ 16) := by rw [decide_eq_decide]; omega
      rw [this]
      exact Ev.now _
    · simp only [if_true, if_neg c, Bool.true_and, decide_eq_false (show ¬ (1 ≤ e.f3 ∧ e.f3 ≤ 16) by omega)]
      exact Ev.now _
theorem rd_get {l : List S41} {j : Nat} (h : j < l.length) : rd_T41 l j = l[j] := by
  unfold rd_T41
  rw [Int.toNat_natCast, List.getD_eq_getElem?_getD, List.getElem?_eq_getElem h, Option.getD_some]
theorem find_l0 {l : List S41} (h : ∀ e ∈ l, Fits e) (hl : l.length ≤ 100000) :
    ∀ (d j : Nat), j + d = l.length → ∃ r : Int, Ev (fun k => api_RipEntry_29.l0 k l l.length j) r ∧ decide (r ≥ 0) = (l.drop j).any (fun e => !ent e) := by
  intro d
  induction d with
  | zero =>
    intro j hj
    refine ⟨-1, ?_, ?_⟩
    · refine Ev.step (f := fun _ => some (-1)) (fun k => ?_) (Ev.now _)
      simp only [api_RipEntry_29.l0]
      rw [if_neg (by omega)]
    · rw [List.drop_eq_nil_of_le (by omega)]
      rfl
  | succ d ih =>
    intro j hj
    have hlt : j < l.length := by omega
    rw [List.drop_eq_getElem_cons hlt, List.any_cons]
    have hb := bad_eq (h l[j] (List.getElem_mem hlt))
    cases c : ent l[j]
    · refine ⟨j, ?_, ?_⟩
      · refine Ev.step (f := fun _ => some (j : Int)) (fun k => ?_) (Ev.now _)
        simp only [api_RipEntry_29.l0]
        rw [if_pos (by omega), if_pos (by omega), if_pos (by omega), rd_get hlt, hb, Option.bind_some, c]
        rfl
      · simp
    · obtain ⟨r, h1, h2⟩ := ih (j + 1) (by omega)
      refine ⟨r, ?_, by simpa using h2⟩
      refine Ev.step (f := fun k => api_RipEntry_29.l0 k l l.length (j + 1 : Nat)) (fun k => ?_) h1
      simp only [api_RipEntry_29.l0]
      rw [if_pos (by omega), if_pos (by omega), if_pos (by omega), rd_get hlt, hb, Option.bind_some, c, w64 (x := (j : Int) + 1) (by omega)]
      rfl
theorem find_ev {l : List S41} (h : ∀ e ∈ l, Fits e) (hl : l.length ≤ 100000) : Ev (fun k => api_RipEntry_18.f k l ()) (l.any (fun e => !ent e)) := by
  obtain ⟨r, h1, h2⟩ := find_l0 h hl l.length 0 (by omega)
  unfold api_RipEntry_18.f api_RipEntry_29.f
  refine Ev.bind h1 ?_
  rw [h2]
  exact Ev.now _
def be2 (n : Int) : List Int := [n / 256, n % 256]
def be4 (n : Int) : List Int := [n / 16777216, n / 65536 % 256, n / 256 % 256, n % 256]
theorem put_2 (n : Int) (h : 0 ≤ n) (h2 : n ≤ 65535) : num_put.f 10 n 2 = some (be2 n) := by
  have s0 : shr .u32 n 0 = n := by
    have e : (2 : Int) ^ min (0 : Int).toNat (IntKind.bits .u32) = 1 := by decide
    unfold shr
    rw [e]
    omega
  have s8 : shr .u32 n 8 = n / 256 := by
    have e : (2 : Int) ^ min (8 : Int).toNat (IntKind.bits .u32) = 256 := by decide
    unfold shr
    rw [e]
  have hm : n / 256 % 256 = n / 256 := by omega
  unfold num_put.f be2
  simp [num_put.l0, w_0, w_1, w_2, w_8, s0, s8, hm]
theorem put_4 (n : Int) (h : 0 ≤ n) (h2 : n ≤ 4294967295) : num_put.f 10 n 4 = some (be4 n) := by
  have s0 : shr .u32 n 0 = n := by
    have e : (2 : Int) ^ min (0 : Int).toNat (IntKind.bits .u32) = 1 := by decide
    unfold shr
    rw [e]
    omega
  have s8 : shr .u32 n 8 = n / 256 := by
    have e : (2 : Int) ^ min (8 : Int).toNat (IntKind.bits .u32) = 256 := by decide
    unfold shr
    rw [e]
  have s16 : shr .u32 n 16 = n / 65536 := by
    have e : (2 : Int) ^ min (16 : Int).toNat (IntKind.bits .u32) = 65536 := by decide
    unfold shr
    rw [e]
  have s24 : shr .u32 n 24 = n / 16777216 := by
    have e : (2 : Int) ^ min (24 : Int).toNat (IntKind.bits .u32) = 16777216 := by decide
    unfold shr
    rw [e]
  have hm : n / 16777216 % 256 = n / 16777216 := by omega
  unfold num_put.f be4
  simp [num_put.l0, w_0, w_1, w_2, w_3, w_4, w_8, w_16, w_24, s0, s8, s16, s24, hm]
theorem put16_ev (n : Int) (h : 0 ≤ n) (h2 : n ≤ 65535) : Ev (fun k => num_Put16.f k n) (be2 n) := by
  refine Ev.of (num_Put16.mono n) (k := 10) ?_
  unfold num_Put16.f
  rw [show n % 4294967296 = n by omega, put_2 n h h2]
  rfl
theorem put32_ev (n : Int) (h : 0 ≤ n) (h2 : n ≤ 4294967295) : Ev (fun k => num_Put32.f k n) (be4 n) := by
  refine Ev.of (num_Put32.mono n) (k := 10) ?_
  unfold num_Put32.f
  rw [put_4 n h h2]
  rfl
theorem refPut_2 (n : Int) (h : 0 ≤ n) (h2 : n ≤ 65535) : octroiref01_Put.f 10 n 2 = some (be2 n) := by
  have t1 : Int.tmod n 256 % 256 = n % 256 := by rw [Int.tmod_eq_emod_of_nonneg h]; omega
  have t2 : Int.tdiv n 256 % 4294967296 = n / 256 := by rw [Int.tdiv_eq_ediv_of_nonneg h]; omega
  have t3 : Int.tmod (n / 256) 256 % 256 = n / 256 := by rw [Int.tmod_eq_emod_of_nonneg (by omega)]; omega
  have wm : wrap64 (-1) = -1 := by decide +kernel
  unfold octroiref01_Put.f be2
  simp [octroiref01_Put.l0, w_0, w_1, wm, t1, t2, t3]
theorem refPut_4 (n : Int) (h : 0 ≤ n) (h2 : n ≤ 4294967295) : octroiref01_Put.f 10 n 4 = some (be4 n) := by
  have t1 : Int.tmod n 256 % 256 = n % 256 := by rw [Int.tmod_eq_emod_of_nonneg h]; omega
  have t2 : Int.tdiv n 256 % 4294967296 = n / 256 := by rw [Int.tdiv_eq_ediv_of_nonneg h]; omega
  have t3 : Int.tmod (n / 256) 256 % 256 = n / 256 % 256 := by rw [Int.tmod_eq_emod_of_nonneg (by omega)]; omega
  have t4 : Int.tdiv (n / 256) 256 % 4294967296 = n / 65536 := by rw [Int.tdiv_eq_ediv_of_nonneg (by omega)]; omega
  have t5 : Int.tmod (n / 65536) 256 % 256 = n / 65536 % 256 := by rw [Int.tmod_eq_emod_of_nonneg (by omega)]; omega
  have t6 : Int.tdiv (n / 65536) 256 % 4294967296 = n / 16777216 := by rw [Int.tdiv_eq_ediv_of_nonneg (by omega)]; omega
  have t7 : Int.tmod (n / 16777216) 256 % 256 = n / 16777216 := by rw [Int.tmod_eq_emod_of_nonneg (by omega)]; omega
  have wm : wrap64 (-1) = -1 := by decide +kernel
  unfold octroiref01_Put.f be4
  simp [octroiref01_Put.l0, w_0, w_1, w_2, w_3, wm, t1, t2, t3, t4, t5, t6, t7]
def encE (e : S41) : List Int := [0, 2] ++ be2 e.f1 ++ be4 e.f0.f0 ++ be4 (mskv e.f0.f1.toNat) ++ be4 e.f2 ++ be4 e.f3
theorem encE_len (e : S41) : (encE e).length = 20 := by simp [encE, be2, be4]
theorem concat6 (a0 a1 b0 b1 c0 c1 c2 c3 d0 d1 d2 d3 e0 e1 e2 e3 f0 f1 f2 f3 : Int) :
    slices_Concat_byte_byte.f 20 [[a0, a1], [b0, b1], [c0, c1, c2, c3], [d0, d1, d2, d3], [e0, e1, e2, e3], [f0, f1, f2, f3]] = some [a0, a1, b0, b1, c0, c1, c2, c3, d0, d1, d2, d3, e0, e1, e2, e3, f0, f1, f2, f3] := by
  unfold slices_Concat_byte_byte.f
  simp [slices_Concat_byte_byte.l0, slices_Concat_byte_byte.l1, slices_Grow_byte_byte.f, rd_L6, w_0, w_1, w_2, w_3, w_4, w_5, w_6, w_8, w_12, w_16, w_20]
theorem put_ev {e : S41} (h : Fits e) (he : ent e = true) : Ev (fun k => rippkt_put.f k e.f0.f0 e.f0.f1 e.f1 e.f2 e.f3) (encE e) := by
  simp only [ent, mayB, Bool.and_eq_true, decide_eq_true_eq] at he
  obtain ⟨⟨n0, n1, _⟩, m0, m1⟩ := he
  have hb := msk_bound e.f0.f1.toNat
  unfold rippkt_put.f
  refine Ev.bind (put16_ev _ h.t.1 h.t.2) ?_
  refine Ev.bind (put32_ev _ h.a.1 h.a.2) ?_
  rw [Mask_eq n0 n1]
  simp only [Option.bind_some]
  refine Ev.bind (put32_ev _ hb.1 hb.2) ?_
  refine Ev.bind (put32_ev _ h.x.1 h.x.2) ?_
  rw [show e.f3 % 4294967296 = e.f3 by omega]
  refine Ev.bind (put32_ev _ (by omega) (by omega)) ?_
  refine Ev.bind (Ev.of (slices_Concat_byte_byte.mono _) (concat6 _ _ _ _ _ _ _ _ _ _ _ _ _ _ _ _ _ _ _ _)) ?_
  exact Ev.now _
theorem whole_ev : Ev rippkt_whole.f (List.replicate 19 0 ++ [16]) := Ev.of rippkt_whole.mono (k := 20) (by decide +kernel)
theorem refWhole : octroiref05_whole.f = some (List.replicate 19 0 ++ [16]) := by decide +kernel
def bytesOf (l : List S41) : List Int := l.flatMap encE
theorem bytesOf_len : ∀ l : List S41, (bytesOf l).length = 20 * l.length
  | [] => rfl
  | e :: l => by
    have := bytesOf_len l
    unfold bytesOf at this ⊢
    rw [List.flatMap_cons, List.length_append, encE_len, this, List.length_cons]
    omega
theorem enc_l0 {l : List S41} (h : ∀ e ∈ l, Fits e) (hg : ∀ e ∈ l, ent e = true) (hl : l.length ≤ 100000) :
    ∀ (d j : Nat), j + d = l.length → ∀ b : List Int, b.length ≤ 4 + 20 * j → Ev (fun k => rippkt_Encode.l0 k b l l.length j) (b ++ bytesOf (l.drop j), 0) := by
  intro d
  induction d with
  | zero =>
    intro j hj b hb
    refine Ev.step (f := fun _ => some (b, 0)) (fun k => ?_) ?_
    · simp only [rippkt_Encode.l0]
      rw [if_neg (by omega)]
    · rw [List.drop_eq_nil_of_le (by omega)]
      show Ev _ (b ++ [], 0)
      rw [List.append_nil]
      exact Ev.now _
  | succ d ih =>
    intro j hj b hb
    have hlt : j < l.length := by omega
    have hm := List.getElem_mem hlt
    have ep : bytesOf (l.drop j) = encE l[j] ++ bytesOf (l.drop (j + 1)) := by rw [List.drop_eq_getElem_cons hlt]; rfl
    have hn := encE_len l[j]
    refine Ev.step (f := fun k => (rippkt_put.f k (l[j]).f0.f0 (l[j]).f0.f1 (l[j]).f1 (l[j]).f2 (l[j]).f3).bind fun t => if b.length + t.length < 140737488355328 then rippkt_Encode.l0 k (b ++ t) l l.length (j + 1 : Nat) else none) (fun k => ?_) ?_
    · simp only [rippkt_Encode.l0]
      rw [if_pos (by omega), if_pos (by omega), if_pos (by omega), rd_get hlt, w64 (x := (j : Int) + 1) (by omega)]
      rfl
    · refine Ev.bind (put_ev (h _ hm) (hg _ hm)) ?_
      simp only [if_pos (show b.length + (encE l[j]).length < 140737488355328 by omega)]
      rw [ep, ← List.append_assoc]
      exact ih (j + 1) (by omega) _ (by rw [List.length_append]; omega)
/-- A packet as bytes, or refused. -/
def encv (c : Int) (w : Bool) (l : List S41) : List Int × Int :=
  if l.length > 25 then ([], 9) else
  if c ≠ 1 ∧ c ≠ 2 ∨ w = true ∧ (c ≠ 1 ∨ l.length > 0) ∨ l.any (fun e => !ent e) = true then ([], 1) else
  if w = true then ([c, 2, 0, 0] ++ (List.replicate 19 0 ++ [16]), 0) else ([c, 2, 0, 0] ++ bytesOf l, 0)

theorem enc_j1_bad (c : Int) (w : Bool) (l : List S41) : Ev (fun k => rippkt_Encode.j1 k () true c w l) ([], 1) :=
  Ev.step (f := fun _ => some ([], 1)) (fun k => by simp only [rippkt_Encode.j1, if_true]) (Ev.now _)
theorem enc_j1 {c : Int} {w : Bool} {l : List S41} (h : ∀ e ∈ l, Fits e) (hl : l.length ≤ 25) (hc : c = 1 ∨ c = 2) (hw : w = true → c = 1 ∧ l.length = 0) :
    Ev (fun k => rippkt_Encode.j1 k () false c w l) (encv c w l) := by
  have hb : ([c, 2, 0, 0] : List Int).length = 4 := rfl
  refine Ev.step (f := fun k => (api_RipEntry_18.f k l ()).bind fun t170 => (if t170 = true then (some (([] : List Int), 1)) else (if w = true then ((rippkt_whole.f k).bind fun t174 => (if ([c, 2, 0, 0] : List Int).length + t174.length < 140737488355328 then (some (([c, 2, 0, 0] ++ t174), 0)) else (none))) else (rippkt_Encode.l0 k [c, 2, 0, 0] l (l.length : Int) 0)))) (fun k => ?_) ?_
  · simp only [rippkt_Encode.j1]
    rw [if_neg (by decide), show c % 256 = c by omega]
    rfl
  refine Ev.bind (find_ev h (by omega)) ?_
  by_cases ha : l.any (fun e => !ent e) = true
  · have e : encv c w l = ([], 1) := by unfold encv; rw [if_neg (by omega), if_pos (Or.inr (Or.inr ha))]
    rw [e]
    simp only [if_pos ha]
    exact Ev.now _
  simp only [if_neg ha]
  cases w with
  | true =>
    have := hw rfl
    have e : encv c true l = ([c, 2, 0, 0] ++ (List.replicate 19 0 ++ [16]), 0) := by
      unfold encv
      rw [if_neg (by omega), if_neg (fun x => x.elim (fun x => by omega) (fun x => x.elim (fun x => by omega) (fun x => ha x)))]
      rfl
    rw [e]
    simp only [if_true]
    refine Ev.bind whole_ev ?_
    rw [if_pos (by rw [hb, List.length_append, List.length_replicate]; decide)]
    exact Ev.now _
  | false =>
    have e : encv c false l = ([c, 2, 0, 0] ++ bytesOf l, 0) := by
      unfold encv
      rw [if_neg (by omega), if_neg (fun x => x.elim (fun x => by omega) (fun x => x.elim (fun x => by cases x.1) (fun x => ha x)))]
      rfl
    rw [e]
    simp only [Bool.false_eq_true, if_false]
    have hg : ∀ e ∈ l, ent e = true := by
      intro e he
      cases x : ent e
      · exact absurd (List.any_eq_true.mpr ⟨e, he, by simp [x]⟩) ha
      · rfl
    exact enc_l0 h hg (by omega) l.length 0 (by omega) [c, 2, 0, 0] (by simp)
theorem encode_ev {c : Int} {w : Bool} {l : List S41} (h : ∀ e ∈ l, Fits e) : Ev (fun k => rippkt_Encode.f k c w l) (encv c w l) := by
  unfold rippkt_Encode.f
  by_cases hl : l.length > 25
  · have e : encv c w l = ([], 9) := by unfold encv; rw [if_pos hl]
    rw [e]
    simp only [if_pos (show (l.length : Int) > 25 by omega)]
    exact Ev.now _
  simp only [if_neg (show ¬ (l.length : Int) > 25 by omega)]
  by_cases hc : c = 1 ∨ c = 2
  · have e0 : Ev (fun k => rippkt_Encode.j0 k () false c w l) (encv c w l) := by
      by_cases hw : w = true → c = 1 ∧ l.length = 0
      · refine Ev.step (f := fun k => rippkt_Encode.j1 k () false c w l) (fun k => ?_) (enc_j1 h (by omega) hc hw)
        simp only [rippkt_Encode.j0]
        cases w with
        | false => rfl
        | true =>
          have := hw rfl
          rw [if_neg (by decide), if_pos rfl, if_pos this.1, decide_eq_false (by omega)]
      · have hw1 : w = true := by cases w; exact absurd (fun x => by cases x) hw; rfl
        have hw2 : ¬ (c = 1 ∧ l.length = 0) := fun x => hw (fun _ => x)
        have e : encv c w l = ([], 1) := by unfold encv; rw [if_neg (by omega), if_pos (Or.inr (Or.inl ⟨hw1, by omega⟩))]
        rw [e]
        refine Ev.step (f := fun k => rippkt_Encode.j1 k () true c w l) (fun k => ?_) (enc_j1_bad c w l)
        simp only [rippkt_Encode.j0]
        rw [if_neg (by decide), if_pos hw1]
        by_cases c1 : c = 1
        · rw [if_pos c1, decide_eq_true (by omega)]
        · rw [if_neg c1]
    by_cases c1 : c = 1
    · simp only [if_pos c1]
      exact e0
    · simp only [if_neg c1, show (c != 2) = false by simp; omega]
      exact e0
  · have e : encv c w l = ([], 1) := by unfold encv; rw [if_neg (by omega), if_pos (Or.inl (by omega))]
    rw [e]
    simp only [if_neg (show ¬ c = 1 by omega), show (c != 2) = true by simp; omega]
    exact Ev.step (f := fun _ => some ([], 1)) (fun k => by simp only [rippkt_Encode.j0, if_true]) (Ev.now _)

theorem refEnc_l0 {c : Int} {w : Bool} {l : List S41} (h : ∀ e ∈ l, Fits e) (hl : l.length ≤ 100000) :
    ∀ (d j : Nat), j + d = l.length → ∀ b : List Int, b.length ≤ 4 + 20 * j →
      Ev (fun k => octroiref05_Encode.l0 k b j c w l) (if (l.drop j).any (fun e => !ent e) = true then ([], 1) else (b ++ bytesOf (l.drop j), 0)) := by
  intro d
  induction d with
  | zero =>
    intro j hj b hb
    rw [List.drop_eq_nil_of_le (by omega)]
    refine Ev.step (f := fun _ => some (b, 0)) (fun k => ?_) ?_
    · simp only [octroiref05_Encode.l0]
      rw [if_neg (by omega)]
    · show Ev _ (b ++ [], 0)
      rw [List.append_nil]
      exact Ev.now _
  | succ d ih =>
    intro j hj b hb
    have hlt : j < l.length := by omega
    have hm := List.getElem_mem hlt
    have hf := h _ hm
    have ep : bytesOf (l.drop j) = encE l[j] ++ bytesOf (l.drop (j + 1)) := by rw [List.drop_eq_getElem_cons hlt]; rfl
    have hn := encE_len l[j]
    have hd : (l.drop j).any (fun e => !ent e) = (!ent l[j] || (l.drop (j + 1)).any (fun e => !ent e)) := by rw [List.drop_eq_getElem_cons hlt, List.any_cons]
    refine unstep (fun k => octroiref05_Encode.l0 k b j c w l) ?_
    simp only [octroiref05_Encode.l0, if_pos (show (j : Int) < l.length by omega), if_pos (show (0 : Int) ≤ j by omega), rd_get hlt]
    refine Ev.bind (refEnt_ev hf) ?_
    cases he : ent l[j]
    · simp only [Bool.false_eq_true, if_false]
      rw [hd, he]
      exact Ev.now _
    rw [hd, he]
    have he' := he
    simp only [ent, mayB, Bool.and_eq_true, decide_eq_true_eq] at he'
    obtain ⟨⟨n0, n1, _⟩, m0, m1⟩ := he'
    have hmb := msk_bound (l[j]).f0.f1.toNat
    have e1 : (l[j]).f1 % 4294967296 = (l[j]).f1 := by have := hf.t; omega
    have e3 : (l[j]).f3 % 4294967296 = (l[j]).f3 := by omega
    simp only [if_true, Option.bind_some, e1, e3]
    have l2 : ∀ n, (be2 n).length = 2 := fun _ => rfl
    have l4 : ∀ n, (be4 n).length = 4 := fun _ => rfl
    have ll : ([0, 2] : List Int).length = 2 := rfl
    have hlen : ∀ x y : List Int, (x ++ y).length = x.length + y.length := fun x y => List.length_append
    simp (disch := omega) only [if_pos, hlen, l2, l4, ll]
    refine Ev.bind (Ev.of (octroiref01_Put.mono _ 2) (refPut_2 _ hf.t.1 hf.t.2)) ?_
    simp (disch := omega) only [if_pos, hlen, l2, l4, ll]
    refine Ev.bind (Ev.of (octroiref01_Put.mono _ 4) (refPut_4 _ hf.a.1 hf.a.2)) ?_
    simp (disch := omega) only [if_pos, hlen, l2, l4, ll]
    refine Ev.bind (refMask_ev n0 n1) ?_
    refine Ev.bind (Ev.of (octroiref01_Put.mono _ 4) (refPut_4 _ hmb.1 hmb.2)) ?_
    simp (disch := omega) only [if_pos, hlen, l2, l4, ll]
    refine Ev.bind (Ev.of (octroiref01_Put.mono _ 4) (refPut_4 _ hf.x.1 hf.x.2)) ?_
    simp (disch := omega) only [if_pos, hlen, l2, l4, ll]
    refine Ev.bind (Ev.of (octroiref01_Put.mono _ 4) (refPut_4 _ (show 0 ≤ (l[j]).f3 by omega) (by omega))) ?_
    simp (disch := omega) only [if_pos, hlen, l2, l4, ll]
    have := ih (j + 1) (by omega) (b ++ encE l[j]) (by rw [hlen]; omega)
    rw [ep, ← List.append_assoc]
    have ea : b ++ [0, 2] ++ be2 (l[j]).f1 ++ be4 (l[j]).f0.f0 ++ be4 (mskv (l[j]).f0.f1.toNat) ++ be4 (l[j]).f2 ++ be4 (l[j]).f3 = b ++ encE l[j] := by
      unfold encE
      simp only [List.append_assoc]
    have ew : wrap64 ((j : Int) + 1) = ((j + 1 : Nat) : Int) := w64 (by omega)
    simp only [ea, ew, Bool.not_true, Bool.false_or]
    exact this
theorem refEncode_ev {c : Int} {w : Bool} {l : List S41} (h : ∀ e ∈ l, Fits e) : Ev (fun k => octroiref05_Encode.f k c w l) (encv c w l) := by
  unfold octroiref05_Encode.f
  by_cases hl : l.length > 25
  · have e : encv c w l = ([], 9) := by unfold encv; rw [if_pos hl]
    rw [e]
    simp only [if_pos (show (l.length : Int) > 25 by omega)]
    exact Ev.now _
  simp only [if_neg (show ¬ (l.length : Int) > 25 by omega)]
  have bad : Ev (fun k => octroiref05_Encode.j0 k true c w l) ([], 1) :=
    Ev.step (f := fun _ => some ([], 1)) (fun k => by simp only [octroiref05_Encode.j0, if_true]) (Ev.now _)
  have good : (c = 1 ∨ c = 2) → (w = true → c = 1 ∧ l.length = 0) → Ev (fun k => octroiref05_Encode.j0 k false c w l) (encv c w l) := by
    intro hc hw
    refine unstep (fun k => octroiref05_Encode.j0 k false c w l) ?_
    simp only [octroiref05_Encode.j0, Bool.false_eq_true, if_false, Option.bind_some, show c % 256 = c by omega]
    cases w with
    | true =>
      have hl0 : l = [] := List.length_eq_zero_iff.mp (hw rfl).2
      have c1 := (hw rfl).1
      subst hl0 c1
      simp only [if_true, refWhole, Option.bind_some]
      exact Ev.now _
    | false =>
      simp only [Bool.false_eq_true, if_false]
      have := refEnc_l0 (c := c) (w := false) h (by omega) l.length 0 (by omega) [c, 2, 0, 0] (by simp)
      have e : encv c false l = if (l.drop 0).any (fun e => !ent e) = true then ([], 1) else ([c, 2, 0, 0] ++ bytesOf (l.drop 0), 0) := by
        unfold encv
        rw [if_neg (by omega), List.drop_zero]
        by_cases ha : l.any (fun e => !ent e) = true
        · rw [if_pos (Or.inr (Or.inr ha)), if_pos ha]
        · rw [if_neg (fun x => x.elim (fun x => by omega) (fun x => x.elim (fun x => by cases x.1) (fun x => ha x))), if_neg ha]
          rfl
      rw [e]
      exact this
  by_cases hc : c = 1 ∨ c = 2
  · by_cases hw : w = true → c = 1 ∧ l.length = 0
    · have := good hc hw
      cases w with
      | false =>
        simp only [Bool.false_eq_true, if_false]
        by_cases c1 : c = 1
        · simp only [if_pos c1]; exact this
        · simp only [if_neg c1, if_pos (show c = 2 by omega)]; exact this
      | true =>
        have h2 := hw rfl
        simp only [if_pos h2.1, if_true, decide_eq_false (show ¬ (l.length : Int) > 0 by omega)]
        exact this
    · have hw1 : w = true := by cases w; exact absurd (fun x => by cases x) hw; rfl
      have hw2 : ¬ (c = 1 ∧ l.length = 0) := fun x => hw (fun _ => x)
      have e : encv c w l = ([], 1) := by unfold encv; rw [if_neg (by omega), if_pos (Or.inr (Or.inl ⟨hw1, by omega⟩))]
      rw [e]
      by_cases c1 : c = 1
      · simp only [if_pos c1, if_pos hw1, decide_eq_true (show (l.length : Int) > 0 by omega)]; exact bad
      · simp only [if_neg c1, if_pos (show c = 2 by omega), if_pos hw1]; exact bad
  · have e : encv c w l = ([], 1) := by unfold encv; rw [if_neg (by omega), if_pos (Or.inl (by omega))]
    rw [e]
    simp only [if_neg (show ¬ c = 1 by omega), if_neg (show ¬ c = 2 by omega)]
    exact bad

theorem RippktEncodes : octroilaw05_RippktEncodes.Pure := by
  intro c w l hc hl hg
  have hf : ∀ e ∈ l, Fits e := fun e he => fits (hg e he)
  refine of_ev ?_
  unfold octroilaw05_RippktEncodes.f
  refine Ev.bind awake_ev ?_
  by_cases h1 : (l.length : Int) > 100
  · simp only [if_pos h1]
    exact Ev.now _
  simp only [if_neg h1]
  refine Ev.bind (encode_ev hf) ?_
  refine Ev.bind (refEncode_ev hf) ?_
  simp only [if_true, beq_self_eq_true]
  exact Ev.now _

end Go.Proofs.Ytahllmihgpaaeaa.Pure
