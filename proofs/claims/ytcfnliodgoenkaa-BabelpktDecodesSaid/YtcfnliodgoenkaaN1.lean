import Derived.Test.YtcfnliodgoenkaaT
import Derived.Test.YtcfnliodgoenkaaSS
set_option linter.unusedVariables false
namespace Go.Proofs.YtcfnliodgoenkaaS
/-- Bytes of one's own. -/
abbrev OwnB (A : Option Addr) (n c : Nat) (l : List UInt8) (m : Mem) : Prop := Own 5 1 A n c (bC l) m
theorem OwnB.rdb {I : Ctx} {h m : Mem} {A : Option Addr} {n c : Nat} {l : List UInt8} (ho : OwnB A n c l m) (hl : Live I h) (hm : ∀ x ∈ m, x ∈ h) : RdB (plus I h) A n l :=
  ⟨by have := ho.1; simpa using this, ho.some_of, (ho.rd hm).all hl⟩
theorem OwnB.len {A : Option Addr} {n c : Nat} {l : List UInt8} {m : Mem} (ho : OwnB A n c l m) : l.length = n := by have := ho.1; simpa using this
/-- What answers with bytes of its own. -/
abbrev GivesB (l : List UInt8) (v : Value) (h' : Mem) : Prop := ∃ A c, v = .slice A l.length c ∧ OwnB A l.length c l h'

theorem put_loop {I : Ctx} {a : Addr} {n k c : Nat} (hk : k ≤ 4) (hn : n < 4294967296) :
    ∀ (q i : Nat) (u : Nat → Value) (h m hr : Mem), i + q = k → h.Perm (m ++ hr) → OwnB (some a) k c (List.replicate q 0 ++ be i n) m →
    Wp Try.prog 49 k_num_put_1 (t_num_put_1 n k (some a) k c i u) I h (cl_ (GivesB (be k n))) := by
  intro q
  induction q with
  | zero =>
    intro i u h m hr hiq hp ho
    have : i = k := by omega
    subst this
    refine r_num_put_1 _ _ _ _ _ _ _ ?_
    refine h_no (by simp) ?_
    refine h_end (h1 := m) (g := hr) hp ⟨some a, c, by simp, ?_⟩
    simpa using ho
  | succ q ih =>
    intro i u h m hr hiq hp ho
    refine r_num_put_1 _ _ _ _ _ _ _ ?_
    refine h_yes (by simp; omega) ?_
    rw [show IntKind.wrap .i64 (8 * (i : Int)) = ((8 * i : Nat) : Int) by rw [wrap64 (by omega)]; omega]
    refine h_shr (by omega) ?_
    rw [show IntKind.wrap .i64 ((IntKind.wrap .i64 ((k : Int) - 1)) - (i : Int)) = (q : Int) by rw [wrap64 (x := (k : Int) - 1) (by omega), wrap64 (by omega)]; omega]
    refine h_index a rfl (sz := 1) (by kernel_rfl) (by omega) (by omega) rfl ?_
    dsimp only
    rw [Int.toNat_natCast, Int.toNat_natCast, show min (8 * i) IntKind.u32.bits = 8 * i from Nat.min_eq_left (by show 8 * i ≤ 32; omega), fdiv_pow]
    have hb : IntKind.wrap .u8 ((n / 2 ^ (8 * i) : Nat) : Int) = ((UInt8.ofNat (n / 256 ^ i)).toNat : Int) := by
      rw [toNat_ofNat', wrap8, Nat.pow_mul]
      rfl
    rw [hb]
    refine h_storeE (q * 1) (m := m) (hr := hr) (cl_.aff _) hp ho rfl (by kernel_rfl) (by simp [Value.cells]; omega) (by simp [Value.cells]) ?_
    intro m' ho'
    refine h_stop fun hl => ?_
    rw [wrapS (by omega)]
    refine ih (i + 1) _ _ m' hr (by omega) (List.Perm.refl _) ?_
    have hw := wr_byte q (UInt8.ofNat (n / 256 ^ i)) (be i n)
    rw [Nat.mul_one] at ho'
    have ho2 : Own 5 1 (some a) k c (wrL (bC (List.replicate (q + 1) 0 ++ be i n)) q [.int .u8 ((UInt8.ofNat (n / 256 ^ i)).toNat : Int)]) m' := ho'
    rw [hw] at ho2
    exact ho2
theorem put_spec {I : Ctx} {n k : Nat} (hk : k ≤ 4) (hn : n < 4294967296) : Fn Try.prog 49 #[.int .u32 (n : Int), .int .i64 (k : Int)] I [] (GivesB (be k n)) := by
  refine r_num_put _ _ ?_
  refine h_make eb_uint8 (Nat.le_refl k) (by omega) (by omega) fun g hg hI ho => ?_
  refine h_stop fun hl => ?_
  refine put_loop hk hn k 0 _ _ _ [] (by omega) (List.perm_append_comm (l₁ := [])) ?_
  rw [show (Builtin.zeroCells (Value.int IntKind.u8 0).cells k).toList = bC (List.replicate k 0) from zero_bytes k] at ho
  simpa [be] using ho
theorem Put16_spec {I : Ctx} {n : Nat} (hn : n < 65536) : Fn Try.prog 41 #[.int .u16 (n : Int)] I [] (GivesB (be 2 n)) := by
  refine r_num_Put16 _ ?_
  rw [wrap32n (by omega)]
  refine h_call [] _ ca_num_put (List.Perm.refl _) (fun hl => put_spec (k := 2) (by omega) (by omega)) ?_
  rintro v h1 ⟨A, c, rfl, ho⟩
  refine ⟨fun _ => { A := A, n := 2, c := c }, by simp [Sh.val, Sh1.val, Sc.val], ?_⟩
  exact h_end (h1 := h1) (g := []) (List.Perm.refl _) ⟨A, c, by simp, ho⟩
theorem Put32_spec {I : Ctx} {n : Nat} (hn : n < 4294967296) : Fn Try.prog 31 #[.int .u32 (n : Int)] I [] (GivesB (be 4 n)) := by
  refine r_num_Put32 _ ?_
  refine h_call [] _ ca_num_put (List.Perm.refl _) (fun hl => put_spec (k := 4) (by omega) hn) ?_
  rintro v h1 ⟨A, c, rfl, ho⟩
  refine ⟨fun _ => { A := A, n := 4, c := c }, by simp [Sh.val, Sh1.val, Sc.val], ?_⟩
  exact h_end (h1 := h1) (g := []) (List.Perm.refl _) ⟨A, c, by simp, ho⟩
theorem rput_loop {I : Ctx} {a : Addr} {n k c : Nat} (hk : k ≤ 8) (hn : n < 4294967296) :
    ∀ (q i : Nat) (u : Nat → Value) (h m hr : Mem), i + q = k → h.Perm (m ++ hr) → OwnB (some a) k c (List.replicate q 0 ++ be i n) m →
    Wp Try.prog 48 k_octroiref01_Put_1 (t_octroiref01_Put_1 (some a) k c ((n / 256 ^ i : Nat) : Int) ((q : Int) - 1) u) I h (cl_ (GivesB (be k n))) := by
  intro q
  induction q with
  | zero =>
    intro i u h m hr hiq hp ho
    have : i = k := by omega
    subst this
    refine r_octroiref01_Put_1 _ _ _ _ _ _ ?_
    refine h_no (by simp) ?_
    refine h_end (h1 := m) (g := hr) hp ⟨some a, c, by simp, ?_⟩
    simpa using ho
  | succ q ih =>
    intro i u h m hr hiq hp ho
    rw [show ((q + 1 : Nat) : Int) - 1 = (q : Int) by omega]
    refine r_octroiref01_Put_1 _ _ _ _ _ _ ?_
    refine h_yes (by simp) ?_
    refine h_index a rfl (sz := 1) (by kernel_rfl) (by omega) (by omega) rfl ?_
    dsimp only
    rw [Int.toNat_natCast]
    have hb : IntKind.wrap .u8 (Int.tmod ((n / 256 ^ i : Nat) : Int) 256) = ((UInt8.ofNat (n / 256 ^ i)).toNat : Int) := by
      generalize n / 256 ^ i = w
      rw [toNat_ofNat', wrap8, Int.tmod_eq_emod_of_nonneg (by omega)]
      omega
    rw [hb]
    refine h_storeE (q * 1) (m := m) (hr := hr) (cl_.aff _) hp ho rfl (by kernel_rfl) (by simp [Value.cells]; omega) (by simp [Value.cells]) ?_
    intro m' ho'
    refine h_stop fun hl => ?_
    have hdiv : IntKind.wrap .u32 (Int.tdiv ((n / 256 ^ i : Nat) : Int) 256) = ((n / 256 ^ (i + 1) : Nat) : Int) := by
      have h1 : n / 256 ^ i ≤ n := Nat.div_le_self ..
      rw [Nat.pow_succ, ← Nat.div_div_eq_div_mul]
      generalize n / 256 ^ i = w at h1 ⊢
      rw [Int.tdiv_eq_ediv_of_nonneg (by omega), wrap32]
      omega
    rw [hdiv, wrap64 (x := (q : Int) - 1) (by omega)]
    refine ih (i + 1) _ _ m' hr (by omega) (List.Perm.refl _) ?_
    have hw := wr_byte q (UInt8.ofNat (n / 256 ^ i)) (be i n)
    rw [Nat.mul_one] at ho'
    have ho2 : Own 5 1 (some a) k c (wrL (bC (List.replicate (q + 1) 0 ++ be i n)) q [.int .u8 ((UInt8.ofNat (n / 256 ^ i)).toNat : Int)]) m' := ho'
    rw [hw] at ho2
    exact ho2
theorem rput_spec {I : Ctx} {n k : Nat} (hk : k ≤ 8) (hn : n < 4294967296) : Fn Try.prog 48 #[.int .u32 (n : Int), .int .i64 (k : Int)] I [] (GivesB (be k n)) := by
  refine r_octroiref01_Put _ _ ?_
  refine h_make eb_uint8 (Nat.le_refl k) (by omega) (by omega) fun g hg hI ho => ?_
  refine h_stop fun hl => ?_
  dsimp only
  rw [wrap64 (by omega)]
  have h0 := rput_loop (I := I) (a := ⟨g, 0, none⟩) (c := k) hk hn k 0
  rw [Nat.pow_zero, Nat.div_one] at h0
  refine h0 _ _ _ [] (by omega) (List.perm_append_comm (l₁ := [])) ?_
  rw [show (Builtin.zeroCells (Value.int IntKind.u8 0).cells k).toList = bC (List.replicate k 0) from zero_bytes k] at ho
  simpa [be] using ho
/-- The byte at a place of what is read. -/
theorem RdB.at {I : Ctx} {A : Option Addr} {n : Nat} {l : List UInt8} (h : RdB I A n l) {i : Nat} (hi : i < n) : ∃ a b, A = some a ∧ l[i]? = some b ∧ CellIs I [] (a.add i) (.int .u8 (b.toNat : Int)) := by
  have hl := h.len
  obtain ⟨a, rfl, hc⟩ := h.rd (fun he => by have := congrArg List.length he; simp at this; subst this; simp at hl; omega)
  have h1 : l[i]? = some l[i] := List.getElem?_eq_getElem (by omega)
  exact ⟨a, l[i], rfl, h1, hc i _ (by simp [bC, h1])⟩
theorem RdB.cut {I : Ctx} {A : Option Addr} {n : Nat} {l : List UInt8} (h : RdB I A n l) {i u m : Nat} (h1 : i ≤ u) (h2 : u ≤ n) (h3 : n ≤ m) : RdB I (cutA A i m 1) (u - i) ((l.drop i).take (u - i)) := by
  have hl := h.len
  refine ⟨by simp; omega, fun hA => ?_, ?_⟩
  · unfold cutA at hA
    split at hA
    · have := h.nil hA; omega
    · cases A with
      | none => have := h.nil rfl; omega
      | some a => cases hA
  · have := h.rd.cut (l := i) (u := u) (m := m) (sz := 1) (by omega)
    rw [Nat.mul_one, Nat.mul_one] at this
    simpa [bC, List.map_take, List.map_drop] using this
/-- The number of k bytes at a place. -/
def getB (l : List UInt8) (i : Int) (k : Nat) : Option Nat := if 0 ≤ i ∧ i + k ≤ l.length then some (val ((l.drop i.toNat).take k)) else none
def gotV (ik : IntKind) (o : Option Nat) : Value := .tuple #[.int ik ((o.getD 0 : Nat) : Int), .bool o.isSome]
theorem get_loop {I : Ctx} {A : Option Addr} {c k : Nat} {l : List UInt8} (hr : RdB I A k l) (hk : k ≤ 4) :
    ∀ (q i : Nat) (u : Nat → Value) (h : Mem), i + q = k →
    Wp Try.prog 61 k_num_get_1 (t_num_get_1 A k c k ((val (l.take i) : Nat) : Int) i u) I h (cl_ fun v h' => v = gotV .u32 (some (val l)) ∧ h' = []) := by
  have hl := hr.len
  intro q
  induction q with
  | zero =>
    intro i u h hiq
    refine r_num_get_1 _ _ _ _ _ _ _ ?_
    refine h_no (by simp; omega) ?_
    rw [List.take_of_length_le (by omega)]
    exact h_end0 ⟨rfl, rfl⟩
  | succ q ih =>
    intro i u h hiq
    obtain ⟨a, b, rfl, hb, hc⟩ := hr.at (i := i) (by omega)
    refine r_num_get_1 _ _ _ _ _ _ _ ?_
    refine h_yes (by simp; omega) ?_
    refine h_index a rfl (sz := 1) (by kernel_rfl) (by omega) (by omega) rfl ?_
    dsimp only
    rw [Int.toNat_natCast, Nat.mul_one]
    refine h_loadI (by kernel_rfl) (hc.sub Sub.self) ?_
    refine h_stop fun hl' => ?_
    have hv := val_lt (l.take i)
    rw [List.length_take] at hv
    have h256 : 256 ^ (min i l.length) ≤ 256 ^ 3 := Nat.pow_le_pow_right (by omega) (by omega)
    dsimp only
    rw [wrapS (by omega), or_byte _ b (by omega), ← val_snoc]
    have htk : l.take (i + 1) = l.take i ++ [b] := by rw [List.take_add_one, hb]; rfl
    rw [← htk]
    exact ih (i + 1) _ _ (by omega)
theorem get_spec {I : Ctx} {A : Option Addr} {n c k : Nat} {l : List UInt8} {i : Int} (hr : RdB I A n l) (hk : k ≤ 4) (hn : n ≤ c) (hc : n ≤ maxLen) (hi : (Lit.int .i64 i).wf = true) :
    Fn Try.prog 61 #[.slice A n c, .int .i64 i, .int .i64 (k : Int)] I [] (fun v h' => v = gotV .u32 (getB l i k) ∧ h' = []) := by
  have hl := hr.len
  have hi2 : -9223372036854775808 ≤ i ∧ i ≤ 9223372036854775807 := by
    simp only [Lit.wf, IntKind.min, IntKind.max, IntKind.signed, IntKind.bits] at hi
    simp at hi
    omega
  have hc2 : n ≤ 9223372036854775807 := by unfold maxLen at hc; omega
  refine r_num_get _ _ _ _ _ ?_
  refine h_ite (fun h0 => ?_) (fun h0 => ?_)
  · have h0 : i < 0 := by simpa using h0
    exact h_end0 ⟨by unfold getB; rw [if_neg (by omega)]; rfl, rfl⟩
  have h0 : ¬ i < 0 := by simpa using h0
  rw [wrap64 (x := (n : Int) - (k : Int)) (by omega)]
  refine h_ite (fun h1 => ?_) (fun h1 => ?_)
  · have h1 : i > (n : Int) - k := by simpa using h1
    exact h_end0 ⟨by unfold getB; rw [if_neg (by omega)]; rfl, rfl⟩
  have h1 : ¬ i > (n : Int) - k := by simpa using h1
  obtain ⟨j, rfl⟩ : ∃ j : Nat, i = j := ⟨i.toNat, by omega⟩
  rw [wrap64 (x := (j : Int) + (k : Int)) (by omega)]
  refine h_cut (e := 5) (sz := 1) j (j + k) c (by kernel_rfl) (by kernel_rfl) rfl (by show ((j : Int) + (k : Int)) = ((j + k : Nat) : Int); omega) rfl (by simp) (by omega) (by omega) (by omega) ?_
  dsimp only
  have hcut := hr.cut (i := j) (u := j + k) (m := c) (by omega) (by omega) hn
  rw [show j + k - j = k by omega] at hcut ⊢
  refine h_stop fun hl' => ?_
  have hw := get_loop (c := c - j) hcut hk k 0
  have hg : getB l (j : Int) k = some (val ((l.drop j).take k)) := by
    unfold getB
    rw [if_pos (by omega), Int.toNat_natCast]
  rw [hg]
  exact hw _ _ (by omega)
theorem Get16_spec {I : Ctx} {A : Option Addr} {n c : Nat} {l : List UInt8} {i : Int} (hr : RdB I A n l) (hn : n ≤ c) (hc : n ≤ maxLen) (hi : (Lit.int .i64 i).wf = true) :
    Fn Try.prog 50 #[.slice A n c, .int .i64 i] I [] (fun v h' => v = gotV .u16 (getB l i 2) ∧ h' = []) := by
  refine r_num_Get16 _ _ _ _ ?_
  have hv : ∀ x, getB l i 2 = some x → x < 65536 := by
    intro x hx
    unfold getB at hx
    split at hx
    · injection hx with hx
      have := val_lt ((l.drop i.toNat).take 2)
      have h2 : 256 ^ ((l.drop i.toNat).take 2).length ≤ 256 ^ 2 := Nat.pow_le_pow_right (by omega) (by simp; omega)
      omega
    · cases hx
  refine h_call0 (getL [{ i := ((getB l i 2).getD 0 : Nat) }, { b := (getB l i 2).isSome }]) ca_num_get (fun hl => get_spec (k := 2) (hr.up (Sub.self.up hl)) (by omega) hn hc hi) rfl ?_
  dsimp only [getL]
  refine h_end0 ⟨?_, rfl⟩
  unfold gotV
  cases hg : getB l i 2 with
  | none => rfl
  | some x => simp only [Option.getD_some, wrap16n (hv x hg)]
theorem Get32_spec {I : Ctx} {A : Option Addr} {n c : Nat} {l : List UInt8} {i : Int} (hr : RdB I A n l) (hn : n ≤ c) (hc : n ≤ maxLen) (hi : (Lit.int .i64 i).wf = true) :
    Fn Try.prog 66 #[.slice A n c, .int .i64 i] I [] (fun v h' => v = gotV .u32 (getB l i 4) ∧ h' = []) := by
  refine r_num_Get32 _ _ _ _ ?_
  refine h_call0 (getL [{ i := ((getB l i 4).getD 0 : Nat) }, { b := (getB l i 4).isSome }]) ca_num_get (fun hl => get_spec (k := 4) (hr.up (Sub.self.up hl)) (by omega) hn hc hi) rfl ?_
  exact h_end0 ⟨rfl, rfl⟩
theorem rget_loop {I : Ctx} {A : Option Addr} {n c k j : Nat} {l : List UInt8} (hr : RdB I A n l) (hk : k ≤ 4) (hj : j + k ≤ n) (hn : n < 9223372036854775808) :
    ∀ (q i : Nat) (u : Nat → Value) (h : Mem), i + q = k →
    Wp Try.prog 54 k_octroiref01_Get_1 (t_octroiref01_Get_1 A n c j k ((val ((l.drop j).take i) : Nat) : Int) i u) I h (cl_ fun v h' => v = gotV .u32 (some (val ((l.drop j).take k))) ∧ h' = []) := by
  have hl := hr.len
  intro q
  induction q with
  | zero =>
    intro i u h hiq
    have : i = k := by omega
    subst this
    refine r_octroiref01_Get_1 _ _ _ _ _ _ _ _ ?_
    refine h_no (by simp) ?_
    exact h_end0 ⟨rfl, rfl⟩
  | succ q ih =>
    intro i u h hiq
    obtain ⟨a, b, rfl, hb, hc⟩ := hr.at (i := j + i) (by omega)
    refine r_octroiref01_Get_1 _ _ _ _ _ _ _ _ ?_
    refine h_yes (by simp; omega) ?_
    rw [show IntKind.wrap .i64 ((j : Int) + (i : Int)) = ((j + i : Nat) : Int) by rw [wrap64 (by omega)]; omega]
    refine h_index a rfl (sz := 1) (by kernel_rfl) (by omega) (by omega) rfl ?_
    dsimp only
    rw [Int.toNat_natCast, Nat.mul_one]
    refine h_loadI (by kernel_rfl) (hc.sub Sub.self) ?_
    refine h_stop fun hl' => ?_
    have hv := val_lt ((l.drop j).take i)
    rw [List.length_take] at hv
    have h256 : 256 ^ (min i (l.drop j).length) ≤ 256 ^ 3 := Nat.pow_le_pow_right (by omega) (by omega)
    have hbl := b.toNat_lt
    dsimp only
    have hval : IntKind.wrap .u32 ((IntKind.wrap .u32 (((val ((l.drop j).take i) : Nat) : Int) * 256)) + (IntKind.wrap .u32 (b.toNat : Int))) = ((val ((l.drop j).take i) * 256 + b.toNat : Nat) : Int) := by
      generalize val ((l.drop j).take i) = w at hv ⊢
      simp only [wrap32]
      omega
    have htk : (l.drop j).take (i + 1) = (l.drop j).take i ++ [b] := by rw [List.take_add_one, List.getElem?_drop, hb]; rfl
    rw [wrapS (by omega), hval, ← val_snoc, ← htk]
    exact ih (i + 1) _ _ (by omega)
theorem rget_spec {I : Ctx} {A : Option Addr} {n c k : Nat} {l : List UInt8} {i : Int} (hr : RdB I A n l) (hk : k ≤ 4) (hn : n ≤ c) (hc : n ≤ maxLen) :
    Fn Try.prog 54 #[.slice A n c, .int .i64 i, .int .i64 (k : Int)] I [] (fun v h' => v = gotV .u32 (getB l i k) ∧ h' = []) := by
  have hl := hr.len
  have hc2 : n ≤ 9223372036854775807 := by unfold maxLen at hc; omega
  refine r_octroiref01_Get _ _ _ _ _ ?_
  refine h_ite (fun h0 => ?_) (fun h0 => ?_)
  · have h0 : i < 0 := by simpa using h0
    exact h_end0 ⟨by unfold getB; rw [if_neg (by omega)]; rfl, rfl⟩
  have h0 : ¬ i < 0 := by simpa using h0
  refine h_ite (fun h1 => ?_) (fun h1 => ?_)
  · have h1 : i > (n : Int) := by simpa using h1
    exact h_end0 ⟨by unfold getB; rw [if_neg (by omega)]; rfl, rfl⟩
  have h1 : ¬ i > (n : Int) := by simpa using h1
  rw [wrap64 (x := (n : Int) - i) (by omega)]
  refine h_ite (fun h2 => ?_) (fun h2 => ?_)
  · have h2 : (n : Int) - i < k := by simpa using h2
    exact h_end0 ⟨by unfold getB; rw [if_neg (by omega)]; rfl, rfl⟩
  have h2 : ¬ (n : Int) - i < k := by simpa using h2
  obtain ⟨j, rfl⟩ : ∃ j : Nat, i = j := ⟨i.toNat, by omega⟩
  refine h_stop fun hl' => ?_
  have hg : getB l (j : Int) k = some (val ((l.drop j).take k)) := by
    unfold getB
    rw [if_pos (by omega), Int.toNat_natCast]
  rw [hg]
  exact rget_loop (c := c) hr hk (j := j) (by omega) (by omega) k 0 _ _ (by omega)
end Go.Proofs.YtcfnliodgoenkaaS
