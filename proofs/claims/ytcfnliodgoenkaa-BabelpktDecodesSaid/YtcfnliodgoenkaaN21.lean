import Derived.Test.YtcfnliodgoenkaaN20
set_option linter.unusedVariables false
namespace Go.Proofs.YtcfnliodgoenkaaS
/-! Parts and bytes: in plain Lean. -/
theorem byteAt_app {l x y : List UInt8} {b : UInt8} {i : Nat} (hl : l = x ++ (b :: y)) (hx : x.length = i) : byteAt l i = b := by
  unfold byteAt
  rw [hl, List.getElem?_append_right (by omega), hx, Nat.sub_self]
  rfl
theorem low16_back {x : Int} (h : 0 ≤ x ∧ x ≤ 65535) : ((low16 x : Nat) : Int) = x := by unfold low16; omega
theorem lowB_back {x : Int} (h : 0 ≤ x ∧ x < 256) : (((lowB x).toNat : Nat) : Int) = x := by unfold lowB; rw [toNat_ofNat']; omega
theorem ofNat_zero {x : Nat} (h : x % 256 = 0) : UInt8.ofNat x = 0 := by
  rw [← UInt8.toNat_inj, toNat_ofNat', h]; rfl
theorem may_out {a : Nat} {n : Int} (h : mayB a n = true) : (0 ≤ n ∧ n ≤ 32) ∧ a % 2 ^ (32 - n.toNat) = 0 := by
  unfold mayB at h
  simp only [Bool.and_eq_true, decide_eq_true_eq] at h
  exact ⟨⟨h.1, h.2.1⟩, h.2.2⟩
theorem pad_addr {a : Nat} {n : Int} (h : mayB a n = true) : padB (addrB a n) = be 4 a := by
  obtain ⟨hn, hz⟩ := may_out h
  have hm := nd_le hn
  have hd : a % 256 ^ (4 - nd n) = 0 := by
    apply Nat.mod_eq_zero_of_dvd
    refine Nat.dvd_trans ?_ (Nat.dvd_of_mod_eq_zero hz)
    rw [show (256 : Nat) = 2 ^ 8 from rfl, ← Nat.pow_mul]
    apply Nat.pow_dvd_pow
    unfold nd
    omega
  unfold padB addrB
  rw [List.length_take, be_length, Nat.min_eq_left hm, List.take_take, Nat.min_eq_right hm]
  have c : nd n = 0 ∨ nd n = 1 ∨ nd n = 2 ∨ nd n = 3 ∨ nd n = 4 := by omega
  rcases c with c | c | c | c | c <;> rw [c] at hd ⊢
  · have e3 : UInt8.ofNat (a / 256 ^ 3) = 0 := ofNat_zero (by simp at hd ⊢; omega)
    have e2 : UInt8.ofNat (a / 256 ^ 2) = 0 := ofNat_zero (by simp at hd ⊢; omega)
    have e1 : UInt8.ofNat (a / 256 ^ 1) = 0 := ofNat_zero (by simp at hd ⊢; omega)
    have e0 : UInt8.ofNat (a / 256 ^ 0) = 0 := ofNat_zero (by simp at hd ⊢; omega)
    unfold be be be be be
    rw [e3, e2, e1, e0]; rfl
  · have e2 : UInt8.ofNat (a / 256 ^ 2) = 0 := ofNat_zero (by simp at hd ⊢; omega)
    have e1 : UInt8.ofNat (a / 256 ^ 1) = 0 := ofNat_zero (by simp at hd ⊢; omega)
    have e0 : UInt8.ofNat (a / 256 ^ 0) = 0 := ofNat_zero (by simp at hd ⊢; omega)
    unfold be be be be be
    rw [e2, e1, e0]; rfl
  · have e1 : UInt8.ofNat (a / 256 ^ 1) = 0 := ofNat_zero (by simp at hd ⊢; omega)
    have e0 : UInt8.ofNat (a / 256 ^ 0) = 0 := ofNat_zero (by simp at hd ⊢; omega)
    unfold be be be be be
    rw [e1, e0]; rfl
  · have e0 : UInt8.ofNat (a / 256 ^ 0) = 0 := ofNat_zero (by simp at hd ⊢; omega)
    unfold be be be be be
    rw [e0]; rfl
  · unfold be be be be be
    rfl
theorem prefV_addr {a : Nat} {n : Int} (ha : a < 4294967296) (h : mayB a n = true) : prefV (addrB a n) = a := by
  unfold prefV
  rw [pad_addr h, val_be]
  omega
theorem cmn_take : ∀ (k : Nat) (x y : List UInt8), x.take (cmn k x y) = y.take (cmn k x y)
  | 0, x, y => by simp [cmn]
  | k + 1, [], [] => rfl
  | k + 1, [], b :: y => by simp [cmn]
  | k + 1, a :: x, [] => by simp [cmn]
  | k + 1, a :: x, b :: y => by
    rw [cmn_cons]
    split
    · rename_i e
      rw [List.take_succ_cons, List.take_succ_cons, e, cmn_take k x y]
    · rfl
theorem sqz_take (a b : Nat) (n : Int) : (be 4 a).take (sqz a b n) = (be 4 b).take (sqz a b n) := by
  unfold sqz
  split
  · exact cmn_take _ _ _
  · rfl
/-- A part that is taken. -/
theorem decD_tlv {s : Dst} {k : UInt8} {b rest : List UInt8} (hb : b.length ≤ 255) : decD s (tlvB k b ++ rest) = (takeD s k b).bind fun s' => decD s' rest := by
  have hn : (lowB (b.length : Nat)).toNat = b.length := by have := lowB_back (x := (b.length : Nat)) (by omega); omega
  show decD s (k :: lowB (b.length : Nat) :: (b ++ rest)) = _
  rw [decD_cons, hn, if_neg (by simp), List.take_left, List.drop_left]
theorem may_split {t : Tlv} (h : mayT t = true) : mayB t.a t.n = true ∧ (0 ≤ t.iv ∧ t.iv ≤ 65535 ∧ 0 ≤ t.cost ∧ t.cost ≤ 65535 ∧ 0 ≤ t.hops ∧ t.hops ≤ 255) ∧ KindP t := by
  unfold mayT at h
  simp only [Bool.and_eq_true, decide_eq_true_eq] at h
  exact ⟨h.1, h.2.1, h.2.2⟩
theorem take_hello (s : Dst) {t : Tlv} (h : mayT t = true) (ho : t.ok) (hk : t.kind = 0) : takeD s 4 ([0, 0] ++ (be 2 t.seq ++ be 2 (low16 t.iv))) = some (s.add t) := by
  obtain ⟨hm, ha, hK⟩ := may_split h
  have hseq := ho.seq
  have hl : ([0, 0] ++ (be 2 t.seq ++ be 2 (low16 t.iv)) : List UInt8).length = 6 := by simp [be_length]
  have n2 : num ([0, 0] ++ (be 2 t.seq ++ be 2 (low16 t.iv))) 2 2 = t.seq := num_at (x := [0, 0]) (y := be 2 (low16 t.iv)) rfl rfl (by omega)
  have n4 : num ([0, 0] ++ (be 2 t.seq ++ be 2 (low16 t.iv))) 4 2 = low16 t.iv := num_at (x := [0, 0] ++ be 2 t.seq) (y := []) (by simp) (by simp [be_length]) (low16_lt _)
  unfold takeD
  rw [if_pos (Or.inl rfl)]
  unfold shortD
  rw [if_neg (by omega), if_neg (fun e => e rfl), if_neg (fun e => e rfl), if_neg (by decide), if_neg (by omega), if_pos rfl]
  congr 2
  rw [Tlv.ext']
  unfold helloT
  rw [n2, n4, low16_back (by omega)]
  unfold KindP at hK
  simp only [true_and, and_true]
  omega
theorem take_ihu (s : Dst) {t : Tlv} (h : mayT t = true) (ho : t.ok) (hk : t.kind = 1) : takeD s 5 ([0, 0] ++ (be 2 (low16 t.cost) ++ be 2 (low16 t.iv))) = some (s.add t) := by
  obtain ⟨hm, ha, hK⟩ := may_split h
  have hl : ([0, 0] ++ (be 2 (low16 t.cost) ++ be 2 (low16 t.iv)) : List UInt8).length = 6 := by simp [be_length]
  have n2 : num ([0, 0] ++ (be 2 (low16 t.cost) ++ be 2 (low16 t.iv))) 2 2 = low16 t.cost := num_at (x := [0, 0]) (y := be 2 (low16 t.iv)) rfl rfl (low16_lt _)
  have n4 : num ([0, 0] ++ (be 2 (low16 t.cost) ++ be 2 (low16 t.iv))) 4 2 = low16 t.iv := num_at (x := [0, 0] ++ be 2 (low16 t.cost)) (y := []) (by simp) (by simp [be_length]) (low16_lt _)
  unfold takeD
  rw [if_pos (Or.inr (Or.inl rfl))]
  unfold shortD
  rw [if_neg (by omega), if_neg (fun e => e rfl), if_neg (fun e => e rfl), if_neg (by decide), if_neg (by omega), if_neg (by decide), if_pos rfl]
  congr 2
  rw [Tlv.ext']
  unfold ihuT
  rw [n2, n4, low16_back (by omega), low16_back (by omega)]
  unfold KindP at hK
  simp only [true_and, and_true]
  omega
theorem take_router (s : Dst) {r : Nat} (hr : r < 18446744073709551616) : takeD s 6 ([0, 0] ++ longB r) = some { s with router := r, told := true } := by
  have hl : ([0, 0] ++ longB r : List UInt8).length = 10 := by simp [longB_len]
  have n2 : num ([0, 0] ++ longB r) 2 4 = r / 4294967296 := num_at (x := [0, 0]) (y := be 4 (r % 4294967296)) (by simp [longB]) rfl (by omega)
  have n6 : num ([0, 0] ++ longB r) 6 4 = r % 4294967296 := num_at (x := [0, 0] ++ be 4 (r / 4294967296)) (y := []) (by simp [longB]) (by simp [be_length]) (by omega)
  unfold takeD
  rw [if_pos (Or.inr (Or.inr rfl))]
  unfold shortD
  rw [if_neg (by omega), if_neg (fun e => e rfl), if_neg (fun e => e rfl), if_pos rfl, if_pos hl]
  unfold num8N
  rw [n2, n6, show r / 4294967296 * 4294967296 + r % 4294967296 = r by omega]
theorem okP_addr {a : Nat} {n : Int} (ha : a < 4294967296) (h : mayB a n = true) : okP n (addrB a n) = true := by
  unfold okP
  rw [prefV_addr ha h, h, addrB_len (may_out h).1]
  simp
theorem take_ask (s : Dst) {t : Tlv} (h : mayT t = true) (ho : t.ok) (hk : t.kind = 3) : takeD s 9 ([1, lowB t.n] ++ addrB t.a t.n) = some (s.add t) := by
  obtain ⟨hm, ha, hK⟩ := may_split h
  have hn := (may_out hm).1
  have hl := addrB_len (a := t.a) hn
  have hbt : bitsD ([1, lowB t.n] ++ addrB t.a t.n) 1 = t.n := lowB_back (x := t.n) (by omega)
  have hb : ((byteAt ([1, lowB t.n] ++ addrB t.a t.n) 1).toNat : Int) = t.n := hbt
  unfold takeD
  rw [if_neg (by decide), if_neg (by decide), if_pos (Or.inl rfl)]
  unfold askD
  rw [if_neg (by simp), if_neg (fun e => e rfl), if_neg (by omega), if_neg (by decide), hbt, show ([1, lowB t.n] ++ addrB t.a t.n : List UInt8).drop 2 = addrB t.a t.n from rfl, if_pos (okP_addr ho.a hm)]
  congr 2
  rw [Tlv.ext']
  unfold askT
  rw [hbt, show ([1, lowB t.n] ++ addrB t.a t.n : List UInt8).drop 2 = addrB t.a t.n from rfl, prefV_addr ho.a hm]
  unfold KindP at hK
  simp only [true_and, and_true]
  omega
theorem take_askS (s : Dst) {t : Tlv} (h : mayT t = true) (ho : t.ok) (hk : t.kind = 4) : takeD s 10 ([1, lowB t.n] ++ (be 2 t.seq ++ ([lowB t.hops, 0] ++ (longB t.router ++ addrB t.a t.n)))) = some (s.add t) := by
  obtain ⟨hm, ha, hK⟩ := may_split h
  have hn := (may_out hm).1
  have hl := addrB_len (a := t.a) hn
  have hseq := ho.seq
  have hro := ho.router
  generalize hb0 : ([1, lowB t.n] ++ (be 2 t.seq ++ ([lowB t.hops, 0] ++ (longB t.router ++ addrB t.a t.n))) : List UInt8) = b
  have hlen : b.length = 14 + nd t.n := by rw [← hb0]; simp [be_length, longB_len, hl]; omega
  have b0 : byteAt b 0 = 1 := by rw [← hb0]; rfl
  have hbt : bitsD b 1 = t.n := by
    have : byteAt b 1 = lowB t.n := by rw [← hb0]; rfl
    unfold bitsD; rw [this]; exact lowB_back (by omega)
  have hb : ((byteAt b 1).toNat : Int) = t.n := hbt
  have n2 : num b 2 2 = t.seq := num_at (x := [1, lowB t.n]) (y := [lowB t.hops, 0] ++ (longB t.router ++ addrB t.a t.n)) (by rw [← hb0]) rfl (by omega)
  have b4 : byteAt b 4 = lowB t.hops := byteAt_app (x := [1, lowB t.n] ++ be 2 t.seq) (y := 0 :: (longB t.router ++ addrB t.a t.n)) (by rw [← hb0]; simp) (by simp [be_length])
  have b5 : byteAt b 5 = 0 := byteAt_app (x := [1, lowB t.n] ++ (be 2 t.seq ++ [lowB t.hops])) (y := longB t.router ++ addrB t.a t.n) (by rw [← hb0]; simp) (by simp [be_length])
  have n6 : num b 6 4 = t.router / 4294967296 := num_at (x := [1, lowB t.n] ++ (be 2 t.seq ++ [lowB t.hops, 0])) (y := be 4 (t.router % 4294967296) ++ addrB t.a t.n) (by rw [← hb0]; simp [longB]) (by simp [be_length]) (by omega)
  have n10 : num b 10 4 = t.router % 4294967296 := num_at (x := [1, lowB t.n] ++ (be 2 t.seq ++ ([lowB t.hops, 0] ++ be 4 (t.router / 4294967296)))) (y := addrB t.a t.n) (by rw [← hb0]; simp [longB]) (by simp [be_length]) (by omega)
  have hd : b.drop 14 = addrB t.a t.n := by
    rw [← hb0, show ([1, lowB t.n] ++ (be 2 t.seq ++ ([lowB t.hops, 0] ++ (longB t.router ++ addrB t.a t.n))) : List UInt8) = ([1, lowB t.n] ++ (be 2 t.seq ++ ([lowB t.hops, 0] ++ longB t.router))) ++ addrB t.a t.n by simp]
    exact List.drop_left' (by simp [be_length, longB_len])
  unfold takeD
  rw [if_neg (by decide), if_neg (by decide), if_pos (Or.inr rfl)]
  unfold askD
  rw [if_neg (by omega), if_neg (by simp [b0]), if_neg (by omega), if_pos rfl, if_neg (by omega), if_neg (by simp [b5]), hbt, hd, if_pos (okP_addr ho.a hm)]
  congr 2
  rw [Tlv.ext']
  have hh : bitsD b 4 = t.hops := by unfold bitsD; rw [b4]; exact lowB_back (by omega)
  unfold askST num8N
  rw [hbt, hd, prefV_addr ho.a hm, n2, n6, n10, hh]
  unfold KindP at hK
  simp only [true_and, and_true]
  omega
end Go.Proofs.YtcfnliodgoenkaaS
