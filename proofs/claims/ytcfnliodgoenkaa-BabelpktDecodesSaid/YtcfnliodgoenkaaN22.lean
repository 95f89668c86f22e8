import Derived.Test.YtcfnliodgoenkaaN21
set_option linter.unusedVariables false
namespace Go.Proofs.YtcfnliodgoenkaaS
theorem sqz_le4 (a b : Nat) {m : Nat} (h : m ≤ 4) : sqz a b (m : Nat) ≤ m := by
  have := sqz_le a b (n := ((m : Nat) : Int)) (by omega)
  omega
theorem take_upd (s : Dst) {t : Tlv} (h : mayT t = true) (ho : t.ok) (hk : t.kind = 2) (htold : s.told = true) (hrt : s.router = t.router) :
    takeD s 8 (updBody t (sqz s.last t.a (nd t.n : Nat))) = some { s with last := t.a, l := s.l ++ [t] } := by
  obtain ⟨hm, ha, hK⟩ := may_split h
  have hn := (may_out hm).1
  have hl := addrB_len (a := t.a) hn
  have hnd := nd_le hn
  have hseq := ho.seq
  have htag := ho.tag
  have hst := sqz_take s.last t.a (nd t.n : Nat)
  have hkle := sqz_le4 s.last t.a hnd
  generalize sqz s.last t.a (nd t.n : Nat) = k at hst hkle ⊢
  generalize hb0 : updBody t k = b
  unfold updBody at hb0
  have hlen : b.length = 10 + (nd t.n - k) + (tagB t).length := by rw [← hb0]; simp [be_length, hl]; omega
  have b0 : byteAt b 0 = 1 := by rw [← hb0]; rfl
  have b1 : byteAt b 1 = 128 := by rw [← hb0]; rfl
  have b2 : byteAt b 2 = lowB t.n := by rw [← hb0]; rfl
  have b3 : byteAt b 3 = lowB (k : Nat) := by rw [← hb0]; rfl
  have hbt : bitsD b 2 = t.n := by unfold bitsD; rw [b2]; exact lowB_back (by omega)
  have h2 : ((byteAt b 2).toNat : Int) = t.n := hbt
  have h3 : (byteAt b 3).toNat = k := by have := lowB_back (x := ((k : Nat) : Int)) (by omega); rw [b3]; omega
  have hnew : newD b = nd t.n - k := by unfold newD; rw [hbt, h3]
  have n4 : num b 4 2 = low16 t.iv := num_at (x := [1, 128, lowB t.n, lowB (k : Nat)]) (y := be 2 t.seq ++ (be 2 (low16 t.cost) ++ ((addrB t.a t.n).drop k ++ tagB t))) (by rw [← hb0]) rfl (low16_lt _)
  have n6 : num b 6 2 = t.seq := num_at (x := [1, 128, lowB t.n, lowB (k : Nat)] ++ be 2 (low16 t.iv)) (y := be 2 (low16 t.cost) ++ ((addrB t.a t.n).drop k ++ tagB t)) (by rw [← hb0]; simp) (by simp [be_length]) (by omega)
  have n8 : num b 8 2 = low16 t.cost := num_at (x := [1, 128, lowB t.n, lowB (k : Nat)] ++ (be 2 (low16 t.iv) ++ be 2 t.seq)) (y := (addrB t.a t.n).drop k ++ tagB t) (by rw [← hb0]; simp) (by simp [be_length]) (low16_lt _)
  have hd : b.drop 10 = (addrB t.a t.n).drop k ++ tagB t := by
    rw [← hb0, show ([1, 128, lowB t.n, lowB (k : Nat)] ++ (be 2 (low16 t.iv) ++ (be 2 t.seq ++ (be 2 (low16 t.cost) ++ ((addrB t.a t.n).drop k ++ tagB t)))) : List UInt8) = ([1, 128, lowB t.n, lowB (k : Nat)] ++ (be 2 (low16 t.iv) ++ (be 2 t.seq ++ be 2 (low16 t.cost)))) ++ ((addrB t.a t.n).drop k ++ tagB t) by simp]
    exact List.drop_left' (by simp [be_length])
  have hdl : ((addrB t.a t.n).drop k).length = nd t.n - k := by rw [List.length_drop, hl]
  have hw : wordD s b = addrB t.a t.n := by
    unfold wordD
    rw [h3, hnew, hd, hst, List.take_left' hdl]
    rw [show (be 4 t.a).take k = (addrB t.a t.n).take k by unfold addrB; rw [List.take_take, Nat.min_eq_left hkle]]
    exact List.take_append_drop _ _
  have hok : okP t.n (addrB t.a t.n) = true := okP_addr ho.a hm
  unfold takeD
  rw [if_neg (by decide), if_pos rfl]
  unfold updD
  rw [if_neg (by simp [htold]), if_neg (by omega), if_neg (by simp [b0]), if_neg (by simp [b1]), if_neg (by omega), hbt, if_neg (by omega), if_neg (by omega), hw, if_neg (by simp [hok])]
  have hT : updTl s b t.tag = t := by
    rw [Tlv.ext']
    unfold updTl
    rw [n4, n6, n8, hw, hbt, prefV_addr ho.a hm, low16_back (by omega), low16_back (by omega)]
    unfold KindP at hK
    simp only [true_and, and_true]
    omega
  have hN : updN s b t.tag = { s with last := t.a, l := s.l ++ [t] } := by
    unfold updN
    rw [hT, hw, prefV_addr ho.a hm]
  by_cases hz : t.tag = 0
  · have ht0 : (tagB t).length = 0 := by unfold tagB; rw [if_pos hz]; rfl
    rw [if_pos (by omega), ← hN, hz]
  · have htb : tagB t = [200, 2] ++ be 2 t.tag := by unfold tagB; rw [if_neg hz]; rfl
    have ht4 : (tagB t).length = 4 := by rw [htb]; simp [be_length]
    have hsplit : b = ([1, 128, lowB t.n, lowB (k : Nat)] ++ (be 2 (low16 t.iv) ++ (be 2 t.seq ++ (be 2 (low16 t.cost) ++ (addrB t.a t.n).drop k)))) ++ ([200, 2] ++ be 2 t.tag) := by
      rw [← hb0, htb]; simp
    have hpl : ([1, 128, lowB t.n, lowB (k : Nat)] ++ (be 2 (low16 t.iv) ++ (be 2 t.seq ++ (be 2 (low16 t.cost) ++ (addrB t.a t.n).drop k))) : List UInt8).length = 10 + newD b := by
      rw [hnew]; simp [be_length, hl]; omega
    have c0 : byteAt b (10 + newD b) = 200 := by rw [← hpl]; exact byteAt_app (y := 2 :: be 2 t.tag) hsplit rfl
    have c1 : byteAt b (11 + newD b) = 2 := byteAt_app (x := ([1, 128, lowB t.n, lowB (k : Nat)] ++ (be 2 (low16 t.iv) ++ (be 2 t.seq ++ (be 2 (low16 t.cost) ++ (addrB t.a t.n).drop k)))) ++ [200]) (y := be 2 t.tag) (by rw [hsplit]; simp) (by rw [List.length_append, hpl]; simp; omega)
    have c2 : num b (12 + newD b) 2 = t.tag := num_at (x := ([1, 128, lowB t.n, lowB (k : Nat)] ++ (be 2 (low16 t.iv) ++ (be 2 t.seq ++ (be 2 (low16 t.cost) ++ (addrB t.a t.n).drop k)))) ++ [200, 2]) (y := []) (by rw [hsplit]; simp) (by rw [List.length_append, hpl]; simp; omega) (by omega)
    rw [if_neg (by omega), if_neg (by omega), if_neg (by simp [c0]), if_neg (by simp [c1]), c2, if_neg hz, hN]
def ofW (st : Wst) (l : List Tlv) : Dst := ⟨st.told, st.router, st.last, l⟩
theorem updBody_len {t : Tlv} (hn : 0 ≤ t.n ∧ t.n ≤ 32) (k : Nat) : (updBody t k).length ≤ 255 := by
  have hl := addrB_len (a := t.a) hn
  have hnd := nd_le hn
  have h2 := tagB_len t
  unfold updBody
  simp only [List.length_append, be_length, List.length_drop, hl, List.length_cons, List.length_nil]
  omega
theorem decD_part (st : Wst) (l : List Tlv) {t : Tlv} (h : mayT t = true) (ho : t.ok) (rest : List UInt8) : decD (ofW st l) (partB st t ++ rest) = decD (ofW (partS st t) (l ++ [t])) rest := by
  obtain ⟨hm, ha, hK⟩ := may_split h
  obtain ⟨hn, hkr, _⟩ := may_facts h
  have hl := addrB_len (a := t.a) hn
  have hnd := nd_le hn
  have c : t.kind = 0 ∨ t.kind = 1 ∨ t.kind = 2 ∨ t.kind = 3 ∨ t.kind = 4 := by omega
  rcases c with hk | hk | hk | hk | hk
  · rw [show partB st t = tlvB 4 ([0, 0] ++ (be 2 t.seq ++ be 2 (low16 t.iv))) by unfold partB; simp [hk], show partS st t = st by unfold partS; simp [hk], decD_tlv (by simp [be_length]), take_hello _ h ho hk]
    rfl
  · rw [show partB st t = tlvB 5 ([0, 0] ++ (be 2 (low16 t.cost) ++ be 2 (low16 t.iv))) by unfold partB; simp [hk], show partS st t = st by unfold partS; simp [hk], decD_tlv (by simp [be_length]), take_ihu _ h ho hk]
    rfl
  · rw [show partB st t = updW st t by unfold partB; simp [hk], show partS st t = updS t by unfold partS; simp [hk]]
    have fin : ∀ s : Dst, s.told = true → s.router = t.router → s.last = st.last → s.l = l → decD s (tlvB 8 (updBody t (sqz st.last t.a (nd t.n : Nat))) ++ rest) = decD (ofW (updS t) (l ++ [t])) rest := by
      rintro ⟨told, router, last, l'⟩ h1 h2 h3 h4
      dsimp only at h1 h2 h3 h4
      subst h1 h2 h3 h4
      rw [decD_tlv (updBody_len hn _), take_upd ⟨true, t.router, st.last, l'⟩ h ho hk rfl rfl]
      rfl
    unfold updW rtB
    split
    · rw [List.append_assoc, decD_tlv (by simp [longB_len]), take_router _ ho.router]
      exact fin _ rfl rfl rfl rfl
    · rename_i hno
      rw [List.nil_append]
      refine fin _ ?_ ?_ rfl rfl
      · show st.told = true
        cases hb : st.told with
        | true => rfl
        | false => exact absurd (.inl hb) hno
      · show st.router = t.router
        exact Classical.byContradiction fun e => hno (.inr e)
  · rw [show partB st t = tlvB 9 ([1, lowB t.n] ++ addrB t.a t.n) by unfold partB; simp [hk], show partS st t = st by unfold partS; simp [hk], decD_tlv (by simp [hl]; omega), take_ask _ h ho hk]
    rfl
  · rw [show partB st t = tlvB 10 ([1, lowB t.n] ++ (be 2 t.seq ++ ([lowB t.hops, 0] ++ (longB t.router ++ addrB t.a t.n)))) by unfold partB; simp [hk], show partS st t = st by unfold partS; simp [hk], decD_tlv (by simp [be_length, longB_len, hl]; omega), take_askS _ h ho hk]
    rfl
theorem decD_enc : ∀ (ts : List Tlv) (st : Wst) (l : List Tlv) (rest : List UInt8), (∀ t ∈ ts, mayT t = true ∧ t.ok) → decD (ofW st l) (encW st ts ++ rest) = decD (ofW (ts.foldl partS st) (l ++ ts)) rest
  | [], st, l, rest, _ => by simp [encW]
  | t :: ts, st, l, rest, h => by
    obtain ⟨h1, h2⟩ := h t List.mem_cons_self
    show decD _ ((partB st t ++ encW (partS st t) ts) ++ rest) = _
    rw [List.append_assoc, decD_part st l h1 h2, decD_enc ts _ _ _ fun x hx => h x (List.mem_cons_of_mem _ hx)]
    simp
end Go.Proofs.YtcfnliodgoenkaaS
