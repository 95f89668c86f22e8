import Derived.Test.YtkdakglnhipmaaaN9
set_option linter.unusedVariables false
namespace Go.Proofs.YtkdakglnhipmaaaS
/-! Packets and bytes: in plain Lean. -/
def chunks : Nat → List UInt8 → List (List UInt8)
  | 0, _ => []
  | n + 1, l => l.take 20 :: chunks n (l.drop 20)
theorem chunks_enc (es : List DEnt) : chunks es.length (es.flatMap dencE) = es.map dencE := by
  induction es with
  | nil => rfl
  | cons e es ih =>
    rw [List.flatMap_cons, List.length_cons, List.map_cons]
    unfold chunks
    have h1 := dencE_len e
    rw [show (dencE e ++ es.flatMap dencE).take 20 = dencE e by rw [← h1, List.take_left], show (dencE e ++ es.flatMap dencE).drop 20 = es.flatMap dencE by rw [← h1, List.drop_left], ih]
theorem num_chunk {l : List UInt8} {a i k n : Nat} (h : i + k ≤ n) : num ((l.drop a).take n) i k = num l (a + i) k := by
  unfold num
  rw [List.drop_take, List.take_take, List.drop_drop, Nat.min_eq_left (by omega)]
theorem byteAt_chunk {l : List UInt8} {a i n : Nat} (h : i < n) : byteAt ((l.drop a).take n) i = byteAt l (a + i) := by
  unfold byteAt
  rw [List.getElem?_take, if_pos h, List.getElem?_drop]
theorem byteAt_app {l x y : List UInt8} {b : UInt8} {i : Nat} (hl : l = x ++ (b :: y)) (hx : x.length = i) : byteAt l i = b := by
  unfold byteAt
  rw [hl, List.getElem?_append_right (by omega), hx, Nat.sub_self]
  rfl
theorem dent_facts {e : DEnt} (h : dentB e = true) : (0 ≤ e.n ∧ e.n ≤ 32) ∧ (0 ≤ e.v.b ∧ e.v.b ≤ 10000000) ∧ (0 ≤ e.v.d ∧ e.v.d ≤ 16777216) ∧ (0 ≤ e.v.p ∧ e.v.p ≤ 100) := by
  unfold dentB mayB at h
  simp only [Bool.and_eq_true, Bool.or_eq_true, decide_eq_true_eq] at h
  obtain ⟨⟨h1, h2, _⟩, h3⟩ := h
  refine ⟨⟨h1, h2⟩, ?_⟩
  rcases h3 with h3 | h3
  · unfold vmayB at h3
    simp only [Bool.and_eq_true, decide_eq_true_eq] at h3
    omega
  · unfold vzero at h3
    simp at h3
    omega
theorem low32_back {x : Int} (h : 0 ≤ x ∧ x < 4294967296) : ((low32 x : Nat) : Int) = x := by unfold low32; omega
theorem lowB_back {x : Int} (h : 0 ≤ x ∧ x < 256) : (((lowB x).toNat : Nat) : Int) = x := by unfold lowB; rw [toNat_ofNat']; omega
theorem dread_enc {e : DEnt} (ho : e.ok) (h : dentB e = true) : dreadE (dencE e) = e := by
  obtain ⟨h1, h2, h3, h4⟩ := dent_facts h
  have ha := ho.a
  have ht := ho.tag
  have hb := low32_lt e.v.b
  have hd := low32_lt e.v.d
  have n0 : num (dencE e) 0 4 = e.a := num_at (x := []) (y := [lowB e.n, lowB e.v.p] ++ (be 2 e.tag ++ (be 4 (low32 e.v.b) ++ (be 4 (low32 e.v.d) ++ [0, 0, 0, 0])))) (by simp [dencE]) rfl (by omega)
  have b4 : byteAt (dencE e) 4 = lowB e.n := byteAt_app (x := be 4 e.a) (y := lowB e.v.p :: (be 2 e.tag ++ (be 4 (low32 e.v.b) ++ (be 4 (low32 e.v.d) ++ [0, 0, 0, 0])))) (by simp [dencE]) (be_length _ _)
  have b5 : byteAt (dencE e) 5 = lowB e.v.p := byteAt_app (x := be 4 e.a ++ [lowB e.n]) (y := (be 2 e.tag ++ (be 4 (low32 e.v.b) ++ (be 4 (low32 e.v.d) ++ [0, 0, 0, 0])))) (by simp [dencE]) (by simp [be_length])
  have n6 : num (dencE e) 6 2 = e.tag := num_at (x := be 4 e.a ++ [lowB e.n, lowB e.v.p]) (y := (be 4 (low32 e.v.b) ++ (be 4 (low32 e.v.d) ++ [0, 0, 0, 0]))) (by simp [dencE]) (by simp [be_length]) (by omega)
  have n8 : num (dencE e) 8 4 = low32 e.v.b := num_at (x := be 4 e.a ++ ([lowB e.n, lowB e.v.p] ++ be 2 e.tag)) (y := (be 4 (low32 e.v.d) ++ [0, 0, 0, 0])) (by simp [dencE]) (by simp [be_length]) (by omega)
  have n12 : num (dencE e) 12 4 = low32 e.v.d := num_at (x := be 4 e.a ++ ([lowB e.n, lowB e.v.p] ++ (be 2 e.tag ++ be 4 (low32 e.v.b)))) (y := [0, 0, 0, 0]) (by simp [dencE]) (by simp [be_length]) (by omega)
  unfold dreadE
  rw [n0, b4, b5, n6, n8, n12, low32_back (by omega), low32_back (by omega), lowB_back (by omega), lowB_back (by omega)]
def none7 : DPk := ⟨0, false, 0, 0, []⟩
/-- What bytes tell, right or not. -/
def ddecP (l : List UInt8) : DPk := ⟨(((byteAt l 1).toNat : Nat) : Int), byteAt l 4 == 1, num l 8 4, num l 12 4, (chunks ((l.length - 16) / 20) (l.drop 16)).map dreadE⟩
def dformB (l : List UInt8) : Bool := decide (16 ≤ l.length) && (decide ((l.length - 16) % 20 = 0) && byteAt l 0 == 2)
/-- The packet and the error of bytes. -/
def ddecR (l : List UInt8) : DPk × Int :=
  if dformB l = false then (none7, 2) else if be 2 (sumN (zs l)) ≠ (l.drop 2).take 2 then (none7, 8) else if l.length > 816 then (none7, 9) else if dencR (ddecP l) = (l, 0) then (ddecP l, 0) else (none7, 2)
theorem ddecP_enc {p : DPk} {y : List UInt8} (hy : y.length = 2) (hp : p.ok) (hc : 0 ≤ p.code ∧ p.code < 256) (hok : ∀ e ∈ p.es, e.ok) (ha : p.es.all dentB = true) : ddecP (dencX p y) = p := by
  have hs := hp.seq
  have hk := hp.ack
  have hl := dencX_len p hy
  obtain ⟨y0, y1, rfl⟩ : ∃ a b, y = [a, b] := by
    match y, hy with
    | [a, b], _ => exact ⟨a, b, rfl⟩
  have b1 : byteAt (dencX p [y0, y1]) 1 = lowB p.code := rfl
  have b4 : byteAt (dencX p [y0, y1]) 4 = if p.init then 1 else 0 := rfl
  have n8 : num (dencX p [y0, y1]) 8 4 = p.seq := num_at (x := [2, lowB p.code, y0, y1, if p.init then 1 else 0, 0, 0, 0]) (y := be 4 p.ack ++ p.es.flatMap dencE) (by simp [dencX, dhead]) rfl (by omega)
  have n12 : num (dencX p [y0, y1]) 12 4 = p.ack := num_at (x := [2, lowB p.code, y0, y1, if p.init then 1 else 0, 0, 0, 0] ++ be 4 p.seq) (y := p.es.flatMap dencE) (by simp [dencX, dhead]) (by simp [be_length]) (by omega)
  have hd : (dencX p [y0, y1]).drop 16 = p.es.flatMap dencE := by
    unfold dencX
    rw [← dhead_len p (x := [y0, y1]) rfl, List.drop_left]
  have hq : ((dencX p [y0, y1]).length - 16) / 20 = p.es.length := by rw [hl]; omega
  have hes : (p.es.map dencE).map dreadE = p.es := by
    rw [List.map_map]
    conv => rhs; rw [← List.map_id p.es]
    exact List.map_congr_left fun e he => dread_enc (hok e he) (List.all_eq_true.1 ha e he)
  unfold ddecP
  rw [b1, b4, n8, n12, hd, hq, chunks_enc, hes, lowB_back hc]
  have hi : ((if p.init then (1 : UInt8) else 0) == 1) = p.init := by cases p.init <;> rfl
  rw [hi]
theorem denc_ok {p : DPk} (h : (dencR p).2 = 0) : dencR p = (dencB p, 0) ∧ p.es.length ≤ 40 ∧ (0 ≤ p.code ∧ p.code < 256) ∧ p.es.all dentB = true := by
  unfold dencR at h ⊢
  split at h
  · cases h
  rename_i h1
  split at h
  · cases h
  rename_i h2
  rw [if_neg h1, if_neg h2]
  refine ⟨rfl, by omega, ?_, ?_⟩
  · by_cases h3 : p.code < 0
    · exact absurd (.inl h3) h2
    · by_cases h4 : p.code > 3
      · exact absurd (.inr (.inl h4)) h2
      · omega
  · cases hh : p.es.all dentB with
    | true => rfl
    | false => exact absurd (.inr (.inr (.inr hh))) h2
theorem denc_bad {p : DPk} (h : (dencR p).2 ≠ 0) : (dencR p).1 = [] := by
  unfold dencR at h ⊢
  split
  · rfl
  · split
    · rfl
    · rename_i h1 h2
      rw [if_neg h1, if_neg h2] at h
      exact absurd rfl h
theorem zs_XX (p : DPk) (y : List UInt8) (hy : y.length = 2) : zs (dencX p y) = dencX p [0, 0] := by
  match y, hy with
  | [a, b], _ => rfl
theorem dform_enc (p : DPk) {y : List UInt8} (hy : y.length = 2) : dformB (dencX p y) = true := by
  have hl := dencX_len p hy
  unfold dformB
  rw [decide_eq_true (by omega), decide_eq_true (by omega)]
  rfl
/-- What was encoded is decoded so. -/
theorem ddec_enc {p : DPk} (hp : p.ok) (hok : ∀ e ∈ p.es, e.ok) (h : (dencR p).2 = 0) : dencR p = (dencB p, 0) ∧ p.es.length ≤ 40 ∧ ddecR (dencB p) = (p, 0) := by
  obtain ⟨h1, h2, h3, h4⟩ := denc_ok h
  refine ⟨h1, h2, ?_⟩
  have hy : (be 2 (sumN (dencX p [0, 0]))).length = 2 := be_length _ _
  have hd : ddecP (dencB p) = p := ddecP_enc hy hp h3 hok h4
  have hl := dencB_len p
  unfold ddecR
  rw [if_neg (by rw [show dformB (dencB p) = true from dform_enc p hy]; simp), if_neg, if_neg (by omega), hd, if_pos h1]
  intro hn
  refine hn ?_
  have hz : zs (dencB p) = dencX p [0, 0] := zs_XX p _ hy
  rw [hz]
  have : (dencB p).drop 2 = be 2 (sumN (dencX p [0, 0])) ++ ([if p.init then 1 else 0, 0, 0, 0] ++ (be 4 p.seq ++ be 4 p.ack)) ++ p.es.flatMap dencE := by
    simp [dencB, dencX, dhead]
  rw [this, List.append_assoc]
  exact (List.take_left' hy).symm
/-- What was decoded is encoded as just these bytes. -/
theorem denc_dec {l : List UInt8} (h : (ddecR l).2 = 0) : dencR (ddecR l).1 = (l, 0) ∧ dformB l = true ∧ be 2 (sumN (zs l)) = (l.drop 2).take 2 := by
  unfold ddecR at h ⊢
  split at h
  · cases h
  rename_i h1
  split at h
  · cases h
  rename_i h2
  split at h
  · cases h
  rename_i h3
  split at h
  · rename_i h4
    rw [if_neg h1, if_neg h2, if_neg h3, if_pos h4]
    exact ⟨h4, by simpa using h1, by simpa using h2⟩
  · cases h
theorem ddec_bad {l : List UInt8} (h : (ddecR l).2 ≠ 0) : (ddecR l).1 = none7 := by
  unfold ddecR at h ⊢
  split
  · rfl
  · split
    · rfl
    · split
      · rfl
      · split
        · rename_i h1 h2 h3 h4
          rw [if_neg h1, if_neg h2, if_neg h3, if_pos h4] at h
          exact absurd rfl h
        · rfl
theorem ddec_short {l : List UInt8} (h : l.length < 16 ∨ (l.length - 16) % 20 ≠ 0 ∨ byteAt l 0 ≠ 2) : ddecR l = (none7, 2) := by
  have hf : dformB l = false := by
    unfold dformB
    rcases h with h | h | h
    · rw [decide_eq_false (p := 16 ≤ l.length) (by omega)]; rfl
    · rw [decide_eq_false (p := (l.length - 16) % 20 = 0) h, Bool.false_and, Bool.and_false]
    · rw [show (byteAt l 0 == 2) = false by rw [beq_eq_false_iff_ne]; exact h, Bool.and_false, Bool.and_false]
  unfold ddecR
  rw [if_pos hf]
/-! One byte that is another one. -/
theorem psum_set : ∀ (l : List UInt8) (i j : Nat) (b : UInt8), j < l.length → psum i (l.set j b) + (byteAt l j).toNat * wt (i + j) = psum i l + b.toNat * wt (i + j)
  | [], i, j, b, h => by simp at h
  | a :: l, i, 0, b, _ => by
    show b.toNat * wt i + psum (i + 1) l + a.toNat * wt i = a.toNat * wt i + psum (i + 1) l + b.toNat * wt i
    omega
  | a :: l, i, j + 1, b, h => by
    have ih := psum_set l (i + 1) j b (by simpa using h)
    rw [show i + 1 + j = i + (j + 1) by omega] at ih
    have hb : byteAt (a :: l) (j + 1) = byteAt l j := rfl
    have e1 : psum i ((a :: l).set (j + 1) b) = a.toNat * wt i + psum (i + 1) (l.set j b) := rfl
    have e2 : psum i (a :: l) = a.toNat * wt i + psum (i + 1) l := rfl
    rw [e1, e2, hb]
    omega
theorem fold16_eq {m n : Nat} (hm : 0 < m) (hn : 0 < n) (h : fold16 m = fold16 n) : (m - 1) % 65535 = (n - 1) % 65535 := by
  unfold fold16 at h
  rw [if_neg (by omega), if_neg (by omega)] at h
  omega
theorem sum_spoils {l : List UInt8} {j : Nat} {b : UInt8} (hj : j < l.length) (hb : byteAt l j ≠ b) (h0 : 0 < psum 0 l) (h1 : 0 < psum 0 (l.set j b)) : sumN (l.set j b) ≠ sumN l := by
  intro h
  have hs := psum_set l 0 j b hj
  rw [Nat.zero_add] at hs
  have f1 := fold16_le (psum 0 l)
  have f2 := fold16_le (psum 0 (l.set j b))
  unfold sumN at h
  have hf := fold16_eq h1 h0 (by omega)
  have t1 := (byteAt l j).toNat_lt
  have t2 := b.toNat_lt
  have hne : (byteAt l j).toNat ≠ b.toNat := fun e => hb (UInt8.toNat_inj.1 e)
  have hw : wt j = 256 ∨ wt j = 1 := by unfold wt; split; exact .inl rfl; exact .inr rfl
  rcases hw with hw | hw
  · rw [hw] at hs; omega
  · rw [hw] at hs; omega
theorem be2_inj {m n : Nat} (hm : m < 65536) (hn : n < 65536) (h : be 2 m = be 2 n) : m = n := by
  have h1 := val_be 2 m
  have h2 := val_be 2 n
  rw [h] at h1
  omega
theorem ddec_spoils {p : DPk} {j : Nat} {b : UInt8} (hj : j < (dencB p).length) (hb : byteAt (dencB p) j ≠ b) : (ddecR ((dencB p).set j b)).2 ≠ 0 := by
  intro h
  obtain ⟨_, hf, hs⟩ := denc_dec h
  have hy : (be 2 (sumN (dencX p [0, 0]))).length = 2 := be_length _ _
  have hl := dencB_len p
  obtain ⟨y0, y1, hyy⟩ : ∃ a b, be 2 (sumN (dencX p [0, 0])) = [a, b] := by
    match hb2 : be 2 (sumN (dencX p [0, 0])), hy with
    | [a, b], _ => exact ⟨a, b, rfl⟩
  have hB : dencB p = dencX p [y0, y1] := by unfold dencB; rw [hyy]
  rw [hB] at hj hb hf hs hl
  have h2 : ∀ (z0 z1 : UInt8) (r : List UInt8), (z0 :: z1 :: y0 :: y1 :: r).drop 2 = y0 :: y1 :: r := fun _ _ _ => rfl
  generalize hR : [if p.init then (1 : UInt8) else 0, 0, 0, 0] ++ (be 4 p.seq ++ be 4 p.ack) ++ p.es.flatMap dencE = R
  have hX : ∀ u v : UInt8, dencX p [u, v] = 2 :: lowB p.code :: u :: v :: R := by
    intro u v
    rw [← hR]
    simp [dencX, dhead]
  rw [hX] at hj hb hf hs hl
  rw [hX] at hyy
  have small : ∀ l, sumN l < 65536 := fun l => by have : sumN l ≤ 65535 := Nat.sub_le _ _; omega
  rcases j with _ | _ | _ | _ | j
  · unfold dformB at hf
    simp only [Bool.and_eq_true, beq_iff_eq] at hf
    exact hb hf.2.2.symm
  · have e : be 2 (sumN (2 :: b :: 0 :: 0 :: R)) = [y0, y1] := hs
    rw [← hyy] at e
    have := be2_inj (small _) (small _) e
    refine sum_spoils (l := 2 :: lowB p.code :: 0 :: 0 :: R) (j := 1) (b := b) (by simp) hb ?_ ?_ this
    · show 0 < 2 * 256 + _; omega
    · show 0 < 2 * 256 + _; omega
  · have e : be 2 (sumN (2 :: lowB p.code :: 0 :: 0 :: R)) = [b, y1] := hs
    rw [hyy] at e
    injection e with e
    exact hb e
  · have e : be 2 (sumN (2 :: lowB p.code :: 0 :: 0 :: R)) = [y0, b] := hs
    rw [hyy] at e
    injection e with _ e
    injection e with e
    exact hb e
  · have e : be 2 (sumN (2 :: lowB p.code :: 0 :: 0 :: R.set j b)) = [y0, y1] := hs
    rw [← hyy] at e
    have := be2_inj (small _) (small _) e
    refine sum_spoils (l := 2 :: lowB p.code :: 0 :: 0 :: R) (j := j + 4) (b := b) (by simpa using hj) hb ?_ ?_ this
    · show 0 < 2 * 256 + _; omega
    · show 0 < 2 * 256 + _; omega
end Go.Proofs.YtkdakglnhipmaaaS
