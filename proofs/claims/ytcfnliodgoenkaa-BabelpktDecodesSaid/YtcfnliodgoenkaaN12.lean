import Derived.Test.YtcfnliodgoenkaaN11
import Derived.Test.YtcfnliodgoenkaaTA
set_option linter.unusedVariables false
namespace Go.Proofs.YtcfnliodgoenkaaS
theorem cmn_comm : ∀ (k : Nat) (x y : List UInt8), cmn k x y = cmn k y x
  | 0, x, y => by simp [cmn]
  | k + 1, [], [] => rfl
  | k + 1, [], b :: y => by simp [cmn]
  | k + 1, a :: x, [] => by simp [cmn]
  | k + 1, a :: x, b :: y => by
    rw [cmn_cons, cmn_cons, cmn_comm k x y]
    by_cases h : a = b
    · rw [if_pos h, if_pos h.symm]
    · rw [if_neg h, if_neg (fun e => h e.symm)]
theorem cmn_self : ∀ (k : Nat) (x : List UInt8), k ≤ x.length → cmn k x x = k
  | 0, x, _ => by simp [cmn]
  | k + 1, [], h => by simp at h
  | k + 1, a :: x, h => by
    rw [cmn_cons, if_pos rfl, cmn_self k x (by simpa using h)]
theorem cmn_all : ∀ (k : Nat) (x y : List UInt8), cmn k x y = k → x.take k = y.take k
  | 0, x, y, _ => by simp
  | k + 1, [], [], _ => rfl
  | k + 1, [], b :: y, h => by simp [cmn] at h
  | k + 1, a :: x, [], h => by simp [cmn] at h
  | k + 1, a :: x, b :: y, h => by
    rw [cmn_cons] at h
    split at h
    · rename_i e
      rw [List.take_succ_cons, List.take_succ_cons, e, cmn_all k x y (by omega)]
    · cases h
theorem be4_inj {a b : Nat} (ha : a < 4294967296) (hb : b < 4294967296) (h : be 4 a = be 4 b) : a = b := by
  have h1 := val_be 4 a
  have h2 := val_be 4 b
  rw [h] at h1
  omega
theorem sqz_comm (a b : Nat) (n : Int) : sqz a b n = sqz b a n := by
  unfold sqz
  rw [cmn_comm]
theorem sqz_self (a : Nat) {n : Int} (h : 0 ≤ n ∧ n ≤ 4) : ((sqz a a n : Nat) : Int) = n := by
  unfold sqz
  rw [if_pos h, cmn_self _ _ (by rw [be_length]; omega)]
  omega
theorem sqz_four {a b : Nat} (ha : a < 4294967296) (hb : b < 4294967296) {n : Int} (h : ¬ (((sqz a b n : Nat) : Int) < 4)) : a = b := by
  unfold sqz at h
  split at h
  · rename_i hn
    have hle := cmn_le n.toNat (be 4 a) (be 4 b)
    have h4 : n.toNat = 4 := by omega
    rw [h4] at h hle
    have := cmn_all 4 _ _ (show cmn 4 (be 4 a) (be 4 b) = 4 by omega)
    rw [List.take_of_length_le (by rw [be_length]; omega), List.take_of_length_le (by rw [be_length]; omega)] at this
    exact be4_inj ha hb this
  · omega
def tlvA : Tlv := ⟨0, 5, 400, 0, 0, 0, 0, 0, 0⟩
theorem tlvA_may : mayT tlvA = true := by
  unfold mayT
  rw [show mayB tlvA.a tlvA.n = true by decide, Bool.true_and, decide_eq_true_eq]
  unfold ArP KindP tlvA
  simp
theorem benc_awake : bencR [tlvA] = ([42, 2, 0, 8, 4, 6, 0, 0, 0, 5, 1, 144], 0) := by
  unfold bencR
  rw [if_neg (by simp), if_neg (by simp [tlvA_may])]
  decide
theorem tlvA_ok : tlvA.ok := ⟨by decide, by decide, ⟨by decide, by decide⟩, by decide, by decide⟩
theorem bawake_spec {I : Ctx} : Fn Try.prog 11 #[] I [] (fun v h' => v = .bool true ∧ h' = []) := by
  refine r_octroilaw06_awake ?_
  refine h_row (e := 37) ⟨tlvA.cs⟩ (by kernel_rfl) fun g hg hI => ?_
  dsimp only
  refine h_call [] _ ca_babelpkt_Encode (List.Perm.refl _) (fun hl => bencode_spec (ts := [tlvA]) ⟨tlvA.cs, RdC.all hl (fun _ => ⟨_, rfl, cellsM' (by repeat (first | exact mq0 | apply mq1 | apply mq2)) rfl⟩), tlvA.cs, [], rfl, ⟨rfl, tlvA_ok⟩, rfl⟩ (by simp)) ?_
  rw [benc_awake]
  rintro v h1 ⟨A, c, rfl, ho⟩
  refine ⟨getL [{ A := A, n := 12, c := c }, { i := 0 }], rfl, ?_⟩
  dsimp only [getL]
  dsimp only at ho
  refine h_yes rfl ?_
  refine h_toString (e := 5) (l := [42, 2, 0, 8, 4, 6, 0, 0, 0, 5, 1, 144]) (by kernel_rfl) (by kernel_rfl) (by kernel_rfl) rfl (ho.rd (fun x hx => by first | (simp [hx]; done) | (rw [List.mem_singleton] at hx; subst hx; simp; done))) ho.some_of ?_
  refine h_end0 ⟨?_, rfl⟩
  dsimp only
  rw [show (ByteArray.mk #[42, 2, 0, 8, 4, 6, 0, 0, 0, 5, 1, 144]) = bS [42, 2, 0, 8, 4, 6, 0, 0, 0, 5, 1, 144] from rfl, bS_toList]
  rfl
theorem law_BabelpktEncodes {J : Ctx} {A : Option Addr} {c : Nat} {ts : List Tlv} {a b : Nat} {n : Int} (hin : TlvsIn J A ts) (ha : a < 4294967296) (hb : b < 4294967296) :
    Fn Try.prog 3 #[.slice A ts.length c, .int .u32 (a : Int), .int .u32 (b : Int), .int .i64 n] J [] (fun v h' => v = .bool true ∧ h' = []) := by
  refine r_octroilaw06_BabelpktEncodes _ _ _ _ _ _ ?_
  refine h_call0 (fun _ => { b := true }) ca_octroilaw06_awake (fun hl => bawake_spec) rfl ?_
  refine h_ite (fun h0 => h_end0 ⟨rfl, rfl⟩) (fun b1 => ?_)
  have b1 : ts.length ≤ 60 := by simp at b1; omega
  refine h_call [] _ ca_babelpkt_Encode (List.Perm.refl _) (fun hl => bencode_spec (hin.up (Sub.self.up hl)) (by omega)) ?_
  rintro v m1 ⟨X1, x1, rfl, ho1⟩
  refine ⟨getL [{ A := X1, n := (bencR ts).1.length, c := x1 }, { i := (bencR ts).2 }], rfl, ?_⟩
  dsimp only [getL]
  refine h_call [] _ ca_octroiref06_Encode (List.Perm.refl _) (fun hl => rbencode_spec (hin.up (Sub.self.up hl))) ?_
  rintro v m2 ⟨X2, x2, rfl, ho2⟩
  refine ⟨getL [{ A := X2, n := (bencR ts).1.length, c := x2 }, { i := (bencR ts).2 }], rfl, ?_⟩
  dsimp only [getL]
  refine h_yes rfl ?_
  refine h_toString (e := 5) (l := (bencR ts).1) (by kernel_rfl) (by kernel_rfl) (by kernel_rfl) rfl (ho1.rd (fun x hx => by first | (simp [hx]; done) | (rw [List.mem_singleton] at hx; subst hx; simp; done))) ho1.some_of ?_
  refine h_toString (e := 5) (l := (bencR ts).1) (by kernel_rfl) (by kernel_rfl) (by kernel_rfl) rfl (ho2.rd (fun x hx => by first | (simp [hx]; done) | (rw [List.mem_singleton] at hx; subst hx; simp; done))) ho2.some_of ?_
  dsimp only
  refine h_yes (by simp) ?_
  refine h_yes (by simp) ?_
  refine h_call0 (v := .int .i64 (sqz a b n : Nat)) (fun _ => { i := (sqz a b n : Nat) }) ca_babelpkt_Squeeze (fun hl => babelpkt_Squeeze_sq ha hb) rfl ?_
  dsimp only
  refine h_call0 (v := .int .i64 (sqz a b n : Nat)) (fun _ => { i := (sqz a b n : Nat) }) ca_octroiref06_Squeeze (fun hl => octroiref06_Squeeze_sq ha hb) rfl ?_
  dsimp only
  exact h_end0 ⟨by simp, rfl⟩
theorem law_BabelpktSqueezes {J : Ctx} {a b : Nat} {n : Int} (ha : a < 4294967296) (hb : b < 4294967296) :
    Fn Try.prog 4 #[.int .u32 (a : Int), .int .u32 (b : Int), .int .i64 n] J [] (fun v h' => v = .bool true ∧ h' = []) := by
  refine r_octroilaw06_BabelpktSqueezes _ _ _ ?_
  refine h_call0 (fun _ => { b := true }) ca_octroilaw06_awake (fun hl => bawake_spec) rfl ?_
  refine h_ite (fun t0 => ?_) (fun t0 => ?_)
  · refine h_yes rfl ?_
    refine h_call0 (v := .int .i64 (sqz a b n : Nat)) (fun _ => { i := (sqz a b n : Nat) }) ca_babelpkt_Squeeze (fun hl => babelpkt_Squeeze_sq ha hb) rfl ?_
    dsimp only
    refine h_end0 ⟨?_, rfl⟩
    unfold sqz; rw [if_neg (by simp at t0; omega)]; rfl
  refine h_ite (fun t1 => ?_) (fun t1 => ?_)
  · refine h_yes rfl ?_
    refine h_call0 (v := .int .i64 (sqz a b n : Nat)) (fun _ => { i := (sqz a b n : Nat) }) ca_babelpkt_Squeeze (fun hl => babelpkt_Squeeze_sq ha hb) rfl ?_
    dsimp only
    refine h_end0 ⟨?_, rfl⟩
    unfold sqz; rw [if_neg (by simp at t1; omega)]; rfl
  have hn : 0 ≤ n ∧ n ≤ 4 := by simp at t0 t1; omega
  refine h_call0 (v := .int .i64 (sqz a b n : Nat)) (fun _ => { i := (sqz a b n : Nat) }) ca_babelpkt_Squeeze (fun hl => babelpkt_Squeeze_sq ha hb) rfl ?_
  dsimp only
  refine h_yes rfl ?_
  refine h_call0 (v := .int .i64 (sqz b a n : Nat)) (fun _ => { i := (sqz b a n : Nat) }) ca_babelpkt_Squeeze (fun hl => babelpkt_Squeeze_sq hb ha) rfl ?_
  dsimp only
  refine h_yes (by rw [sqz_comm]; simp) ?_
  have hle := sqz_le a b hn.1
  refine h_yes (by simpa using hle) ?_
  refine h_yes (by simp) ?_
  refine h_call0 (v := .int .i64 (sqz a a n : Nat)) (fun _ => { i := (sqz a a n : Nat) }) ca_babelpkt_Squeeze (fun hl => babelpkt_Squeeze_sq ha ha) rfl ?_
  dsimp only
  refine h_yes (by rw [sqz_self a hn]; simp) ?_
  refine h_ite (fun t => h_end0 ⟨rfl, rfl⟩) (fun t => ?_)
  refine h_end0 ⟨?_, rfl⟩
  rw [sqz_four ha hb (by simpa using t)]
  simp
theorem benc_ok {ts : List Tlv} (h : (bencR ts).2 = 0) : bencR ts = ([42, 2] ++ (be 2 (low16 ((encW w0 ts).length : Nat)) ++ encW w0 ts), 0) ∧ ts.length ≤ 40 ∧ ts.all mayT = true := by
  unfold bencR at h ⊢
  split at h
  · cases h
  rename_i h1
  split at h
  · cases h
  rename_i h2
  rw [if_neg h1, if_neg h2]
  exact ⟨rfl, by omega, by simpa using h2⟩
theorem benc_len {ts : List Tlv} (h : (bencR ts).2 = 0) : (bencR ts).1.length = 4 + (encW w0 ts).length := by
  rw [(benc_ok h).1]
  simp only [List.length_append, be_length, List.length_cons, List.length_nil]
  omega
theorem short_len {t x : Tlv} (ht : mayT t = true) (hk : t.kind = 2) (hx : x = { t with cost := x.cost }) : (encW w0 [t, x]).length = (encW w0 [t]).length + 12 + (if t.tag = 0 then 0 else 4) := by
  obtain ⟨hn, _⟩ := may_facts ht
  have hnd := nd_le hn
  have hal := addrB_len (a := t.a) hn
  have hs : ((sqz t.a t.a (nd t.n : Nat) : Nat) : Int) = (nd t.n : Nat) := sqz_self t.a (by omega)
  have hs2 : sqz t.a t.a (nd t.n : Nat) = nd t.n := by omega
  have hp : partB w0 t = updW w0 t := by unfold partB; rw [if_neg (by omega), if_neg (by omega), if_pos hk]
  have hst : partS w0 t = updS t := by unfold partS; rw [if_pos hk]
  have hxk : x.kind = 2 := by rw [hx]; exact hk
  have hxa : x.a = t.a := by rw [hx]
  have hxn : x.n = t.n := by rw [hx]
  have hxr : x.router = t.router := by rw [hx]
  have hxt : x.tag = t.tag := by rw [hx]
  have hp2 : partB (updS t) x = updW (updS t) x := by unfold partB; rw [if_neg (by omega), if_neg (by omega), if_pos hxk]
  have hlx : (updW (updS t) x).length = 12 + (if t.tag = 0 then 0 else 4) := by
    have hr : rtB (updS t) x = [] := by unfold rtB updS; rw [if_neg (by rw [hxr]; simp)]
    unfold updW
    rw [hr, List.nil_append, tlvB_len]
    unfold updBody
    rw [hxa, hxn, show (updS t).last = t.a from rfl, hs2]
    have ht2 : (tagB x).length = if t.tag = 0 then 0 else 4 := by
      unfold tagB
      rw [hxt]
      split
      · rfl
      · rw [tlvB_len, be_length]
    simp only [List.length_append, be_length, List.length_drop, hal, ht2, List.length_cons, List.length_nil]
    omega
  show (partB w0 t ++ (partB (partS w0 t) x ++ [])).length = (partB w0 t ++ []).length + 12 + _
  rw [hst, hp2, List.append_nil, List.append_nil, List.length_append, hlx]
  omega
theorem law_BabelpktShort {J : Ctx} {t : Tlv} {co : Int} (ho : t.ok) :
    Fn Try.prog 5 #[t.vv, .int .i64 co] J [] (fun v h' => v = .bool true ∧ h' = []) := by
  have hpo : (⟨2, t.seq, t.iv, t.cost, t.a, t.n, t.router, t.tag, t.hops⟩ : Tlv).ok := ⟨ho.seq, ho.a, ho.n, ho.router, ho.tag⟩
  have hxo : (⟨2, t.seq, t.iv, co, t.a, t.n, t.router, t.tag, t.hops⟩ : Tlv).ok := ⟨ho.seq, ho.a, ho.n, ho.router, ho.tag⟩
  refine r_octroilaw06_BabelpktShort _ _ _ _ _ _ _ _ _ _ ?_
  (repeat ((first | refine h_box fun _ _ _ => ?_ | ((with_reducible show holds _ _ _ _ (.sem (Instr.alloc 37 _ _) _ _) _); refine h_alloc zb_BabelTlv_37 fun _ _ _ => ?_) | ((with_reducible show holds _ _ _ _ (.rd (Instr.loadAt _ (.pointer _)) _ _) _); first | refine ldI (by repeat (first | exact mq0 | apply mq1 | apply mq2)) (by rfl) (by kernel_rfl) ?_ | refine la0 (by repeat (first | exact mq0 | apply mq1 | apply mq2)) (by rfl) (by kernel_rfl) ?_) | ((with_reducible show holds _ _ _ _ (.unit (Instr.storeAt _ _ _) _) _); refine stU (by repeat (first | exact Upd.here | apply Upd.there | apply Upd.right)) (by kernel_rfl) (by rfl) (by simp [Value.cells]) ?_)); try dsimp only [getL]))
  refine h_call0 (fun _ => { b := true }) ca_octroilaw06_awake (fun hl => bawake_spec) rfl ?_
  (repeat ((first | refine h_box fun _ _ _ => ?_ | ((with_reducible show holds _ _ _ _ (.sem (Instr.alloc 37 _ _) _ _) _); refine h_alloc zb_BabelTlv_37 fun _ _ _ => ?_) | ((with_reducible show holds _ _ _ _ (.rd (Instr.loadAt _ (.pointer _)) _ _) _); first | refine ldI (by repeat (first | exact mq0 | apply mq1 | apply mq2)) (by rfl) (by kernel_rfl) ?_ | refine la0 (by repeat (first | exact mq0 | apply mq1 | apply mq2)) (by rfl) (by kernel_rfl) ?_) | ((with_reducible show holds _ _ _ _ (.unit (Instr.storeAt _ _ _) _) _); refine stU (by repeat (first | exact Upd.here | apply Upd.there | apply Upd.right)) (by kernel_rfl) (by rfl) (by simp [Value.cells]) ?_)); try dsimp only [getL]))
  refine h_row (e := 37) #[.int .i64 2, .int .u16 (t.seq : Nat), .int .i64 t.iv, .int .i64 t.cost, .int .u32 (t.a : Nat), .int .i64 t.n, .int .u64 (t.router : Nat), .int .u16 (t.tag : Nat), .int .i64 t.hops] (by kernel_rfl) fun g1 hg1 hI1 => ?_
  dsimp only
  refine h_call [] _ ca_babelpkt_Encode (List.Perm.refl _) (fun hl => bencode_spec (ts := [(⟨2, t.seq, t.iv, t.cost, t.a, t.n, t.router, t.tag, t.hops⟩ : Tlv)]) ⟨(⟨2, t.seq, t.iv, t.cost, t.a, t.n, t.router, t.tag, t.hops⟩ : Tlv).cs, RdC.all hl (fun _ => ⟨_, rfl, cellsM' (by repeat (first | exact mq0 | apply mq1 | apply mq2)) rfl⟩), (⟨2, t.seq, t.iv, t.cost, t.a, t.n, t.router, t.tag, t.hops⟩ : Tlv).cs, [], rfl, ⟨rfl, hpo⟩, rfl⟩ (by simp)) ?_
  rintro v m1 ⟨X1, x1, rfl, ho1⟩
  refine ⟨getL [{ A := X1, n := (bencR [(⟨2, t.seq, t.iv, t.cost, t.a, t.n, t.router, t.tag, t.hops⟩ : Tlv)]).1.length, c := x1 }, { i := (bencR [(⟨2, t.seq, t.iv, t.cost, t.a, t.n, t.router, t.tag, t.hops⟩ : Tlv)]).2 }], rfl, ?_⟩
  dsimp only [getL]
  (repeat ((first | refine h_box fun _ _ _ => ?_ | ((with_reducible show holds _ _ _ _ (.sem (Instr.alloc 37 _ _) _ _) _); refine h_alloc zb_BabelTlv_37 fun _ _ _ => ?_) | ((with_reducible show holds _ _ _ _ (.rd (Instr.loadAt _ (.pointer _)) _ _) _); first | refine ldI (by repeat (first | exact mq0 | apply mq1 | apply mq2)) (by rfl) (by kernel_rfl) ?_ | refine la0 (by repeat (first | exact mq0 | apply mq1 | apply mq2)) (by rfl) (by kernel_rfl) ?_) | ((with_reducible show holds _ _ _ _ (.unit (Instr.storeAt _ _ _) _) _); refine stU (by repeat (first | exact Upd.here | apply Upd.there | apply Upd.right)) (by kernel_rfl) (by rfl) (by simp [Value.cells]) ?_)); try dsimp only [getL]))
  refine h_row (e := 37) #[.int .i64 2, .int .u16 (t.seq : Nat), .int .i64 t.iv, .int .i64 t.cost, .int .u32 (t.a : Nat), .int .i64 t.n, .int .u64 (t.router : Nat), .int .u16 (t.tag : Nat), .int .i64 t.hops, .int .i64 2, .int .u16 (t.seq : Nat), .int .i64 t.iv, .int .i64 co, .int .u32 (t.a : Nat), .int .i64 t.n, .int .u64 (t.router : Nat), .int .u16 (t.tag : Nat), .int .i64 t.hops] (by kernel_rfl) fun g2 hg2 hI2 => ?_
  dsimp only
  refine h_call [] _ ca_babelpkt_Encode (List.Perm.refl _) (fun hl => bencode_spec (ts := [(⟨2, t.seq, t.iv, t.cost, t.a, t.n, t.router, t.tag, t.hops⟩ : Tlv), (⟨2, t.seq, t.iv, co, t.a, t.n, t.router, t.tag, t.hops⟩ : Tlv)]) ⟨(⟨2, t.seq, t.iv, t.cost, t.a, t.n, t.router, t.tag, t.hops⟩ : Tlv).cs ++ (⟨2, t.seq, t.iv, co, t.a, t.n, t.router, t.tag, t.hops⟩ : Tlv).cs, RdC.all hl (fun _ => ⟨_, rfl, cellsM' (by repeat (first | exact mq0 | apply mq1 | apply mq2)) rfl⟩), (⟨2, t.seq, t.iv, t.cost, t.a, t.n, t.router, t.tag, t.hops⟩ : Tlv).cs, (⟨2, t.seq, t.iv, co, t.a, t.n, t.router, t.tag, t.hops⟩ : Tlv).cs, rfl, ⟨rfl, hpo⟩, (⟨2, t.seq, t.iv, co, t.a, t.n, t.router, t.tag, t.hops⟩ : Tlv).cs, [], rfl, ⟨rfl, hxo⟩, rfl⟩ (by simp)) ?_
  rintro v m2 ⟨X2, x2, rfl, ho2⟩
  refine ⟨getL [{ A := X2, n := (bencR [(⟨2, t.seq, t.iv, t.cost, t.a, t.n, t.router, t.tag, t.hops⟩ : Tlv), (⟨2, t.seq, t.iv, co, t.a, t.n, t.router, t.tag, t.hops⟩ : Tlv)]).1.length, c := x2 }, { i := (bencR [(⟨2, t.seq, t.iv, t.cost, t.a, t.n, t.router, t.tag, t.hops⟩ : Tlv), (⟨2, t.seq, t.iv, co, t.a, t.n, t.router, t.tag, t.hops⟩ : Tlv)]).2 }], rfl, ?_⟩
  dsimp only [getL]
  refine h_no rfl ?_
  refine h_ite (fun h0 => h_end0 ⟨rfl, rfl⟩) (fun z1 => ?_)
  refine h_ite (fun h0 => h_end0 ⟨rfl, rfl⟩) (fun z2 => ?_)
  have z1 : (bencR [(⟨2, t.seq, t.iv, t.cost, t.a, t.n, t.router, t.tag, t.hops⟩ : Tlv)]).2 = 0 := by simpa using z1
  have z2 : (bencR [(⟨2, t.seq, t.iv, t.cost, t.a, t.n, t.router, t.tag, t.hops⟩ : Tlv), (⟨2, t.seq, t.iv, co, t.a, t.n, t.router, t.tag, t.hops⟩ : Tlv)]).2 = 0 := by simpa using z2
  have hm : mayT (⟨2, t.seq, t.iv, t.cost, t.a, t.n, t.router, t.tag, t.hops⟩ : Tlv) = true := by have := (benc_ok z1).2.2; simpa using this
  have hs : (encW w0 [(⟨2, t.seq, t.iv, t.cost, t.a, t.n, t.router, t.tag, t.hops⟩ : Tlv), (⟨2, t.seq, t.iv, co, t.a, t.n, t.router, t.tag, t.hops⟩ : Tlv)]).length = (encW w0 [(⟨2, t.seq, t.iv, t.cost, t.a, t.n, t.router, t.tag, t.hops⟩ : Tlv)]).length + 12 + (if t.tag = 0 then 0 else 4) := short_len hm rfl (x := (⟨2, t.seq, t.iv, co, t.a, t.n, t.router, t.tag, t.hops⟩ : Tlv)) rfl
  have l1 := benc_len z1
  have l2 := benc_len z2
  have lb := encW_len [(⟨2, t.seq, t.iv, t.cost, t.a, t.n, t.router, t.tag, t.hops⟩ : Tlv)] w0 (by simpa using hm)
  have lb2 : (encW w0 [(⟨2, t.seq, t.iv, t.cost, t.a, t.n, t.router, t.tag, t.hops⟩ : Tlv)]).length ≤ 32 := by simpa using lb
  (repeat ((first | refine h_box fun _ _ _ => ?_ | ((with_reducible show holds _ _ _ _ (.sem (Instr.alloc 37 _ _) _ _) _); refine h_alloc zb_BabelTlv_37 fun _ _ _ => ?_) | ((with_reducible show holds _ _ _ _ (.rd (Instr.loadAt _ (.pointer _)) _ _) _); first | refine ldI (by repeat (first | exact mq0 | apply mq1 | apply mq2)) (by rfl) (by kernel_rfl) ?_ | refine la0 (by repeat (first | exact mq0 | apply mq1 | apply mq2)) (by rfl) (by kernel_rfl) ?_) | ((with_reducible show holds _ _ _ _ (.unit (Instr.storeAt _ _ _) _) _); refine stU (by repeat (first | exact Upd.here | apply Upd.there | apply Upd.right)) (by kernel_rfl) (by rfl) (by simp [Value.cells]) ?_)); try dsimp only [getL]))
  refine h_ite (fun t1 => ?_) (fun t1 => ?_)
  · have hz : t.tag ≠ 0 := by intro e; rw [e] at t1; simp at t1
    rw [if_neg hz] at hs
    refine h_end0 ⟨?_, rfl⟩
    rw [wrap64 (x := (((bencR [(⟨2, t.seq, t.iv, t.cost, t.a, t.n, t.router, t.tag, t.hops⟩ : Tlv)]).1.length : Nat) : Int) + 12) (by omega), wrap64 (by omega), l1, l2]
    refine congrArg Value.bool ?_
    rw [beq_iff_eq]
    omega
  · have hz : t.tag = 0 := by simp at t1; omega
    rw [if_pos hz] at hs
    refine h_end0 ⟨?_, rfl⟩
    rw [wrap64 (x := (((bencR [(⟨2, t.seq, t.iv, t.cost, t.a, t.n, t.router, t.tag, t.hops⟩ : Tlv)]).1.length : Nat) : Int) + 12) (by omega), wrap64 (by omega), l1, l2]
    refine congrArg Value.bool ?_
    rw [beq_iff_eq]
    omega
end Go.Proofs.YtcfnliodgoenkaaS
