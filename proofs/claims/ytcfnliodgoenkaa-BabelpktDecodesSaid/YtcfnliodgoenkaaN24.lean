import Derived.Test.YtcfnliodgoenkaaN23
set_option linter.unusedVariables false
namespace Go.Proofs.YtcfnliodgoenkaaS
theorem benc_bound (ts : List Tlv) : (bencR ts).1.length ≤ 2000 := by
  by_cases h : (bencR ts).2 = 0
  · exact (benc_num h).2.1
  · unfold bencR at h ⊢
    split
    · simp
    split
    · simp
    rename_i h1 h2
    rw [if_neg h1, if_neg h2] at h
    exact absurd rfl h
theorem benc_err {ts : List Tlv} (h : (bencR ts).2 ≠ 0) : (bencR ts).1 = [] := by
  unfold bencR at h ⊢
  split
  · rfl
  split
  · rfl
  rename_i h1 h2
  rw [if_neg h1, if_neg h2] at h
  exact absurd rfl h
theorem law_BabelpktBack {J : Ctx} {A : Option Addr} {c : Nat} {ts : List Tlv} (hin : TlvsIn J A ts) :
    Fn Try.prog 7 #[.slice A ts.length c] J [] (fun v h' => v = .bool true ∧ h' = []) := by
  refine r_octroilaw06_BabelpktBack _ _ _ ?_
  refine h_call0 (fun _ => { b := true }) ca_octroilaw06_awake (fun hl => bawake_spec) rfl ?_
  refine h_ite (fun h0 => h_end0 ⟨rfl, rfl⟩) (fun b1 => ?_)
  have b1 : ts.length ≤ 60 := by simp at b1; omega
  refine h_call [] _ ca_babelpkt_Encode (List.Perm.refl _) (fun hl => bencode_spec (hin.up (Sub.self.up hl)) (by omega)) ?_
  rintro v m1 ⟨X1, x1, rfl, ho1⟩
  have hbd1 := benc_bound (ts)
  refine ⟨getL [{ A := X1, n := (bencR (ts)).1.length, c := x1 }, { i := (bencR (ts)).2 }], rfl, ?_⟩
  dsimp only [getL]
  refine h_call [] _ ca_babelpkt_Decode (List.Perm.refl _) (fun hl => bdecode_spec (ho1.rdb hl (fun x hx => by first | (simp [hx]; done) | (rw [List.mem_singleton] at hx; subst hx; simp; done))) ho1.2.1 (by unfold maxLen; omega)) ?_
  rintro v m2 ⟨X2, x2, rfl, ho2⟩
  refine ⟨getL [{ A := X2, n := (decR ((bencR ts).1)).1.length, c := x2 }, { i := (decR ((bencR ts).1)).2 }], rfl, ?_⟩
  dsimp only [getL]
  have hdl : (decR (bencR ts).1).1.length ≤ 100 := by
    by_cases h : (decR (bencR ts).1).2 = 0
    · have := (decR_ok h).1; omega
    · rw [decR_err h]; simp
  refine h_call [] _ ca_octroiref06_Same (List.Perm.refl _) (fun hl => tsame_spec (ho2.tlvs hl (fun x hx => by first | (simp [hx]; done) | (rw [List.mem_singleton] at hx; subst hx; simp; done))) (hin.up (Sub.self.up hl)) (by omega)) ?_
  rintro v m9 ⟨⟨b9, rfl, hb9⟩, rfl⟩
  refine ⟨fun _ => { b := b9 }, rfl, ?_⟩
  dsimp only
  rw [List.nil_append]
  refine h_ite (fun t => ?_) (fun t => ?_)
  · have he : (bencR ts).2 ≠ 0 := by simpa using t
    have hn := benc_err he
    refine h_yes rfl ?_
    refine h_yes (by rw [hn]; rfl) ?_
    exact h_end0 ⟨by rw [hn, decR_short (b := []) (by simp)]; rfl, rfl⟩
  · have he : (bencR ts).2 = 0 := by simpa using t
    have hd := decR_enc he hin.oks
    refine h_yes rfl ?_
    refine h_yes (by rw [hd]; rfl) ?_
    have : b9 = true := hb9.2 (by rw [hd])
    exact h_end0 ⟨by rw [this], rfl⟩
theorem law_BabelpktAgain {J : Ctx} {A : Option Addr} {c : Nat} {b : List UInt8} (hr : RdB J A b.length b) (hn : b.length ≤ c) :
    Fn Try.prog 9 #[.slice A b.length c] J [] (fun v h' => v = .bool true ∧ h' = []) := by
  refine r_octroilaw06_BabelpktAgain _ _ _ ?_
  refine h_call0 (fun _ => { b := true }) ca_octroilaw06_awake (fun hl => bawake_spec) rfl ?_
  refine h_ite (fun h0 => h_end0 ⟨rfl, rfl⟩) (fun b1 => ?_)
  have b1 : b.length ≤ 3000 := by simp at b1; omega
  refine h_call [] _ ca_babelpkt_Decode (List.Perm.refl _) (fun hl => bdecode_spec (hr.up (Sub.self.up hl)) hn (by unfold maxLen; omega)) ?_
  rintro v m2 ⟨X2, x2, rfl, ho2⟩
  refine ⟨getL [{ A := X2, n := (decR (b)).1.length, c := x2 }, { i := (decR (b)).2 }], rfl, ?_⟩
  dsimp only [getL]
  refine h_ite (fun t => ?_) (fun t => ?_)
  · have he : (decR b).2 ≠ 0 := by simpa using t
    refine h_yes rfl ?_
    exact h_end0 ⟨by rw [decR_err he]; rfl, rfl⟩
  have he : (decR b).2 = 0 := by simpa using t
  obtain ⟨h40, hall⟩ := decR_ok he
  have hg := benc_good h40 hall
  refine h_call [] _ ca_babelpkt_Encode (List.Perm.refl _) (fun hl => bencode_spec (ho2.tlvs hl (fun x hx => by first | (simp [hx]; done) | (rw [List.mem_singleton] at hx; subst hx; simp; done))) (by omega)) ?_
  rintro v m3 ⟨X3, x3, rfl, ho3⟩
  have hbd3 := benc_bound ((decR b).1)
  refine ⟨getL [{ A := X3, n := (bencR ((decR b).1)).1.length, c := x3 }, { i := (bencR ((decR b).1)).2 }], rfl, ?_⟩
  dsimp only [getL]
  refine h_call [] _ ca_babelpkt_Decode (List.Perm.refl _) (fun hl => bdecode_spec (ho3.rdb hl (fun x hx => by first | (simp [hx]; done) | (rw [List.mem_singleton] at hx; subst hx; simp; done))) ho3.2.1 (by unfold maxLen; omega)) ?_
  rintro v m4 ⟨X4, x4, rfl, ho4⟩
  refine ⟨getL [{ A := X4, n := (decR ((bencR (decR b).1).1)).1.length, c := x4 }, { i := (decR ((bencR (decR b).1).1)).2 }], rfl, ?_⟩
  dsimp only [getL]
  refine h_call [] _ ca_octroiref06_Same (List.Perm.refl _) (fun hl => tsame_spec (ho2.tlvs hl (fun x hx => by first | (simp [hx]; done) | (rw [List.mem_singleton] at hx; subst hx; simp; done))) (ho4.tlvs hl (fun x hx => by first | (simp [hx]; done) | (rw [List.mem_singleton] at hx; subst hx; simp; done))) (by omega)) ?_
  rintro v m9 ⟨⟨b9, rfl, hb9⟩, rfl⟩
  refine ⟨fun _ => { b := b9 }, rfl, ?_⟩
  dsimp only
  rw [List.nil_append]
  have hd := decR_enc hg ho2.2
  refine h_yes rfl ?_
  refine h_yes (by rw [hg]; rfl) ?_
  refine h_yes (by rw [hd]; rfl) ?_
  have : b9 = true := hb9.2 (by rw [hd])
  exact h_end0 ⟨by rw [this], rfl⟩
theorem law_BabelpktCuts {J : Ctx} {A B : Option Addr} {c d : Nat} {ts : List Tlv} {cut : Int} {more : List UInt8} (hin : TlvsIn J A ts) (hr : RdB J B more.length more) (hd : more.length ≤ d) :
    Fn Try.prog 8 #[.slice A ts.length c, .int .i64 cut, .slice B more.length d] J [] (fun v h' => v = .bool true ∧ h' = []) := by
  refine r_octroilaw06_BabelpktCuts _ _ _ _ _ _ _ ?_
  refine h_call0 (fun _ => { b := true }) ca_octroilaw06_awake (fun hl => bawake_spec) rfl ?_
  refine h_no rfl ?_
  refine h_ite (fun h0 => h_end0 ⟨rfl, rfl⟩) (fun b1 => ?_)
  have b1 : ts.length ≤ 40 := by simp at b1; omega
  refine h_ite (fun h0 => h_end0 ⟨rfl, rfl⟩) (fun b2 => ?_)
  have b2 : 1 ≤ more.length := by simp at b2; omega
  refine h_ite (fun h0 => h_end0 ⟨rfl, rfl⟩) (fun b3 => ?_)
  have b3 : more.length ≤ 100 := by simp at b3; omega
  refine h_ite (fun h0 => h_end0 ⟨rfl, rfl⟩) (fun b4 => ?_)
  have b4 : 0 ≤ cut := by simp at b4; omega
  refine h_call [] _ ca_babelpkt_Encode (List.Perm.refl _) (fun hl => bencode_spec (hin.up (Sub.self.up hl)) (by omega)) ?_
  rintro v m1 ⟨X1, x1, rfl, ho1⟩
  have hbd1 := benc_bound (ts)
  refine ⟨getL [{ A := X1, n := (bencR (ts)).1.length, c := x1 }, { i := (bencR (ts)).2 }], rfl, ?_⟩
  dsimp only [getL]
  refine h_ite (fun h0 => h_end0 ⟨rfl, rfl⟩) (fun t => ?_)
  have he : (bencR ts).2 = 0 := by simpa using t
  refine h_ite (fun h0 => h_end0 ⟨rfl, rfl⟩) (fun t2 => ?_)
  obtain ⟨m, rfl⟩ : ∃ m : Nat, cut = m := ⟨cut.toNat, by omega⟩
  have hm : m < (bencR ts).1.length := by simp at t2; omega
  obtain ⟨h4, _, hnum⟩ := benc_num he
  refine h_append (cl_.aff _) eb_uint8 (by kernel_rfl) (cs2 := bC (bencR ts).1) (ho1.rd (fun x hx => by first | (simp [hx]; done) | (rw [List.mem_singleton] at hx; subst hx; simp; done))) ho1.some_of (by simp) (bC_plain _) (m := []) (by repeat (first | exact Pick.here | exact Pick.one | exact Pick.all | apply Pick.two | apply Pick.cons | apply Pick.app)) (Own.nil _ _) (by omega) (by omega) ?_
  intro X5 x5 m5 ho5
  rw [Nat.zero_add, List.nil_append] at ho5
  dsimp only
  rw [Nat.zero_add]
  refine h_append (cl_.aff _) eb_uint8 (by kernel_rfl) (cs2 := bC more) (hr.rd.sub Sub.self) hr.nil (by simp) (bC_plain _) (m := m5) (by repeat (first | exact Pick.here | exact Pick.one | exact Pick.all | apply Pick.two | apply Pick.cons | apply Pick.app)) ho5 (by omega) (by omega) ?_
  intro X6 x6 m6 ho6
  rw [← bC_append] at ho6
  have ho6 : OwnB X6 ((bencR ts).1 ++ more).length x6 ((bencR ts).1 ++ more) m6 := by rw [List.length_append]; exact ho6
  dsimp only
  have hl6 : ((bencR ts).1 ++ more).length = (bencR ts).1.length + more.length := List.length_append
  rw [← hl6]
  refine h_call [] _ ca_babelpkt_Decode (List.Perm.refl _) (fun hl => bdecode_spec (ho6.rdb hl (fun x hx => by first | (simp [hx]; done) | (rw [List.mem_singleton] at hx; subst hx; simp; done))) ho6.2.1 (by unfold maxLen; omega)) ?_
  rintro v m7 ⟨X7, x7, rfl, ho7⟩
  refine ⟨getL [{ A := X7, n := (decR ((bencR ts).1 ++ more)).1.length, c := x7 }, { i := (decR ((bencR ts).1 ++ more)).2 }], rfl, ?_⟩
  dsimp only [getL]
  have hc1 : (bencR ts).1.length ≤ x1 := ho1.2.1
  refine h_cut (e := 5) (sz := 1) 0 m x1 (by kernel_rfl) (by kernel_rfl) rfl rfl rfl (by simp) (by omega) (by omega) (by omega) ?_
  dsimp only
  rw [cutA_zero, Nat.sub_zero, Nat.sub_zero]
  refine h_call [] _ ca_babelpkt_Decode (List.Perm.refl _) (fun hl => bdecode_spec ((ho1.rdb hl (fun x hx => by first | (simp [hx]; done) | (rw [List.mem_singleton] at hx; subst hx; simp; done))).take (by omega)) (by omega) (by unfold maxLen; omega)) ?_
  rintro v m8 ⟨X8, x8, rfl, ho8⟩
  refine ⟨getL [{ A := X8, n := (decR ((bencR ts).1.take m)).1.length, c := x8 }, { i := (decR ((bencR ts).1.take m)).2 }], rfl, ?_⟩
  dsimp only [getL]
  rw [decR_more h4 hnum b2, decR_cut hnum hm]
  refine h_yes rfl ?_
  exact h_end0 ⟨rfl, rfl⟩
theorem lowB_ofNat (n : Nat) : lowB ((n : Nat) : Int) = UInt8.ofNat n := by
  unfold lowB
  rw [← UInt8.toNat_inj, toNat_ofNat', toNat_ofNat']
  omega
set_option maxHeartbeats 2000000 in
theorem law_BabelpktStrange {J : Ctx} {A B : Option Addr} {c d : Nat} {ts : List Tlv} {k : UInt8} {dt : List UInt8} (hin : TlvsIn J A ts) (hr : RdB J B dt.length dt) (hd : dt.length ≤ d) :
    Fn Try.prog 10 #[.slice A ts.length c, .int .u8 ((k.toNat : Nat) : Int), .slice B dt.length d] J [] (fun v h' => v = .bool true ∧ h' = []) := by
  refine r_octroilaw06_BabelpktStrange _ _ _ _ _ _ _ ?_
  refine h_call0 (fun _ => { b := true }) ca_octroilaw06_awake (fun hl => bawake_spec) rfl ?_
  refine h_no rfl ?_
  refine h_ite (fun h0 => h_end0 ⟨rfl, rfl⟩) (fun b1 => ?_)
  have b1 : ts.length ≤ 20 := by simp at b1; omega
  refine h_ite (fun h0 => h_end0 ⟨rfl, rfl⟩) (fun b3 => ?_)
  have b3 : dt.length ≤ 100 := by simp at b3; omega
  refine h_ite (fun k1 => ?_) (fun k1 => ?_)
  · refine h_ite (fun k2 => ?_) (fun k2 => ?_)
    · refine h_ite (fun h0 => h_end0 ⟨rfl, rfl⟩) (fun k3 => ?_)
      have hk : k.toNat < 4 ∨ 10 < k.toNat ∨ k.toNat = 7 := by simp at k3; omega
      refine h_call [] _ ca_babelpkt_Encode (List.Perm.refl _) (fun hl => bencode_spec (hin.up (Sub.self.up hl)) (by omega)) ?_
      rintro v m1 ⟨X1, x1, rfl, ho1⟩
      have hbd1 := benc_bound (ts)
      refine ⟨getL [{ A := X1, n := (bencR (ts)).1.length, c := x1 }, { i := (bencR (ts)).2 }], rfl, ?_⟩
      dsimp only [getL]
      refine h_ite (fun h0 => h_end0 ⟨rfl, rfl⟩) (fun t => ?_)
      have he : (bencR ts).2 = 0 := by simpa using t
      obtain ⟨hform, h40, hall⟩ := benc_ok he
      refine h_row (e := 5) #[.int .u8 ((k.toNat : Nat) : Int)] (by kernel_rfl) fun g2 hg2 hI2 => ?_
      dsimp only
      refine h_append (cl_.aff _) eb_uint8 (by kernel_rfl) (cs2 := bC [k]) (fun _ => ⟨_, rfl, cellsM' (by repeat (first | exact mq0 | apply mq1 | apply mq2)) rfl⟩) (by simp) rfl (bC_plain _) (m := m1) (by repeat (first | exact Pick.here | exact Pick.one | exact Pick.all | apply Pick.two | apply Pick.cons | apply Pick.app)) ho1 (by omega) (by omega) ?_
      intro X2 x2 m2 ho2
      rw [← bC_append] at ho2
      dsimp only
      rw [wrap8b]
      refine h_row (e := 5) #[.int .u8 (((lowB ((dt.length : Nat) : Int)).toNat : Nat) : Int)] (by kernel_rfl) fun g3 hg3 hI3 => ?_
      dsimp only
      refine h_append (cl_.aff _) eb_uint8 (by kernel_rfl) (cs2 := bC [lowB ((dt.length : Nat) : Int)]) (fun _ => ⟨_, rfl, cellsM' (by repeat (first | exact mq0 | apply mq1 | apply mq2)) rfl⟩) (by simp) rfl (bC_plain _) (m := m2) (by repeat (first | exact Pick.here | exact Pick.one | exact Pick.all | apply Pick.two | apply Pick.cons | apply Pick.app)) ho2 (by omega) (by omega) ?_
      intro X3 x3 m3 ho3
      rw [← bC_append] at ho3
      dsimp only
      refine h_append (cl_.aff _) eb_uint8 (by kernel_rfl) (cs2 := bC dt) (hr.rd.sub Sub.self) hr.nil (by simp) (bC_plain _) (m := m3) (by repeat (first | exact Pick.here | exact Pick.one | exact Pick.all | apply Pick.two | apply Pick.cons | apply Pick.app)) ho3 (by omega) (by omega) ?_
      intro X4 x4 m4 ho4
      rw [← bC_append] at ho4
      dsimp only
      have hL : (bencR ts).1 ++ [k] ++ [lowB ((dt.length : Nat) : Int)] ++ dt = 42 :: 2 :: UInt8.ofNat (low16 ((encW w0 ts).length : Nat) / 256 ^ 1) :: UInt8.ofNat (low16 ((encW w0 ts).length : Nat) / 256 ^ 0) :: (encW w0 ts ++ tlvB k dt) := by
        rw [hform]; simp [tlvB, be]
      have hbl := benc_len he
      have hwl := encW_len ts w0 hall
      have htl := tlvB_len k dt
      have hN : (bencR ts).1.length + 1 + 1 + dt.length = 4 + (encW w0 ts ++ tlvB k dt).length := by rw [List.length_append]; omega
      rw [hL, hN] at ho4
      rw [hN]
      have hsm : (encW w0 ts ++ tlvB k dt).length ≤ 2000 := by rw [List.length_append]; omega
      generalize hW : encW w0 ts ++ tlvB k dt = W at ho4 hsm hN ⊢
      obtain ⟨x, rfl⟩ : ∃ x, X4 = some x := by
        cases X4 with
        | none => have := ho4.some_of rfl; omega
        | some x => exact ⟨x, rfl⟩
      refine h_index (e := 5) x (sz := 1) (by kernel_rfl) (by kernel_rfl) (by omega) (by omega) rfl ?_
      dsimp only
      have hw1 : IntKind.wrap .i64 (((4 + W.length : Nat) : Int) - 4) = ((W.length : Nat) : Int) := by rw [wrap64 (by omega)]; omega
      have hw2 : IntKind.wrap .i64 (Int.tdiv ((W.length : Nat) : Int) 256) = ((W.length / 256 : Nat) : Int) := by rw [Int.tdiv_eq_ediv_of_nonneg (by omega), wrap64 (by omega)]; omega
      have hw3 : Int.tmod ((W.length : Nat) : Int) 256 = ((W.length % 256 : Nat) : Int) := by rw [Int.tmod_eq_emod_of_nonneg (by omega)]; omega
      simp only [hw1, hw2, hw3, wrap8b, lowB_ofNat]
      refine h_storeE 2 (m := m4) (cl_.aff _) (by repeat (first | exact Pick.here | exact Pick.one | exact Pick.all | apply Pick.two | apply Pick.cons | apply Pick.app)) ho4 rfl (by kernel_rfl) (by simp [Value.cells] <;> omega) (by simp [Value.cells]) ?_
      intro m5 ho5
      refine h_index (e := 5) x (sz := 1) (by kernel_rfl) (by kernel_rfl) (by omega) (by omega) rfl ?_
      dsimp only
      refine h_storeE 3 (m := m5) (cl_.aff _) (by repeat (first | exact Pick.here | exact Pick.one | exact Pick.all | apply Pick.two | apply Pick.cons | apply Pick.app)) ho5 rfl (by kernel_rfl) (by simp [Value.cells] <;> omega) (by simp [Value.cells]) ?_
      intro m6 ho6
      have ho6 : OwnB (some x) (4 + W.length) x4 ([42, 2] ++ (be 2 (low16 (W.length : Nat)) ++ W)) m6 := by
        have h1 := wr_set (l := 42 :: 2 :: UInt8.ofNat (low16 ((encW w0 ts).length : Nat) / 256 ^ 1) :: UInt8.ofNat (low16 ((encW w0 ts).length : Nat) / 256 ^ 0) :: W) (i := 2) (b := UInt8.ofNat (W.length / 256)) (by simp)
        have h2 := wr_set (l := 42 :: 2 :: UInt8.ofNat (W.length / 256) :: UInt8.ofNat (low16 ((encW w0 ts).length : Nat) / 256 ^ 0) :: W) (i := 3) (b := UInt8.ofNat (W.length % 256)) (by simp)
        have h3 : [42, 2] ++ (be 2 (low16 (W.length : Nat)) ++ W) = 42 :: 2 :: UInt8.ofNat (W.length / 256) :: UInt8.ofNat (W.length % 256) :: W := by
          rw [low16_small (by omega)]
          have : UInt8.ofNat (W.length % 256) = UInt8.ofNat (W.length / 256 ^ 0) := by rw [← UInt8.toNat_inj, toNat_ofNat', toNat_ofNat']; omega
          rw [this]; rfl
        show Own 5 1 (some x) (4 + W.length) x4 (bC ([42, 2] ++ (be 2 (low16 (W.length : Nat)) ++ W))) m6
        rw [h3]
        have h2' : wrL (bC (42 :: 2 :: UInt8.ofNat (W.length / 256) :: UInt8.ofNat (low16 ((encW w0 ts).length : Nat) / 256 ^ 0) :: W)) 3 [.int .u8 ((UInt8.ofNat (W.length % 256)).toNat : Int)] = bC (42 :: 2 :: UInt8.ofNat (W.length / 256) :: UInt8.ofNat (W.length % 256) :: W) := h2
        have h1' : wrL (bC (42 :: 2 :: UInt8.ofNat (low16 ((encW w0 ts).length : Nat) / 256 ^ 1) :: UInt8.ofNat (low16 ((encW w0 ts).length : Nat) / 256 ^ 0) :: W)) 2 [.int .u8 ((UInt8.ofNat (W.length / 256)).toNat : Int)] = bC (42 :: 2 :: UInt8.ofNat (W.length / 256) :: UInt8.ofNat (low16 ((encW w0 ts).length : Nat) / 256 ^ 0) :: W) := h1
        rw [← h2', ← h1']
        exact ho6
      have hd := decR_strange (k := k) (d := dt) hall h40 hin.oks hk b3
      rw [hW] at hd
      have hlw : ([42, 2] ++ (be 2 (low16 (W.length : Nat)) ++ W) : List UInt8).length = 4 + W.length := by simp [be_length]; try omega
      rw [← hlw] at ho6 ⊢
      refine h_call [] _ ca_babelpkt_Decode (List.Perm.refl _) (fun hl => bdecode_spec (ho6.rdb hl (fun x hx => by first | (simp [hx]; done) | (rw [List.mem_singleton] at hx; subst hx; simp; done))) ho6.2.1 (by unfold maxLen; omega)) ?_
      rintro v m7 ⟨X7, x7, rfl, ho7⟩
      refine ⟨getL [{ A := X7, n := (decR ([42, 2] ++ (be 2 (low16 (W.length : Nat)) ++ W))).1.length, c := x7 }, { i := (decR ([42, 2] ++ (be 2 (low16 (W.length : Nat)) ++ W))).2 }], rfl, ?_⟩
      dsimp only [getL]
      refine h_call [] _ ca_octroiref06_Same (List.Perm.refl _) (fun hl => tsame_spec (hin.up (Sub.self.up hl)) (ho7.tlvs hl (fun x hx => by first | (simp [hx]; done) | (rw [List.mem_singleton] at hx; subst hx; simp; done))) (by omega)) ?_
      rintro v m9 ⟨⟨b9, rfl, hb9⟩, rfl⟩
      refine ⟨fun _ => { b := b9 }, rfl, ?_⟩
      dsimp only
      rw [List.nil_append]
      refine h_yes (by rw [hd]; rfl) ?_
      have : b9 = true := hb9.2 (by rw [hd])
      exact h_end0 ⟨by rw [this], rfl⟩
    · have hk : k.toNat < 4 ∨ 10 < k.toNat ∨ k.toNat = 7 := by simp at k2; omega
      refine h_call [] _ ca_babelpkt_Encode (List.Perm.refl _) (fun hl => bencode_spec (hin.up (Sub.self.up hl)) (by omega)) ?_
      rintro v m1 ⟨X1, x1, rfl, ho1⟩
      have hbd1 := benc_bound (ts)
      refine ⟨getL [{ A := X1, n := (bencR (ts)).1.length, c := x1 }, { i := (bencR (ts)).2 }], rfl, ?_⟩
      dsimp only [getL]
      refine h_ite (fun h0 => h_end0 ⟨rfl, rfl⟩) (fun t => ?_)
      have he : (bencR ts).2 = 0 := by simpa using t
      obtain ⟨hform, h40, hall⟩ := benc_ok he
      refine h_row (e := 5) #[.int .u8 ((k.toNat : Nat) : Int)] (by kernel_rfl) fun g2 hg2 hI2 => ?_
      dsimp only
      refine h_append (cl_.aff _) eb_uint8 (by kernel_rfl) (cs2 := bC [k]) (fun _ => ⟨_, rfl, cellsM' (by repeat (first | exact mq0 | apply mq1 | apply mq2)) rfl⟩) (by simp) rfl (bC_plain _) (m := m1) (by repeat (first | exact Pick.here | exact Pick.one | exact Pick.all | apply Pick.two | apply Pick.cons | apply Pick.app)) ho1 (by omega) (by omega) ?_
      intro X2 x2 m2 ho2
      rw [← bC_append] at ho2
      dsimp only
      rw [wrap8b]
      refine h_row (e := 5) #[.int .u8 (((lowB ((dt.length : Nat) : Int)).toNat : Nat) : Int)] (by kernel_rfl) fun g3 hg3 hI3 => ?_
      dsimp only
      refine h_append (cl_.aff _) eb_uint8 (by kernel_rfl) (cs2 := bC [lowB ((dt.length : Nat) : Int)]) (fun _ => ⟨_, rfl, cellsM' (by repeat (first | exact mq0 | apply mq1 | apply mq2)) rfl⟩) (by simp) rfl (bC_plain _) (m := m2) (by repeat (first | exact Pick.here | exact Pick.one | exact Pick.all | apply Pick.two | apply Pick.cons | apply Pick.app)) ho2 (by omega) (by omega) ?_
      intro X3 x3 m3 ho3
      rw [← bC_append] at ho3
      dsimp only
      refine h_append (cl_.aff _) eb_uint8 (by kernel_rfl) (cs2 := bC dt) (hr.rd.sub Sub.self) hr.nil (by simp) (bC_plain _) (m := m3) (by repeat (first | exact Pick.here | exact Pick.one | exact Pick.all | apply Pick.two | apply Pick.cons | apply Pick.app)) ho3 (by omega) (by omega) ?_
      intro X4 x4 m4 ho4
      rw [← bC_append] at ho4
      dsimp only
      have hL : (bencR ts).1 ++ [k] ++ [lowB ((dt.length : Nat) : Int)] ++ dt = 42 :: 2 :: UInt8.ofNat (low16 ((encW w0 ts).length : Nat) / 256 ^ 1) :: UInt8.ofNat (low16 ((encW w0 ts).length : Nat) / 256 ^ 0) :: (encW w0 ts ++ tlvB k dt) := by
        rw [hform]; simp [tlvB, be]
      have hbl := benc_len he
      have hwl := encW_len ts w0 hall
      have htl := tlvB_len k dt
      have hN : (bencR ts).1.length + 1 + 1 + dt.length = 4 + (encW w0 ts ++ tlvB k dt).length := by rw [List.length_append]; omega
      rw [hL, hN] at ho4
      rw [hN]
      have hsm : (encW w0 ts ++ tlvB k dt).length ≤ 2000 := by rw [List.length_append]; omega
      generalize hW : encW w0 ts ++ tlvB k dt = W at ho4 hsm hN ⊢
      obtain ⟨x, rfl⟩ : ∃ x, X4 = some x := by
        cases X4 with
        | none => have := ho4.some_of rfl; omega
        | some x => exact ⟨x, rfl⟩
      refine h_index (e := 5) x (sz := 1) (by kernel_rfl) (by kernel_rfl) (by omega) (by omega) rfl ?_
      dsimp only
      have hw1 : IntKind.wrap .i64 (((4 + W.length : Nat) : Int) - 4) = ((W.length : Nat) : Int) := by rw [wrap64 (by omega)]; omega
      have hw2 : IntKind.wrap .i64 (Int.tdiv ((W.length : Nat) : Int) 256) = ((W.length / 256 : Nat) : Int) := by rw [Int.tdiv_eq_ediv_of_nonneg (by omega), wrap64 (by omega)]; omega
      have hw3 : Int.tmod ((W.length : Nat) : Int) 256 = ((W.length % 256 : Nat) : Int) := by rw [Int.tmod_eq_emod_of_nonneg (by omega)]; omega
      simp only [hw1, hw2, hw3, wrap8b, lowB_ofNat]
      refine h_storeE 2 (m := m4) (cl_.aff _) (by repeat (first | exact Pick.here | exact Pick.one | exact Pick.all | apply Pick.two | apply Pick.cons | apply Pick.app)) ho4 rfl (by kernel_rfl) (by simp [Value.cells] <;> omega) (by simp [Value.cells]) ?_
      intro m5 ho5
      refine h_index (e := 5) x (sz := 1) (by kernel_rfl) (by kernel_rfl) (by omega) (by omega) rfl ?_
      dsimp only
      refine h_storeE 3 (m := m5) (cl_.aff _) (by repeat (first | exact Pick.here | exact Pick.one | exact Pick.all | apply Pick.two | apply Pick.cons | apply Pick.app)) ho5 rfl (by kernel_rfl) (by simp [Value.cells] <;> omega) (by simp [Value.cells]) ?_
      intro m6 ho6
      have ho6 : OwnB (some x) (4 + W.length) x4 ([42, 2] ++ (be 2 (low16 (W.length : Nat)) ++ W)) m6 := by
        have h1 := wr_set (l := 42 :: 2 :: UInt8.ofNat (low16 ((encW w0 ts).length : Nat) / 256 ^ 1) :: UInt8.ofNat (low16 ((encW w0 ts).length : Nat) / 256 ^ 0) :: W) (i := 2) (b := UInt8.ofNat (W.length / 256)) (by simp)
        have h2 := wr_set (l := 42 :: 2 :: UInt8.ofNat (W.length / 256) :: UInt8.ofNat (low16 ((encW w0 ts).length : Nat) / 256 ^ 0) :: W) (i := 3) (b := UInt8.ofNat (W.length % 256)) (by simp)
        have h3 : [42, 2] ++ (be 2 (low16 (W.length : Nat)) ++ W) = 42 :: 2 :: UInt8.ofNat (W.length / 256) :: UInt8.ofNat (W.length % 256) :: W := by
          rw [low16_small (by omega)]
          have : UInt8.ofNat (W.length % 256) = UInt8.ofNat (W.length / 256 ^ 0) := by rw [← UInt8.toNat_inj, toNat_ofNat', toNat_ofNat']; omega
          rw [this]; rfl
        show Own 5 1 (some x) (4 + W.length) x4 (bC ([42, 2] ++ (be 2 (low16 (W.length : Nat)) ++ W))) m6
        rw [h3]
        have h2' : wrL (bC (42 :: 2 :: UInt8.ofNat (W.length / 256) :: UInt8.ofNat (low16 ((encW w0 ts).length : Nat) / 256 ^ 0) :: W)) 3 [.int .u8 ((UInt8.ofNat (W.length % 256)).toNat : Int)] = bC (42 :: 2 :: UInt8.ofNat (W.length / 256) :: UInt8.ofNat (W.length % 256) :: W) := h2
        have h1' : wrL (bC (42 :: 2 :: UInt8.ofNat (low16 ((encW w0 ts).length : Nat) / 256 ^ 1) :: UInt8.ofNat (low16 ((encW w0 ts).length : Nat) / 256 ^ 0) :: W)) 2 [.int .u8 ((UInt8.ofNat (W.length / 256)).toNat : Int)] = bC (42 :: 2 :: UInt8.ofNat (W.length / 256) :: UInt8.ofNat (low16 ((encW w0 ts).length : Nat) / 256 ^ 0) :: W) := h1
        rw [← h2', ← h1']
        exact ho6
      have hd := decR_strange (k := k) (d := dt) hall h40 hin.oks hk b3
      rw [hW] at hd
      have hlw : ([42, 2] ++ (be 2 (low16 (W.length : Nat)) ++ W) : List UInt8).length = 4 + W.length := by simp [be_length]; try omega
      rw [← hlw] at ho6 ⊢
      refine h_call [] _ ca_babelpkt_Decode (List.Perm.refl _) (fun hl => bdecode_spec (ho6.rdb hl (fun x hx => by first | (simp [hx]; done) | (rw [List.mem_singleton] at hx; subst hx; simp; done))) ho6.2.1 (by unfold maxLen; omega)) ?_
      rintro v m7 ⟨X7, x7, rfl, ho7⟩
      refine ⟨getL [{ A := X7, n := (decR ([42, 2] ++ (be 2 (low16 (W.length : Nat)) ++ W))).1.length, c := x7 }, { i := (decR ([42, 2] ++ (be 2 (low16 (W.length : Nat)) ++ W))).2 }], rfl, ?_⟩
      dsimp only [getL]
      refine h_call [] _ ca_octroiref06_Same (List.Perm.refl _) (fun hl => tsame_spec (hin.up (Sub.self.up hl)) (ho7.tlvs hl (fun x hx => by first | (simp [hx]; done) | (rw [List.mem_singleton] at hx; subst hx; simp; done))) (by omega)) ?_
      rintro v m9 ⟨⟨b9, rfl, hb9⟩, rfl⟩
      refine ⟨fun _ => { b := b9 }, rfl, ?_⟩
      dsimp only
      rw [List.nil_append]
      refine h_yes (by rw [hd]; rfl) ?_
      have : b9 = true := hb9.2 (by rw [hd])
      exact h_end0 ⟨by rw [this], rfl⟩
  · have hk : k.toNat < 4 ∨ 10 < k.toNat ∨ k.toNat = 7 := by simp at k1; omega
    refine h_call [] _ ca_babelpkt_Encode (List.Perm.refl _) (fun hl => bencode_spec (hin.up (Sub.self.up hl)) (by omega)) ?_
    rintro v m1 ⟨X1, x1, rfl, ho1⟩
    have hbd1 := benc_bound (ts)
    refine ⟨getL [{ A := X1, n := (bencR (ts)).1.length, c := x1 }, { i := (bencR (ts)).2 }], rfl, ?_⟩
    dsimp only [getL]
    refine h_ite (fun h0 => h_end0 ⟨rfl, rfl⟩) (fun t => ?_)
    have he : (bencR ts).2 = 0 := by simpa using t
    obtain ⟨hform, h40, hall⟩ := benc_ok he
    refine h_row (e := 5) #[.int .u8 ((k.toNat : Nat) : Int)] (by kernel_rfl) fun g2 hg2 hI2 => ?_
    dsimp only
    refine h_append (cl_.aff _) eb_uint8 (by kernel_rfl) (cs2 := bC [k]) (fun _ => ⟨_, rfl, cellsM' (by repeat (first | exact mq0 | apply mq1 | apply mq2)) rfl⟩) (by simp) rfl (bC_plain _) (m := m1) (by repeat (first | exact Pick.here | exact Pick.one | exact Pick.all | apply Pick.two | apply Pick.cons | apply Pick.app)) ho1 (by omega) (by omega) ?_
    intro X2 x2 m2 ho2
    rw [← bC_append] at ho2
    dsimp only
    rw [wrap8b]
    refine h_row (e := 5) #[.int .u8 (((lowB ((dt.length : Nat) : Int)).toNat : Nat) : Int)] (by kernel_rfl) fun g3 hg3 hI3 => ?_
    dsimp only
    refine h_append (cl_.aff _) eb_uint8 (by kernel_rfl) (cs2 := bC [lowB ((dt.length : Nat) : Int)]) (fun _ => ⟨_, rfl, cellsM' (by repeat (first | exact mq0 | apply mq1 | apply mq2)) rfl⟩) (by simp) rfl (bC_plain _) (m := m2) (by repeat (first | exact Pick.here | exact Pick.one | exact Pick.all | apply Pick.two | apply Pick.cons | apply Pick.app)) ho2 (by omega) (by omega) ?_
    intro X3 x3 m3 ho3
    rw [← bC_append] at ho3
    dsimp only
    refine h_append (cl_.aff _) eb_uint8 (by kernel_rfl) (cs2 := bC dt) (hr.rd.sub Sub.self) hr.nil (by simp) (bC_plain _) (m := m3) (by repeat (first | exact Pick.here | exact Pick.one | exact Pick.all | apply Pick.two | apply Pick.cons | apply Pick.app)) ho3 (by omega) (by omega) ?_
    intro X4 x4 m4 ho4
    rw [← bC_append] at ho4
    dsimp only
    have hL : (bencR ts).1 ++ [k] ++ [lowB ((dt.length : Nat) : Int)] ++ dt = 42 :: 2 :: UInt8.ofNat (low16 ((encW w0 ts).length : Nat) / 256 ^ 1) :: UInt8.ofNat (low16 ((encW w0 ts).length : Nat) / 256 ^ 0) :: (encW w0 ts ++ tlvB k dt) := by
      rw [hform]; simp [tlvB, be]
    have hbl := benc_len he
    have hwl := encW_len ts w0 hall
    have htl := tlvB_len k dt
    have hN : (bencR ts).1.length + 1 + 1 + dt.length = 4 + (encW w0 ts ++ tlvB k dt).length := by rw [List.length_append]; omega
    rw [hL, hN] at ho4
    rw [hN]
    have hsm : (encW w0 ts ++ tlvB k dt).length ≤ 2000 := by rw [List.length_append]; omega
    generalize hW : encW w0 ts ++ tlvB k dt = W at ho4 hsm hN ⊢
    obtain ⟨x, rfl⟩ : ∃ x, X4 = some x := by
      cases X4 with
      | none => have := ho4.some_of rfl; omega
      | some x => exact ⟨x, rfl⟩
    refine h_index (e := 5) x (sz := 1) (by kernel_rfl) (by kernel_rfl) (by omega) (by omega) rfl ?_
    dsimp only
    have hw1 : IntKind.wrap .i64 (((4 + W.length : Nat) : Int) - 4) = ((W.length : Nat) : Int) := by rw [wrap64 (by omega)]; omega
    have hw2 : IntKind.wrap .i64 (Int.tdiv ((W.length : Nat) : Int) 256) = ((W.length / 256 : Nat) : Int) := by rw [Int.tdiv_eq_ediv_of_nonneg (by omega), wrap64 (by omega)]; omega
    have hw3 : Int.tmod ((W.length : Nat) : Int) 256 = ((W.length % 256 : Nat) : Int) := by rw [Int.tmod_eq_emod_of_nonneg (by omega)]; omega
    simp only [hw1, hw2, hw3, wrap8b, lowB_ofNat]
    refine h_storeE 2 (m := m4) (cl_.aff _) (by repeat (first | exact Pick.here | exact Pick.one | exact Pick.all | apply Pick.two | apply Pick.cons | apply Pick.app)) ho4 rfl (by kernel_rfl) (by simp [Value.cells] <;> omega) (by simp [Value.cells]) ?_
    intro m5 ho5
    refine h_index (e := 5) x (sz := 1) (by kernel_rfl) (by kernel_rfl) (by omega) (by omega) rfl ?_
    dsimp only
    refine h_storeE 3 (m := m5) (cl_.aff _) (by repeat (first | exact Pick.here | exact Pick.one | exact Pick.all | apply Pick.two | apply Pick.cons | apply Pick.app)) ho5 rfl (by kernel_rfl) (by simp [Value.cells] <;> omega) (by simp [Value.cells]) ?_
    intro m6 ho6
    have ho6 : OwnB (some x) (4 + W.length) x4 ([42, 2] ++ (be 2 (low16 (W.length : Nat)) ++ W)) m6 := by
      have h1 := wr_set (l := 42 :: 2 :: UInt8.ofNat (low16 ((encW w0 ts).length : Nat) / 256 ^ 1) :: UInt8.ofNat (low16 ((encW w0 ts).length : Nat) / 256 ^ 0) :: W) (i := 2) (b := UInt8.ofNat (W.length / 256)) (by simp)
      have h2 := wr_set (l := 42 :: 2 :: UInt8.ofNat (W.length / 256) :: UInt8.ofNat (low16 ((encW w0 ts).length : Nat) / 256 ^ 0) :: W) (i := 3) (b := UInt8.ofNat (W.length % 256)) (by simp)
      have h3 : [42, 2] ++ (be 2 (low16 (W.length : Nat)) ++ W) = 42 :: 2 :: UInt8.ofNat (W.length / 256) :: UInt8.ofNat (W.length % 256) :: W := by
        rw [low16_small (by omega)]
        have : UInt8.ofNat (W.length % 256) = UInt8.ofNat (W.length / 256 ^ 0) := by rw [← UInt8.toNat_inj, toNat_ofNat', toNat_ofNat']; omega
        rw [this]; rfl
      show Own 5 1 (some x) (4 + W.length) x4 (bC ([42, 2] ++ (be 2 (low16 (W.length : Nat)) ++ W))) m6
      rw [h3]
      have h2' : wrL (bC (42 :: 2 :: UInt8.ofNat (W.length / 256) :: UInt8.ofNat (low16 ((encW w0 ts).length : Nat) / 256 ^ 0) :: W)) 3 [.int .u8 ((UInt8.ofNat (W.length % 256)).toNat : Int)] = bC (42 :: 2 :: UInt8.ofNat (W.length / 256) :: UInt8.ofNat (W.length % 256) :: W) := h2
      have h1' : wrL (bC (42 :: 2 :: UInt8.ofNat (low16 ((encW w0 ts).length : Nat) / 256 ^ 1) :: UInt8.ofNat (low16 ((encW w0 ts).length : Nat) / 256 ^ 0) :: W)) 2 [.int .u8 ((UInt8.ofNat (W.length / 256)).toNat : Int)] = bC (42 :: 2 :: UInt8.ofNat (W.length / 256) :: UInt8.ofNat (low16 ((encW w0 ts).length : Nat) / 256 ^ 0) :: W) := h1
      rw [← h2', ← h1']
      exact ho6
    have hd := decR_strange (k := k) (d := dt) hall h40 hin.oks hk b3
    rw [hW] at hd
    have hlw : ([42, 2] ++ (be 2 (low16 (W.length : Nat)) ++ W) : List UInt8).length = 4 + W.length := by simp [be_length]; try omega
    rw [← hlw] at ho6 ⊢
    refine h_call [] _ ca_babelpkt_Decode (List.Perm.refl _) (fun hl => bdecode_spec (ho6.rdb hl (fun x hx => by first | (simp [hx]; done) | (rw [List.mem_singleton] at hx; subst hx; simp; done))) ho6.2.1 (by unfold maxLen; omega)) ?_
    rintro v m7 ⟨X7, x7, rfl, ho7⟩
    refine ⟨getL [{ A := X7, n := (decR ([42, 2] ++ (be 2 (low16 (W.length : Nat)) ++ W))).1.length, c := x7 }, { i := (decR ([42, 2] ++ (be 2 (low16 (W.length : Nat)) ++ W))).2 }], rfl, ?_⟩
    dsimp only [getL]
    refine h_call [] _ ca_octroiref06_Same (List.Perm.refl _) (fun hl => tsame_spec (hin.up (Sub.self.up hl)) (ho7.tlvs hl (fun x hx => by first | (simp [hx]; done) | (rw [List.mem_singleton] at hx; subst hx; simp; done))) (by omega)) ?_
    rintro v m9 ⟨⟨b9, rfl, hb9⟩, rfl⟩
    refine ⟨fun _ => { b := b9 }, rfl, ?_⟩
    dsimp only
    rw [List.nil_append]
    refine h_yes (by rw [hd]; rfl) ?_
    have : b9 = true := hb9.2 (by rw [hd])
    exact h_end0 ⟨by rw [this], rfl⟩
end Go.Proofs.YtcfnliodgoenkaaS
