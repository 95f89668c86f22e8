import Derived.Test.YtcfnliodgoenkaaN10
import Derived.Test.YtcfnliodgoenkaaTA
set_option linter.unusedVariables false
namespace Go.Proofs.YtcfnliodgoenkaaS
set_option maxHeartbeats 4000000 in
theorem rbenc_loop {J : Ctx} {A : Option Addr} {c : Nat} {ts : List Tlv} (hin : TlvsIn J A ts) (h40 : ts.length ≤ 40) :
    ∀ (q i : Nat) (A6 : Option Addr) (c6 : Nat) (u : Nat → Value) (h m hr : Mem), i + q = ts.length → (ts.take i).all mayT = true → 
    Pick h m hr → OwnB A6 (encW w0 (ts.take i)).length c6 (encW w0 (ts.take i)) m →
    Wp Try.prog 13 k_octroiref06_Encode_1 (t_octroiref06_Encode_1 A ts.length c A6 (encW w0 (ts.take i)).length c6 (((ts.take i).foldl partS w0).router : Nat) ((ts.take i).foldl partS w0).told (((ts.take i).foldl partS w0).last : Nat) i u) J h (cl_ (GivesE (bencR ts))) := by
  have hoks := hin.oks
  intro q
  induction q with
  | zero =>
    intro i A6 c6 u h m hr hi hall hp ho
    rw [List.take_of_length_le (by omega)] at hall ho ⊢
    have hle := encW_len ts w0 hall
    refine r_octroiref06_Encode_1 _ _ _ _ _ _ _ _ _ _ _ ?_
    refine holds_perm (cl_.aff _) (g := m ++ hr) hp ?_
    refine h_no (by simp; omega) ?_
    refine h_row (e := 5) #[.int .u8 42, .int .u8 2] (by kernel_rfl) fun gr0 hgr0 hIr0 => ?_
    dsimp only
    have r0 : OwnB (some ⟨gr0, 0, none⟩) 2 2 [42, 2] [(gr0, .cells #[.int .u8 42, .int .u8 2] 5 (0, 0))] := Own.row (n := 2) rfl
    (repeat ((first | ((with_reducible show holds _ _ _ _ (.sem (Instr.alloc 37 _ _) _ _) _); refine h_alloc zb_BabelTlv_37 fun _ _ _ => ?_) | ((with_reducible show holds _ _ _ _ (.rd (Instr.loadAt _ (.pointer _)) _ _) _); first | refine ldI (by repeat (first | exact mq0 | apply mq1 | apply mq2)) (by rfl) (by kernel_rfl) ?_ | refine la0 (by repeat (first | exact mq0 | apply mq1 | apply mq2)) (by rfl) (by kernel_rfl) ?_) | ((with_reducible show holds _ _ _ _ (.unit (Instr.storeAt _ _ _) _) _); refine stU (by repeat (first | exact Upd.here | apply Upd.there | apply Upd.right)) (by kernel_rfl) (by rfl) (by simp [Value.cells]) ?_)); try dsimp only [getL]))
    refine h_call [] _ ca_octroiref06_two (List.Perm.refl _) (fun hl => rtwo_spec (by omega)) ?_
    rintro v h1 ⟨A1, c1, rfl, ho1⟩
    refine ⟨fun _ => { A := A1, n := (be 2 (low16 ((encW w0 ts).length : Nat))).length, c := c1 }, rfl, ?_⟩
    dsimp only
    (repeat ((first | ((with_reducible show holds _ _ _ _ (.sem (Instr.alloc 37 _ _) _ _) _); refine h_alloc zb_BabelTlv_37 fun _ _ _ => ?_) | ((with_reducible show holds _ _ _ _ (.rd (Instr.loadAt _ (.pointer _)) _ _) _); first | refine ldI (by repeat (first | exact mq0 | apply mq1 | apply mq2)) (by rfl) (by kernel_rfl) ?_ | refine la0 (by repeat (first | exact mq0 | apply mq1 | apply mq2)) (by rfl) (by kernel_rfl) ?_) | ((with_reducible show holds _ _ _ _ (.unit (Instr.storeAt _ _ _) _) _); refine stU (by repeat (first | exact Upd.here | apply Upd.there | apply Upd.right)) (by kernel_rfl) (by rfl) (by simp [Value.cells]) ?_)); try dsimp only [getL]))
    refine h_append (cl_.aff _) eb_uint8 (by kernel_rfl) (cs2 := bC (be 2 (low16 ((encW w0 ts).length : Nat)))) (ho1.rd (fun x hx => by first | (simp [hx]; done) | (rw [List.mem_singleton] at hx; subst hx; simp; done))) ho1.some_of (by simp) (bC_plain _) (m := [(gr0, .cells #[.int .u8 42, .int .u8 2] 5 (0, 0))]) (by repeat (first | exact Pick.here | exact Pick.one | exact Pick.all | apply Pick.two | apply Pick.cons | apply Pick.app)) r0 (by (try simp only [tlvB_len, List.length_append, longB_len, be_length, List.length_cons, List.length_nil]); omega) (by omega) ?_
    intro X2 d2 m2 o2
    rw [← bC_append] at o2
    dsimp only at o2 ⊢
    (repeat ((first | ((with_reducible show holds _ _ _ _ (.sem (Instr.alloc 37 _ _) _ _) _); refine h_alloc zb_BabelTlv_37 fun _ _ _ => ?_) | ((with_reducible show holds _ _ _ _ (.rd (Instr.loadAt _ (.pointer _)) _ _) _); first | refine ldI (by repeat (first | exact mq0 | apply mq1 | apply mq2)) (by rfl) (by kernel_rfl) ?_ | refine la0 (by repeat (first | exact mq0 | apply mq1 | apply mq2)) (by rfl) (by kernel_rfl) ?_) | ((with_reducible show holds _ _ _ _ (.unit (Instr.storeAt _ _ _) _) _); refine stU (by repeat (first | exact Upd.here | apply Upd.there | apply Upd.right)) (by kernel_rfl) (by rfl) (by simp [Value.cells]) ?_)); try dsimp only [getL]))
    refine h_append (cl_.aff _) eb_uint8 (by kernel_rfl) (cs2 := bC (encW w0 ts)) (ho.rd (fun x hx => by first | (simp [hx]; done) | (rw [List.mem_singleton] at hx; subst hx; simp; done))) ho.some_of (by simp) (bC_plain _) (m := m2) (by repeat (first | exact Pick.here | exact Pick.one | exact Pick.all | apply Pick.two | apply Pick.cons | apply Pick.app)) o2 (by (try simp only [tlvB_len, List.length_append, longB_len, be_length, List.length_cons, List.length_nil]); omega) (by omega) ?_
    intro X3 d3 m3 o3
    rw [← bC_append] at o3
    dsimp only at o3 ⊢
    (repeat ((first | ((with_reducible show holds _ _ _ _ (.sem (Instr.alloc 37 _ _) _ _) _); refine h_alloc zb_BabelTlv_37 fun _ _ _ => ?_) | ((with_reducible show holds _ _ _ _ (.rd (Instr.loadAt _ (.pointer _)) _ _) _); first | refine ldI (by repeat (first | exact mq0 | apply mq1 | apply mq2)) (by rfl) (by kernel_rfl) ?_ | refine la0 (by repeat (first | exact mq0 | apply mq1 | apply mq2)) (by rfl) (by kernel_rfl) ?_) | ((with_reducible show holds _ _ _ _ (.unit (Instr.storeAt _ _ _) _) _); refine stU (by repeat (first | exact Upd.here | apply Upd.there | apply Upd.right)) (by kernel_rfl) (by rfl) (by simp [Value.cells]) ?_)); try dsimp only [getL]))
    rw [show bencR ts = ([42, 2] ++ (be 2 (low16 ((encW w0 ts).length : Nat)) ++ encW w0 ts), 0) by unfold bencR; rw [if_neg (by omega), if_neg (by rw [hall]; simp)]]
    rw [List.append_assoc] at o3
    have hll := OwnB.len o3
    refine h_end (by repeat (first | exact Pick.here | exact Pick.one | exact Pick.all | apply Pick.two | apply Pick.cons | apply Pick.app)) ⟨X3, d3, by dsimp only; rw [hll], by dsimp only; rw [hll]; exact o3⟩
  | succ q ih =>
    intro i A6 c6 u h m hr hi hall hp ho
    have hlt : i < ts.length := by omega
    obtain ⟨a, rfl, hok, hc⟩ := hin.get hlt
    have htk : ts.take (i + 1) = ts.take i ++ [ts[i]] := List.take_succ_eq_append_getElem hlt
    have hle := encW_len (ts.take i) w0 hall
    have hlast := foldS_last (ts.take i) w0 (by decide) (fun x hx => hoks x (List.mem_of_mem_take hx))
    have hti : (ts.take i).length ≤ 40 := by simp; omega
    refine r_octroiref06_Encode_1 _ _ _ _ _ _ _ _ _ _ _ ?_
    refine holds_perm (cl_.aff _) (g := m ++ hr) hp ?_
    refine h_yes (by simp; omega) ?_
    refine h_index a rfl (sz := 9) (by kernel_rfl) (by omega) (by omega) rfl ?_
    dsimp only
    rw [Int.toNat_natCast]
    refine h_loadA (cs := ts[i].cs) ts[i].ls (by kernel_rfl) (by kernel_rfl) (hc.sub Sub.self) rfl ?_
    dsimp only [getL, Tlv.ls]
    have hmem := List.getElem_mem hlt
    generalize hst0 : (ts.take i).foldl partS w0 = st at hlast ⊢
    generalize ts[i] = t at hok hc htk hmem ⊢
    (repeat ((first | ((with_reducible show holds _ _ _ _ (.sem (Instr.alloc 37 _ _) _ _) _); refine h_alloc zb_BabelTlv_37 fun _ _ _ => ?_) | ((with_reducible show holds _ _ _ _ (.rd (Instr.loadAt _ (.pointer _)) _ _) _); first | refine ldI (by repeat (first | exact mq0 | apply mq1 | apply mq2)) (by rfl) (by kernel_rfl) ?_ | refine la0 (by repeat (first | exact mq0 | apply mq1 | apply mq2)) (by rfl) (by kernel_rfl) ?_) | ((with_reducible show holds _ _ _ _ (.unit (Instr.storeAt _ _ _) _) _); refine stU (by repeat (first | exact Upd.here | apply Upd.there | apply Upd.right)) (by kernel_rfl) (by rfl) (by simp [Value.cells]) ?_)); try dsimp only [getL]))
    refine h_call0 (v := .bool (mayT t)) (fun _ => { b := mayT t }) ca_octroiref06_May (fun hl => rbmay_spec hok) rfl ?_
    dsimp only
    refine h_ite (fun hb => ?_) (fun hb => ?_)
    · rw [show bencR ts = ([], 1) by
        unfold bencR
        rw [if_neg (by omega), if_pos (by rw [List.all_eq_false]; exact ⟨t, hmem, by simpa using hb⟩)]]
      exact h_end0 ⟨none, 0, rfl, Own.nil _ _⟩
    have hmt : mayT t = true := by simpa using hb
    have hal1 : (ts.take (i + 1)).all mayT = true := by rw [htk, List.all_append, hall]; simpa using hmt
    replace ih := fun (j : Nat) (X : Option Addr) (d : Nat) (u : Nat → Value) (h m hr : Mem) (hj : j + q = ts.length) => ih j X d u h m hr hj
    obtain ⟨hn, hkr, hiv, hco, hho⟩ := may_facts hmt
    (repeat ((first | ((with_reducible show holds _ _ _ _ (.sem (Instr.alloc 37 _ _) _ _) _); refine h_alloc zb_BabelTlv_37 fun _ _ _ => ?_) | ((with_reducible show holds _ _ _ _ (.rd (Instr.loadAt _ (.pointer _)) _ _) _); first | refine ldI (by repeat (first | exact mq0 | apply mq1 | apply mq2)) (by rfl) (by kernel_rfl) ?_ | refine la0 (by repeat (first | exact mq0 | apply mq1 | apply mq2)) (by rfl) (by kernel_rfl) ?_) | ((with_reducible show holds _ _ _ _ (.unit (Instr.storeAt _ _ _) _) _); refine stU (by repeat (first | exact Upd.here | apply Upd.there | apply Upd.right)) (by kernel_rfl) (by rfl) (by simp [Value.cells]) ?_)); try dsimp only [getL]))
    refine h_ite (fun k2 => ?_) (fun k2 => ?_)
    · have hk2 : t.kind ≠ 2 := by simpa using k2
      (repeat ((first | ((with_reducible show holds _ _ _ _ (.sem (Instr.alloc 37 _ _) _ _) _); refine h_alloc zb_BabelTlv_37 fun _ _ _ => ?_) | ((with_reducible show holds _ _ _ _ (.rd (Instr.loadAt _ (.pointer _)) _ _) _); first | refine ldI (by repeat (first | exact mq0 | apply mq1 | apply mq2)) (by rfl) (by kernel_rfl) ?_ | refine la0 (by repeat (first | exact mq0 | apply mq1 | apply mq2)) (by rfl) (by kernel_rfl) ?_) | ((with_reducible show holds _ _ _ _ (.unit (Instr.storeAt _ _ _) _) _); refine stU (by repeat (first | exact Upd.here | apply Upd.there | apply Upd.right)) (by kernel_rfl) (by rfl) (by simp [Value.cells]) ?_)); try dsimp only [getL]))
      have hpl := partB_len st hn
      refine h_call [] _ ca_octroiref06_part (List.Perm.refl _) (fun hl => rpart_spec (st := st) hok hmt hk2) ?_
      rintro v h1 ⟨A1, c1, rfl, ho1⟩
      refine ⟨fun _ => { A := A1, n := (partB st t).length, c := c1 }, rfl, ?_⟩
      dsimp only
      (repeat ((first | ((with_reducible show holds _ _ _ _ (.sem (Instr.alloc 37 _ _) _ _) _); refine h_alloc zb_BabelTlv_37 fun _ _ _ => ?_) | ((with_reducible show holds _ _ _ _ (.rd (Instr.loadAt _ (.pointer _)) _ _) _); first | refine ldI (by repeat (first | exact mq0 | apply mq1 | apply mq2)) (by rfl) (by kernel_rfl) ?_ | refine la0 (by repeat (first | exact mq0 | apply mq1 | apply mq2)) (by rfl) (by kernel_rfl) ?_) | ((with_reducible show holds _ _ _ _ (.unit (Instr.storeAt _ _ _) _) _); refine stU (by repeat (first | exact Upd.here | apply Upd.there | apply Upd.right)) (by kernel_rfl) (by rfl) (by simp [Value.cells]) ?_)); try dsimp only [getL]))
      refine h_append (cl_.aff _) eb_uint8 (by kernel_rfl) (cs2 := bC (partB st t)) (ho1.rd (fun x hx => by first | (simp [hx]; done) | (rw [List.mem_singleton] at hx; subst hx; simp; done))) ho1.some_of (by simp) (bC_plain _) (m := m) (by repeat (first | exact Pick.here | exact Pick.one | exact Pick.all | apply Pick.two | apply Pick.cons | apply Pick.app)) ho (by (try simp only [tlvB_len, List.length_append, longB_len, be_length, List.length_cons, List.length_nil]); omega) (by omega) ?_
      intro X2 d2 m2 o2
      rw [← bC_append] at o2
      dsimp only at o2 ⊢
      (repeat ((first | ((with_reducible show holds _ _ _ _ (.sem (Instr.alloc 37 _ _) _ _) _); refine h_alloc zb_BabelTlv_37 fun _ _ _ => ?_) | ((with_reducible show holds _ _ _ _ (.rd (Instr.loadAt _ (.pointer _)) _ _) _); first | refine ldI (by repeat (first | exact mq0 | apply mq1 | apply mq2)) (by rfl) (by kernel_rfl) ?_ | refine la0 (by repeat (first | exact mq0 | apply mq1 | apply mq2)) (by rfl) (by kernel_rfl) ?_) | ((with_reducible show holds _ _ _ _ (.unit (Instr.storeAt _ _ _) _) _); refine stU (by repeat (first | exact Upd.here | apply Upd.there | apply Upd.right)) (by kernel_rfl) (by rfl) (by simp [Value.cells]) ?_)); try dsimp only [getL]))
      refine h_stop fun hl => ?_
      rw [wrapS (by omega)]
      have hen : encW w0 (ts.take (i + 1)) = encW w0 (ts.take i) ++ partB st t := by rw [htk, encW_snoc, hst0]
      have hst : (ts.take (i + 1)).foldl partS w0 = st := by rw [htk, List.foldl_append, hst0]; show partS st t = _; unfold partS; rw [if_neg hk2]
      have hnx := ih (i + 1) X2 d2
      rw [hen, hst, List.length_append] at hnx
      exact hnx _ _ m2 _ (by omega) hal1 (by repeat (first | exact Pick.here | exact Pick.one | exact Pick.all | apply Pick.two | apply Pick.cons | apply Pick.app)) o2
    have hk2 : t.kind = 2 := by simpa using k2
    refine h_ite (fun t6 => ?_) (fun t6 => ?_)
    · have hd : st.told = false ∨ st.router ≠ t.router := .inl (by simpa using t6)
      refine h_row (e := 5) #[.int .u8 0, .int .u8 0] (by kernel_rfl) fun gr0 hgr0 hIr0 => ?_
      dsimp only
      have r0 : OwnB (some ⟨gr0, 0, none⟩) 2 2 [0, 0] [(gr0, .cells #[.int .u8 0, .int .u8 0] 5 (0, 0))] := Own.row (n := 2) rfl
      (repeat ((first | ((with_reducible show holds _ _ _ _ (.sem (Instr.alloc 37 _ _) _ _) _); refine h_alloc zb_BabelTlv_37 fun _ _ _ => ?_) | ((with_reducible show holds _ _ _ _ (.rd (Instr.loadAt _ (.pointer _)) _ _) _); first | refine ldI (by repeat (first | exact mq0 | apply mq1 | apply mq2)) (by rfl) (by kernel_rfl) ?_ | refine la0 (by repeat (first | exact mq0 | apply mq1 | apply mq2)) (by rfl) (by kernel_rfl) ?_) | ((with_reducible show holds _ _ _ _ (.unit (Instr.storeAt _ _ _) _) _); refine stU (by repeat (first | exact Upd.here | apply Upd.there | apply Upd.right)) (by kernel_rfl) (by rfl) (by simp [Value.cells]) ?_)); try dsimp only [getL]))
      refine h_call [] _ ca_octroiref06_long (List.Perm.refl _) (fun hl => rlong_spec hok.router) ?_
      rintro v h11 ⟨A11, c11, rfl, ho11⟩
      refine ⟨fun _ => { A := A11, n := (longB t.router).length, c := c11 }, rfl, ?_⟩
      dsimp only
      (repeat ((first | ((with_reducible show holds _ _ _ _ (.sem (Instr.alloc 37 _ _) _ _) _); refine h_alloc zb_BabelTlv_37 fun _ _ _ => ?_) | ((with_reducible show holds _ _ _ _ (.rd (Instr.loadAt _ (.pointer _)) _ _) _); first | refine ldI (by repeat (first | exact mq0 | apply mq1 | apply mq2)) (by rfl) (by kernel_rfl) ?_ | refine la0 (by repeat (first | exact mq0 | apply mq1 | apply mq2)) (by rfl) (by kernel_rfl) ?_) | ((with_reducible show holds _ _ _ _ (.unit (Instr.storeAt _ _ _) _) _); refine stU (by repeat (first | exact Upd.here | apply Upd.there | apply Upd.right)) (by kernel_rfl) (by rfl) (by simp [Value.cells]) ?_)); try dsimp only [getL]))
      refine h_append (cl_.aff _) eb_uint8 (by kernel_rfl) (cs2 := bC (longB t.router)) (ho11.rd (fun x hx => by first | (simp [hx]; done) | (rw [List.mem_singleton] at hx; subst hx; simp; done))) ho11.some_of (by simp) (bC_plain _) (m := [(gr0, .cells #[.int .u8 0, .int .u8 0] 5 (0, 0))]) (by repeat (first | exact Pick.here | exact Pick.one | exact Pick.all | apply Pick.two | apply Pick.cons | apply Pick.app)) r0 (by (try simp only [tlvB_len, List.length_append, longB_len, be_length, List.length_cons, List.length_nil]); omega) (by omega) ?_
      intro X12 d12 m12 o12
      rw [← bC_append] at o12
      dsimp only at o12 ⊢
      (repeat ((first | ((with_reducible show holds _ _ _ _ (.sem (Instr.alloc 37 _ _) _ _) _); refine h_alloc zb_BabelTlv_37 fun _ _ _ => ?_) | ((with_reducible show holds _ _ _ _ (.rd (Instr.loadAt _ (.pointer _)) _ _) _); first | refine ldI (by repeat (first | exact mq0 | apply mq1 | apply mq2)) (by rfl) (by kernel_rfl) ?_ | refine la0 (by repeat (first | exact mq0 | apply mq1 | apply mq2)) (by rfl) (by kernel_rfl) ?_) | ((with_reducible show holds _ _ _ _ (.unit (Instr.storeAt _ _ _) _) _); refine stU (by repeat (first | exact Upd.here | apply Upd.there | apply Upd.right)) (by kernel_rfl) (by rfl) (by simp [Value.cells]) ?_)); try dsimp only [getL]))
      refine h_call [] _ ca_octroiref06_tlv (List.Perm.refl _) (fun hl => rtlv_spec (k := 6) (OwnB.rdb o12 hl (fun x hx => by first | (simp [hx]; done) | (rw [List.mem_singleton] at hx; subst hx; simp; done))) (by (try simp only [longB_len]); omega)) ?_
      rintro v h13 ⟨A13, c13, rfl, ho13⟩
      refine ⟨fun _ => { A := A13, n := (tlvB 6 ([0, 0] ++ longB t.router)).length, c := c13 }, rfl, ?_⟩
      dsimp only
      (repeat ((first | ((with_reducible show holds _ _ _ _ (.sem (Instr.alloc 37 _ _) _ _) _); refine h_alloc zb_BabelTlv_37 fun _ _ _ => ?_) | ((with_reducible show holds _ _ _ _ (.rd (Instr.loadAt _ (.pointer _)) _ _) _); first | refine ldI (by repeat (first | exact mq0 | apply mq1 | apply mq2)) (by rfl) (by kernel_rfl) ?_ | refine la0 (by repeat (first | exact mq0 | apply mq1 | apply mq2)) (by rfl) (by kernel_rfl) ?_) | ((with_reducible show holds _ _ _ _ (.unit (Instr.storeAt _ _ _) _) _); refine stU (by repeat (first | exact Upd.here | apply Upd.there | apply Upd.right)) (by kernel_rfl) (by rfl) (by simp [Value.cells]) ?_)); try dsimp only [getL]))
      refine h_append (cl_.aff _) eb_uint8 (by kernel_rfl) (cs2 := bC (tlvB 6 ([0, 0] ++ longB t.router))) (ho13.rd (fun x hx => by first | (simp [hx]; done) | (rw [List.mem_singleton] at hx; subst hx; simp; done))) ho13.some_of (by simp) (bC_plain _) (m := m) (by repeat (first | exact Pick.here | exact Pick.one | exact Pick.all | apply Pick.two | apply Pick.cons | apply Pick.app)) ho (by (try simp only [tlvB_len, List.length_append, longB_len, be_length, List.length_cons, List.length_nil]); omega) (by omega) ?_
      intro X14 d14 m14 o14
      rw [← bC_append] at o14
      dsimp only at o14 ⊢
      (repeat ((first | ((with_reducible show holds _ _ _ _ (.sem (Instr.alloc 37 _ _) _ _) _); refine h_alloc zb_BabelTlv_37 fun _ _ _ => ?_) | ((with_reducible show holds _ _ _ _ (.rd (Instr.loadAt _ (.pointer _)) _ _) _); first | refine ldI (by repeat (first | exact mq0 | apply mq1 | apply mq2)) (by rfl) (by kernel_rfl) ?_ | refine la0 (by repeat (first | exact mq0 | apply mq1 | apply mq2)) (by rfl) (by kernel_rfl) ?_) | ((with_reducible show holds _ _ _ _ (.unit (Instr.storeAt _ _ _) _) _); refine stU (by repeat (first | exact Upd.here | apply Upd.there | apply Upd.right)) (by kernel_rfl) (by rfl) (by simp [Value.cells]) ?_)); try dsimp only [getL]))
      obtain ⟨k, hkk⟩ : ∃ k, sqz st.last t.a (nd t.n : Nat) = k := ⟨_, rfl⟩
      refine h_call [] _ ca_octroiref06_update (List.Perm.refl _) (fun hl => rupdate_spec hok hmt hlast hkk) ?_
      rintro v h31 ⟨A31, c31, rfl, ho31⟩
      refine ⟨fun _ => { A := A31, n := (updBody t k).length, c := c31 }, rfl, ?_⟩
      dsimp only
      (repeat ((first | ((with_reducible show holds _ _ _ _ (.sem (Instr.alloc 37 _ _) _ _) _); refine h_alloc zb_BabelTlv_37 fun _ _ _ => ?_) | ((with_reducible show holds _ _ _ _ (.rd (Instr.loadAt _ (.pointer _)) _ _) _); first | refine ldI (by repeat (first | exact mq0 | apply mq1 | apply mq2)) (by rfl) (by kernel_rfl) ?_ | refine la0 (by repeat (first | exact mq0 | apply mq1 | apply mq2)) (by rfl) (by kernel_rfl) ?_) | ((with_reducible show holds _ _ _ _ (.unit (Instr.storeAt _ _ _) _) _); refine stU (by repeat (first | exact Upd.here | apply Upd.there | apply Upd.right)) (by kernel_rfl) (by rfl) (by simp [Value.cells]) ?_)); try dsimp only [getL]))
      have hbl : (updBody t k).length ≤ 20 := by
        have h1 := tagB_len t
        have h2 := addrB_len (a := t.a) hn
        have h3 := nd_le hn
        unfold updBody
        simp only [List.length_append, be_length, List.length_drop, h2, List.length_cons, List.length_nil]
        omega
      refine h_call [] _ ca_octroiref06_tlv (List.Perm.refl _) (fun hl => rtlv_spec (k := 8) (ho31.rdb hl (fun x hx => by first | (simp [hx]; done) | (rw [List.mem_singleton] at hx; subst hx; simp; done))) (by omega)) ?_
      rintro v h32 ⟨A32, c32, rfl, ho32⟩
      refine ⟨fun _ => { A := A32, n := (tlvB 8 (updBody t k)).length, c := c32 }, rfl, ?_⟩
      dsimp only
      (repeat ((first | ((with_reducible show holds _ _ _ _ (.sem (Instr.alloc 37 _ _) _ _) _); refine h_alloc zb_BabelTlv_37 fun _ _ _ => ?_) | ((with_reducible show holds _ _ _ _ (.rd (Instr.loadAt _ (.pointer _)) _ _) _); first | refine ldI (by repeat (first | exact mq0 | apply mq1 | apply mq2)) (by rfl) (by kernel_rfl) ?_ | refine la0 (by repeat (first | exact mq0 | apply mq1 | apply mq2)) (by rfl) (by kernel_rfl) ?_) | ((with_reducible show holds _ _ _ _ (.unit (Instr.storeAt _ _ _) _) _); refine stU (by repeat (first | exact Upd.here | apply Upd.there | apply Upd.right)) (by kernel_rfl) (by rfl) (by simp [Value.cells]) ?_)); try dsimp only [getL]))
      refine h_append (cl_.aff _) eb_uint8 (by kernel_rfl) (cs2 := bC (tlvB 8 (updBody t k))) (ho32.rd (fun x hx => by first | (simp [hx]; done) | (rw [List.mem_singleton] at hx; subst hx; simp; done))) ho32.some_of (by simp) (bC_plain _) (m := m14) (by repeat (first | exact Pick.here | exact Pick.one | exact Pick.all | apply Pick.two | apply Pick.cons | apply Pick.app)) o14 (by (try simp only [tlvB_len, List.length_append, longB_len, be_length, List.length_cons, List.length_nil]); omega) (by omega) ?_
      intro X33 d33 m33 o33
      rw [← bC_append] at o33
      dsimp only at o33 ⊢
      (repeat ((first | ((with_reducible show holds _ _ _ _ (.sem (Instr.alloc 37 _ _) _ _) _); refine h_alloc zb_BabelTlv_37 fun _ _ _ => ?_) | ((with_reducible show holds _ _ _ _ (.rd (Instr.loadAt _ (.pointer _)) _ _) _); first | refine ldI (by repeat (first | exact mq0 | apply mq1 | apply mq2)) (by rfl) (by kernel_rfl) ?_ | refine la0 (by repeat (first | exact mq0 | apply mq1 | apply mq2)) (by rfl) (by kernel_rfl) ?_) | ((with_reducible show holds _ _ _ _ (.unit (Instr.storeAt _ _ _) _) _); refine stU (by repeat (first | exact Upd.here | apply Upd.there | apply Upd.right)) (by kernel_rfl) (by rfl) (by simp [Value.cells]) ?_)); try dsimp only [getL]))
      have hul := updW_len st hn
      refine h_stop fun hl => ?_
      rw [wrapS (by omega)]
      have hpb : partB st t = tlvB 6 ([0, 0] ++ longB t.router) ++ tlvB 8 (updBody t k) := by
        unfold partB updW rtB
        rw [if_neg (by omega), if_neg (by omega), if_pos hk2, if_pos hd, hkk]
      have hen : encW w0 (ts.take (i + 1)) = encW w0 (ts.take i) ++ tlvB 6 ([0, 0] ++ longB t.router) ++ tlvB 8 (updBody t k) := by rw [htk, encW_snoc, hst0, hpb, List.append_assoc]
      have hst : (ts.take (i + 1)).foldl partS w0 = updS t := by rw [htk, List.foldl_append, hst0]; show partS st t = _; unfold partS; rw [if_pos hk2]
      have hnx := ih (i + 1) (X33) (d33)
      rw [hen, hst] at hnx
      have hll := OwnB.len o33
      rw [List.length_append, List.length_append] at hnx
      refine hnx _ _ m33 _ (by omega) hal1 (by repeat (first | exact Pick.here | exact Pick.one | exact Pick.all | apply Pick.two | apply Pick.cons | apply Pick.app)) ?_
      exact o33
    have hto : st.told = true := by simpa using t6
    (repeat ((first | ((with_reducible show holds _ _ _ _ (.sem (Instr.alloc 37 _ _) _ _) _); refine h_alloc zb_BabelTlv_37 fun _ _ _ => ?_) | ((with_reducible show holds _ _ _ _ (.rd (Instr.loadAt _ (.pointer _)) _ _) _); first | refine ldI (by repeat (first | exact mq0 | apply mq1 | apply mq2)) (by rfl) (by kernel_rfl) ?_ | refine la0 (by repeat (first | exact mq0 | apply mq1 | apply mq2)) (by rfl) (by kernel_rfl) ?_) | ((with_reducible show holds _ _ _ _ (.unit (Instr.storeAt _ _ _) _) _); refine stU (by repeat (first | exact Upd.here | apply Upd.there | apply Upd.right)) (by kernel_rfl) (by rfl) (by simp [Value.cells]) ?_)); try dsimp only [getL]))
    refine h_ite (fun t7 => ?_) (fun t7 => ?_)
    · have hd : st.told = false ∨ st.router ≠ t.router := .inr (by intro e; rw [e] at t7; simp at t7)
      refine h_row (e := 5) #[.int .u8 0, .int .u8 0] (by kernel_rfl) fun gr0 hgr0 hIr0 => ?_
      dsimp only
      have r0 : OwnB (some ⟨gr0, 0, none⟩) 2 2 [0, 0] [(gr0, .cells #[.int .u8 0, .int .u8 0] 5 (0, 0))] := Own.row (n := 2) rfl
      (repeat ((first | ((with_reducible show holds _ _ _ _ (.sem (Instr.alloc 37 _ _) _ _) _); refine h_alloc zb_BabelTlv_37 fun _ _ _ => ?_) | ((with_reducible show holds _ _ _ _ (.rd (Instr.loadAt _ (.pointer _)) _ _) _); first | refine ldI (by repeat (first | exact mq0 | apply mq1 | apply mq2)) (by rfl) (by kernel_rfl) ?_ | refine la0 (by repeat (first | exact mq0 | apply mq1 | apply mq2)) (by rfl) (by kernel_rfl) ?_) | ((with_reducible show holds _ _ _ _ (.unit (Instr.storeAt _ _ _) _) _); refine stU (by repeat (first | exact Upd.here | apply Upd.there | apply Upd.right)) (by kernel_rfl) (by rfl) (by simp [Value.cells]) ?_)); try dsimp only [getL]))
      refine h_call [] _ ca_octroiref06_long (List.Perm.refl _) (fun hl => rlong_spec hok.router) ?_
      rintro v h11 ⟨A11, c11, rfl, ho11⟩
      refine ⟨fun _ => { A := A11, n := (longB t.router).length, c := c11 }, rfl, ?_⟩
      dsimp only
      (repeat ((first | ((with_reducible show holds _ _ _ _ (.sem (Instr.alloc 37 _ _) _ _) _); refine h_alloc zb_BabelTlv_37 fun _ _ _ => ?_) | ((with_reducible show holds _ _ _ _ (.rd (Instr.loadAt _ (.pointer _)) _ _) _); first | refine ldI (by repeat (first | exact mq0 | apply mq1 | apply mq2)) (by rfl) (by kernel_rfl) ?_ | refine la0 (by repeat (first | exact mq0 | apply mq1 | apply mq2)) (by rfl) (by kernel_rfl) ?_) | ((with_reducible show holds _ _ _ _ (.unit (Instr.storeAt _ _ _) _) _); refine stU (by repeat (first | exact Upd.here | apply Upd.there | apply Upd.right)) (by kernel_rfl) (by rfl) (by simp [Value.cells]) ?_)); try dsimp only [getL]))
      refine h_append (cl_.aff _) eb_uint8 (by kernel_rfl) (cs2 := bC (longB t.router)) (ho11.rd (fun x hx => by first | (simp [hx]; done) | (rw [List.mem_singleton] at hx; subst hx; simp; done))) ho11.some_of (by simp) (bC_plain _) (m := [(gr0, .cells #[.int .u8 0, .int .u8 0] 5 (0, 0))]) (by repeat (first | exact Pick.here | exact Pick.one | exact Pick.all | apply Pick.two | apply Pick.cons | apply Pick.app)) r0 (by (try simp only [tlvB_len, List.length_append, longB_len, be_length, List.length_cons, List.length_nil]); omega) (by omega) ?_
      intro X12 d12 m12 o12
      rw [← bC_append] at o12
      dsimp only at o12 ⊢
      (repeat ((first | ((with_reducible show holds _ _ _ _ (.sem (Instr.alloc 37 _ _) _ _) _); refine h_alloc zb_BabelTlv_37 fun _ _ _ => ?_) | ((with_reducible show holds _ _ _ _ (.rd (Instr.loadAt _ (.pointer _)) _ _) _); first | refine ldI (by repeat (first | exact mq0 | apply mq1 | apply mq2)) (by rfl) (by kernel_rfl) ?_ | refine la0 (by repeat (first | exact mq0 | apply mq1 | apply mq2)) (by rfl) (by kernel_rfl) ?_) | ((with_reducible show holds _ _ _ _ (.unit (Instr.storeAt _ _ _) _) _); refine stU (by repeat (first | exact Upd.here | apply Upd.there | apply Upd.right)) (by kernel_rfl) (by rfl) (by simp [Value.cells]) ?_)); try dsimp only [getL]))
      refine h_call [] _ ca_octroiref06_tlv (List.Perm.refl _) (fun hl => rtlv_spec (k := 6) (OwnB.rdb o12 hl (fun x hx => by first | (simp [hx]; done) | (rw [List.mem_singleton] at hx; subst hx; simp; done))) (by (try simp only [longB_len]); omega)) ?_
      rintro v h13 ⟨A13, c13, rfl, ho13⟩
      refine ⟨fun _ => { A := A13, n := (tlvB 6 ([0, 0] ++ longB t.router)).length, c := c13 }, rfl, ?_⟩
      dsimp only
      (repeat ((first | ((with_reducible show holds _ _ _ _ (.sem (Instr.alloc 37 _ _) _ _) _); refine h_alloc zb_BabelTlv_37 fun _ _ _ => ?_) | ((with_reducible show holds _ _ _ _ (.rd (Instr.loadAt _ (.pointer _)) _ _) _); first | refine ldI (by repeat (first | exact mq0 | apply mq1 | apply mq2)) (by rfl) (by kernel_rfl) ?_ | refine la0 (by repeat (first | exact mq0 | apply mq1 | apply mq2)) (by rfl) (by kernel_rfl) ?_) | ((with_reducible show holds _ _ _ _ (.unit (Instr.storeAt _ _ _) _) _); refine stU (by repeat (first | exact Upd.here | apply Upd.there | apply Upd.right)) (by kernel_rfl) (by rfl) (by simp [Value.cells]) ?_)); try dsimp only [getL]))
      refine h_append (cl_.aff _) eb_uint8 (by kernel_rfl) (cs2 := bC (tlvB 6 ([0, 0] ++ longB t.router))) (ho13.rd (fun x hx => by first | (simp [hx]; done) | (rw [List.mem_singleton] at hx; subst hx; simp; done))) ho13.some_of (by simp) (bC_plain _) (m := m) (by repeat (first | exact Pick.here | exact Pick.one | exact Pick.all | apply Pick.two | apply Pick.cons | apply Pick.app)) ho (by (try simp only [tlvB_len, List.length_append, longB_len, be_length, List.length_cons, List.length_nil]); omega) (by omega) ?_
      intro X14 d14 m14 o14
      rw [← bC_append] at o14
      dsimp only at o14 ⊢
      (repeat ((first | ((with_reducible show holds _ _ _ _ (.sem (Instr.alloc 37 _ _) _ _) _); refine h_alloc zb_BabelTlv_37 fun _ _ _ => ?_) | ((with_reducible show holds _ _ _ _ (.rd (Instr.loadAt _ (.pointer _)) _ _) _); first | refine ldI (by repeat (first | exact mq0 | apply mq1 | apply mq2)) (by rfl) (by kernel_rfl) ?_ | refine la0 (by repeat (first | exact mq0 | apply mq1 | apply mq2)) (by rfl) (by kernel_rfl) ?_) | ((with_reducible show holds _ _ _ _ (.unit (Instr.storeAt _ _ _) _) _); refine stU (by repeat (first | exact Upd.here | apply Upd.there | apply Upd.right)) (by kernel_rfl) (by rfl) (by simp [Value.cells]) ?_)); try dsimp only [getL]))
      obtain ⟨k, hkk⟩ : ∃ k, sqz st.last t.a (nd t.n : Nat) = k := ⟨_, rfl⟩
      refine h_call [] _ ca_octroiref06_update (List.Perm.refl _) (fun hl => rupdate_spec hok hmt hlast hkk) ?_
      rintro v h31 ⟨A31, c31, rfl, ho31⟩
      refine ⟨fun _ => { A := A31, n := (updBody t k).length, c := c31 }, rfl, ?_⟩
      dsimp only
      (repeat ((first | ((with_reducible show holds _ _ _ _ (.sem (Instr.alloc 37 _ _) _ _) _); refine h_alloc zb_BabelTlv_37 fun _ _ _ => ?_) | ((with_reducible show holds _ _ _ _ (.rd (Instr.loadAt _ (.pointer _)) _ _) _); first | refine ldI (by repeat (first | exact mq0 | apply mq1 | apply mq2)) (by rfl) (by kernel_rfl) ?_ | refine la0 (by repeat (first | exact mq0 | apply mq1 | apply mq2)) (by rfl) (by kernel_rfl) ?_) | ((with_reducible show holds _ _ _ _ (.unit (Instr.storeAt _ _ _) _) _); refine stU (by repeat (first | exact Upd.here | apply Upd.there | apply Upd.right)) (by kernel_rfl) (by rfl) (by simp [Value.cells]) ?_)); try dsimp only [getL]))
      have hbl : (updBody t k).length ≤ 20 := by
        have h1 := tagB_len t
        have h2 := addrB_len (a := t.a) hn
        have h3 := nd_le hn
        unfold updBody
        simp only [List.length_append, be_length, List.length_drop, h2, List.length_cons, List.length_nil]
        omega
      refine h_call [] _ ca_octroiref06_tlv (List.Perm.refl _) (fun hl => rtlv_spec (k := 8) (ho31.rdb hl (fun x hx => by first | (simp [hx]; done) | (rw [List.mem_singleton] at hx; subst hx; simp; done))) (by omega)) ?_
      rintro v h32 ⟨A32, c32, rfl, ho32⟩
      refine ⟨fun _ => { A := A32, n := (tlvB 8 (updBody t k)).length, c := c32 }, rfl, ?_⟩
      dsimp only
      (repeat ((first | ((with_reducible show holds _ _ _ _ (.sem (Instr.alloc 37 _ _) _ _) _); refine h_alloc zb_BabelTlv_37 fun _ _ _ => ?_) | ((with_reducible show holds _ _ _ _ (.rd (Instr.loadAt _ (.pointer _)) _ _) _); first | refine ldI (by repeat (first | exact mq0 | apply mq1 | apply mq2)) (by rfl) (by kernel_rfl) ?_ | refine la0 (by repeat (first | exact mq0 | apply mq1 | apply mq2)) (by rfl) (by kernel_rfl) ?_) | ((with_reducible show holds _ _ _ _ (.unit (Instr.storeAt _ _ _) _) _); refine stU (by repeat (first | exact Upd.here | apply Upd.there | apply Upd.right)) (by kernel_rfl) (by rfl) (by simp [Value.cells]) ?_)); try dsimp only [getL]))
      refine h_append (cl_.aff _) eb_uint8 (by kernel_rfl) (cs2 := bC (tlvB 8 (updBody t k))) (ho32.rd (fun x hx => by first | (simp [hx]; done) | (rw [List.mem_singleton] at hx; subst hx; simp; done))) ho32.some_of (by simp) (bC_plain _) (m := m14) (by repeat (first | exact Pick.here | exact Pick.one | exact Pick.all | apply Pick.two | apply Pick.cons | apply Pick.app)) o14 (by (try simp only [tlvB_len, List.length_append, longB_len, be_length, List.length_cons, List.length_nil]); omega) (by omega) ?_
      intro X33 d33 m33 o33
      rw [← bC_append] at o33
      dsimp only at o33 ⊢
      (repeat ((first | ((with_reducible show holds _ _ _ _ (.sem (Instr.alloc 37 _ _) _ _) _); refine h_alloc zb_BabelTlv_37 fun _ _ _ => ?_) | ((with_reducible show holds _ _ _ _ (.rd (Instr.loadAt _ (.pointer _)) _ _) _); first | refine ldI (by repeat (first | exact mq0 | apply mq1 | apply mq2)) (by rfl) (by kernel_rfl) ?_ | refine la0 (by repeat (first | exact mq0 | apply mq1 | apply mq2)) (by rfl) (by kernel_rfl) ?_) | ((with_reducible show holds _ _ _ _ (.unit (Instr.storeAt _ _ _) _) _); refine stU (by repeat (first | exact Upd.here | apply Upd.there | apply Upd.right)) (by kernel_rfl) (by rfl) (by simp [Value.cells]) ?_)); try dsimp only [getL]))
      have hul := updW_len st hn
      refine h_stop fun hl => ?_
      rw [wrapS (by omega)]
      have hpb : partB st t = tlvB 6 ([0, 0] ++ longB t.router) ++ tlvB 8 (updBody t k) := by
        unfold partB updW rtB
        rw [if_neg (by omega), if_neg (by omega), if_pos hk2, if_pos hd, hkk]
      have hen : encW w0 (ts.take (i + 1)) = encW w0 (ts.take i) ++ tlvB 6 ([0, 0] ++ longB t.router) ++ tlvB 8 (updBody t k) := by rw [htk, encW_snoc, hst0, hpb, List.append_assoc]
      have hst : (ts.take (i + 1)).foldl partS w0 = updS t := by rw [htk, List.foldl_append, hst0]; show partS st t = _; unfold partS; rw [if_pos hk2]
      have hnx := ih (i + 1) (X33) (d33)
      rw [hen, hst] at hnx
      have hll := OwnB.len o33
      rw [List.length_append, List.length_append] at hnx
      refine hnx _ _ m33 _ (by omega) hal1 (by repeat (first | exact Pick.here | exact Pick.one | exact Pick.all | apply Pick.two | apply Pick.cons | apply Pick.app)) ?_
      exact o33
    have hro : st.router = t.router := by simp at t7; omega
    (repeat ((first | ((with_reducible show holds _ _ _ _ (.sem (Instr.alloc 37 _ _) _ _) _); refine h_alloc zb_BabelTlv_37 fun _ _ _ => ?_) | ((with_reducible show holds _ _ _ _ (.rd (Instr.loadAt _ (.pointer _)) _ _) _); first | refine ldI (by repeat (first | exact mq0 | apply mq1 | apply mq2)) (by rfl) (by kernel_rfl) ?_ | refine la0 (by repeat (first | exact mq0 | apply mq1 | apply mq2)) (by rfl) (by kernel_rfl) ?_) | ((with_reducible show holds _ _ _ _ (.unit (Instr.storeAt _ _ _) _) _); refine stU (by repeat (first | exact Upd.here | apply Upd.there | apply Upd.right)) (by kernel_rfl) (by rfl) (by simp [Value.cells]) ?_)); try dsimp only [getL]))
    obtain ⟨k, hkk⟩ : ∃ k, sqz st.last t.a (nd t.n : Nat) = k := ⟨_, rfl⟩
    refine h_call [] _ ca_octroiref06_update (List.Perm.refl _) (fun hl => rupdate_spec hok hmt hlast hkk) ?_
    rintro v h31 ⟨A31, c31, rfl, ho31⟩
    refine ⟨fun _ => { A := A31, n := (updBody t k).length, c := c31 }, rfl, ?_⟩
    dsimp only
    (repeat ((first | ((with_reducible show holds _ _ _ _ (.sem (Instr.alloc 37 _ _) _ _) _); refine h_alloc zb_BabelTlv_37 fun _ _ _ => ?_) | ((with_reducible show holds _ _ _ _ (.rd (Instr.loadAt _ (.pointer _)) _ _) _); first | refine ldI (by repeat (first | exact mq0 | apply mq1 | apply mq2)) (by rfl) (by kernel_rfl) ?_ | refine la0 (by repeat (first | exact mq0 | apply mq1 | apply mq2)) (by rfl) (by kernel_rfl) ?_) | ((with_reducible show holds _ _ _ _ (.unit (Instr.storeAt _ _ _) _) _); refine stU (by repeat (first | exact Upd.here | apply Upd.there | apply Upd.right)) (by kernel_rfl) (by rfl) (by simp [Value.cells]) ?_)); try dsimp only [getL]))
    have hbl : (updBody t k).length ≤ 20 := by
      have h1 := tagB_len t
      have h2 := addrB_len (a := t.a) hn
      have h3 := nd_le hn
      unfold updBody
      simp only [List.length_append, be_length, List.length_drop, h2, List.length_cons, List.length_nil]
      omega
    refine h_call [] _ ca_octroiref06_tlv (List.Perm.refl _) (fun hl => rtlv_spec (k := 8) (ho31.rdb hl (fun x hx => by first | (simp [hx]; done) | (rw [List.mem_singleton] at hx; subst hx; simp; done))) (by omega)) ?_
    rintro v h32 ⟨A32, c32, rfl, ho32⟩
    refine ⟨fun _ => { A := A32, n := (tlvB 8 (updBody t k)).length, c := c32 }, rfl, ?_⟩
    dsimp only
    (repeat ((first | ((with_reducible show holds _ _ _ _ (.sem (Instr.alloc 37 _ _) _ _) _); refine h_alloc zb_BabelTlv_37 fun _ _ _ => ?_) | ((with_reducible show holds _ _ _ _ (.rd (Instr.loadAt _ (.pointer _)) _ _) _); first | refine ldI (by repeat (first | exact mq0 | apply mq1 | apply mq2)) (by rfl) (by kernel_rfl) ?_ | refine la0 (by repeat (first | exact mq0 | apply mq1 | apply mq2)) (by rfl) (by kernel_rfl) ?_) | ((with_reducible show holds _ _ _ _ (.unit (Instr.storeAt _ _ _) _) _); refine stU (by repeat (first | exact Upd.here | apply Upd.there | apply Upd.right)) (by kernel_rfl) (by rfl) (by simp [Value.cells]) ?_)); try dsimp only [getL]))
    refine h_append (cl_.aff _) eb_uint8 (by kernel_rfl) (cs2 := bC (tlvB 8 (updBody t k))) (ho32.rd (fun x hx => by first | (simp [hx]; done) | (rw [List.mem_singleton] at hx; subst hx; simp; done))) ho32.some_of (by simp) (bC_plain _) (m := m) (by repeat (first | exact Pick.here | exact Pick.one | exact Pick.all | apply Pick.two | apply Pick.cons | apply Pick.app)) ho (by (try simp only [tlvB_len, List.length_append, longB_len, be_length, List.length_cons, List.length_nil]); omega) (by omega) ?_
    intro X33 d33 m33 o33
    rw [← bC_append] at o33
    dsimp only at o33 ⊢
    (repeat ((first | ((with_reducible show holds _ _ _ _ (.sem (Instr.alloc 37 _ _) _ _) _); refine h_alloc zb_BabelTlv_37 fun _ _ _ => ?_) | ((with_reducible show holds _ _ _ _ (.rd (Instr.loadAt _ (.pointer _)) _ _) _); first | refine ldI (by repeat (first | exact mq0 | apply mq1 | apply mq2)) (by rfl) (by kernel_rfl) ?_ | refine la0 (by repeat (first | exact mq0 | apply mq1 | apply mq2)) (by rfl) (by kernel_rfl) ?_) | ((with_reducible show holds _ _ _ _ (.unit (Instr.storeAt _ _ _) _) _); refine stU (by repeat (first | exact Upd.here | apply Upd.there | apply Upd.right)) (by kernel_rfl) (by rfl) (by simp [Value.cells]) ?_)); try dsimp only [getL]))
    have hul := updW_len st hn
    refine h_stop fun hl => ?_
    rw [wrapS (by omega)]
    have hpb : partB st t = tlvB 8 (updBody t k) := by
      unfold partB updW rtB
      rw [if_neg (by omega), if_neg (by omega), if_pos hk2, if_neg (by rw [hto, hro]; simp), hkk, List.nil_append]
    have hen : encW w0 (ts.take (i + 1)) = encW w0 (ts.take i) ++ tlvB 8 (updBody t k) := by rw [htk, encW_snoc, hst0, hpb]
    have hst : (ts.take (i + 1)).foldl partS w0 = updS t := by rw [htk, List.foldl_append, hst0]; show partS st t = _; unfold partS; rw [if_pos hk2]
    have hnx := ih (i + 1) X33 d33
    rw [hen, hst, List.length_append] at hnx
    rw [hto, hro]
    exact hnx _ _ m33 _ (by omega) hal1 (by repeat (first | exact Pick.here | exact Pick.one | exact Pick.all | apply Pick.two | apply Pick.cons | apply Pick.app)) o33
theorem rbencode_spec {J : Ctx} {A : Option Addr} {c : Nat} {ts : List Tlv} (hin : TlvsIn J A ts) : Fn Try.prog 13 #[.slice A ts.length c] J [] (GivesE (bencR ts)) := by
  refine r_octroiref06_Encode _ _ _ ?_
  refine h_ite (fun t1 => ?_) (fun t1 => ?_)
  · rw [show bencR ts = ([], 9) by unfold bencR; rw [if_pos (by simp at t1; omega)]]
    exact h_end0 ⟨none, 0, rfl, Own.nil _ _⟩
  have h40 : ts.length ≤ 40 := by simp at t1; omega
  refine h_stop fun hl => ?_
  exact rbenc_loop hin h40 ts.length 0 none 0 _ _ [] _ (by omega) (by simp) (Pick.nil) (Own.nil _ _)
end Go.Proofs.YtcfnliodgoenkaaS
