import Derived.Test.YtcfnliodgoenkaaN27
import Derived.Test.YtcfnliodgoenkaaTA
set_option linter.unusedVariables false
namespace Go.Proofs.YtcfnliodgoenkaaS
set_option maxHeartbeats 4000000 in
theorem qupd_spec {I : Ctx} {w : Nat} {A B : Option Addr} {c n d : Nat} {s : Dst} {m : Mem} {b : List UInt8} (ho : OwnT A c s.l m) (hs : s.ok) (hb : s.l.length ≤ 100000) (hr : RdB I B n b) (hn : n ≤ d) (hn2 : n ≤ 255) :
    Fn Try.prog 56 #[.pointer (some ⟨w, 0, none⟩), .slice B n d] I ((w, .cells (rqs A c s) 65 (0, 0)) :: m) (GivesQ w (updD s b)) := by
  have hlen := hr.len
  have hb2 := (byteAt b 2).toNat_lt
  have hb3 := (byteAt b 3).toNat_lt
  refine r_octroiref06_Reader_update _ _ _ _ ?_
  (repeat ((first | ((with_reducible show holds _ _ _ _ (.sem (Instr.alloc 34 _ _) _ _) _); refine h_alloc zb_Prefix fun _ _ _ => ?_) | ((with_reducible show holds _ _ _ _ (.sem (Instr.alloc 37 _ _) _ _) _); refine h_alloc zb_BabelTlv_37 fun _ _ _ => ?_) | ((with_reducible show holds _ _ _ _ (.rd (Instr.loadAt _ (.pointer _)) _ _) _); first | refine ldI (by repeat (first | exact mq0 | apply mq1 | apply mq2)) (by rfl) (by kernel_rfl) ?_ | refine ldL (by repeat (first | exact mq0 | apply mq1 | apply mq2)) (by rfl) (by kernel_rfl) ?_ | refine ldB (by repeat (first | exact mq0 | apply mq1 | apply mq2)) (by rfl) (by kernel_rfl) ?_ | refine la0 (by repeat (first | exact mq0 | apply mq1 | apply mq2)) (by rfl) (by kernel_rfl) ?_ | refine la1 (by repeat (first | exact mq0 | apply mq1 | apply mq2)) (by rfl) (by kernel_rfl) ?_) | ((with_reducible show holds _ _ _ _ (.unit (Instr.storeAt _ _ _) _) _); refine stU (by repeat (first | exact Upd.here | apply Upd.there | apply Upd.right)) (by kernel_rfl) (by rfl) (by simp [Value.cells]) ?_) | ((with_reducible show holds _ _ _ _ (.pin (vN (Instr.loadAt _ _)) _ _) _); first | refine pnA (by repeat (first | exact mq0 | apply mq1 | apply mq2)) (by rfl) (by kernel_rfl) ?_ | refine pn1 (by repeat (first | exact mq0 | apply mq1 | apply mq2)) (by rfl) (by kernel_rfl) ?_)); try dsimp only [getL]))
  refine h_ite (fun t0 => ?_) (fun t0 => ?_)
  · rw [show updD s b = none by unfold updD; rw [if_pos (by simpa using t0)]]
    exact h_end0 rfl
  have b0 : ¬ s.told = false := by simpa using t0
  refine h_ite (fun t1 => ?_) (fun t1 => ?_)
  · rw [show updD s b = none by unfold updD; rw [if_neg b0, if_pos (by simp at t1; omega)]]
    exact h_end0 rfl
  have b1 : ¬ b.length < 10 := by simp at t1; omega
  obtain ⟨a, rfl, hcell⟩ := hr.cells (by omega)
  refine h_byteI (e := 5) 0 ((hcell 0 _ (byteAt_in (by omega))).sub Sub.self) (by omega) rfl (by kernel_rfl) (by kernel_rfl) (by kernel_rfl) ?_
  dsimp only
  refine h_ite (fun t2 => ?_) (fun t2 => ?_)
  · rw [show updD s b = none by unfold updD; rw [if_neg b0, if_neg b1, if_pos (by intro e; rw [e] at t2; simp at t2)]]
    exact h_end0 rfl
  have b2 : ¬ byteAt b 0 ≠ 1 := by rw [Classical.not_not, ← UInt8.toNat_inj]; show _ = 1; simp at t2; omega
  refine h_byteI (e := 5) 1 ((hcell 1 _ (byteAt_in (by omega))).sub Sub.self) (by omega) rfl (by kernel_rfl) (by kernel_rfl) (by kernel_rfl) ?_
  dsimp only
  refine h_ite (fun t3 => ?_) (fun t3 => ?_)
  · rw [show updD s b = none by unfold updD; rw [if_neg b0, if_neg b1, if_neg b2, if_pos (by intro e; rw [e] at t3; simp at t3)]]
    exact h_end0 rfl
  have b3 : ¬ byteAt b 1 ≠ 128 := by rw [Classical.not_not, ← UInt8.toNat_inj]; show _ = 128; simp at t3; omega
  refine h_byteI (e := 5) 2 ((hcell 2 _ (byteAt_in (by omega))).sub Sub.self) (by omega) rfl (by kernel_rfl) (by kernel_rfl) (by kernel_rfl) ?_
  dsimp only
  refine h_ite (fun t4 => ?_) (fun t4 => ?_)
  · rw [show updD s b = none by unfold updD; rw [if_neg b0, if_neg b1, if_neg b2, if_neg b3, if_pos (by simp at t4; omega)]]
    exact h_end0 rfl
  have b4 : ¬ 32 < (byteAt b 2).toNat := by simp at t4; omega
  refine h_byteI (e := 5) 2 ((hcell 2 _ (byteAt_in (by omega))).sub Sub.self) (by omega) rfl (by kernel_rfl) (by kernel_rfl) (by kernel_rfl) ?_
  dsimp only
  have hbits := bits_le b 2
  have hnd : nd (bitsD b 2) ≤ 4 := nd_le (by unfold bitsD; omega)
  rw [wrap64 (x := (((byteAt b 2).toNat : Nat) : Int)) (by omega)]
  refine h_call0 (v := .int .i64 (nd (bitsD b 2) : Nat)) (fun _ => { i := (nd (bitsD b 2) : Nat) }) ca_octroiref06_needs (fun hl => octroiref06_needs_nd hbits) rfl ?_
  dsimp only
  refine h_byteI (e := 5) 3 ((hcell 3 _ (byteAt_in (by omega))).sub Sub.self) (by omega) rfl (by kernel_rfl) (by kernel_rfl) (by kernel_rfl) ?_
  dsimp only
  have hw0 : IntKind.wrap .i64 (((byteAt b 3).toNat : Nat) : Int) = (((byteAt b 3).toNat : Nat) : Int) := wrap64 (by omega)
  have hw1 : IntKind.wrap .i64 (10 + ((nd (bitsD b 2) : Nat) : Int)) = 10 + ((nd (bitsD b 2) : Nat) : Int) := wrap64 (by omega)
  simp only [hw0, hw1]
  refine h_ite (fun t5 => ?_) (fun t5 => ?_)
  · rw [show updD s b = none by unfold updD; rw [if_neg b0, if_neg b1, if_neg b2, if_neg b3, if_neg b4, if_pos (by simp at t5; omega)]]
    exact h_end0 rfl
  have b5 : ¬ nd (bitsD b 2) < (byteAt b 3).toNat := by simp at t5; omega
  have hnew4 : newD b ≤ 4 := by unfold newD; omega
  have hw2 : IntKind.wrap .i64 (10 + ((nd (bitsD b 2) : Nat) : Int) - ((byteAt b 3).toNat : Int)) = ((10 + newD b : Nat) : Int) := by rw [wrap64 (by omega)]; unfold newD; omega
  simp only [hw2]
  refine h_ite (fun t6 => ?_) (fun t6 => ?_)
  · rw [show updD s b = none by unfold updD; rw [if_neg b0, if_neg b1, if_neg b2, if_neg b3, if_neg b4, if_neg b5, if_pos (by simp at t6; omega)]]
    exact h_end0 rfl
  have b6 : ¬ b.length < 10 + newD b := by simp at t6; omega
  have e0 : updD s b = if okP (bitsD b 2) (wordD s b) = false then none
      else if b.length = 10 + newD b then some (updN s b 0)
      else if b.length ≠ 14 + newD b then none else if byteAt b (10 + newD b) ≠ 200 then none else if byteAt b (11 + newD b) ≠ 2 then none
      else if num b (12 + newD b) 2 = 0 then none else some (updN s b (num b (12 + newD b) 2)) := by
    unfold updD; rw [if_neg b0, if_neg b1, if_neg b2, if_neg b3, if_neg b4, if_neg b5, if_neg b6]
  (repeat ((first | ((with_reducible show holds _ _ _ _ (.sem (Instr.alloc 34 _ _) _ _) _); refine h_alloc zb_Prefix fun _ _ _ => ?_) | ((with_reducible show holds _ _ _ _ (.sem (Instr.alloc 37 _ _) _ _) _); refine h_alloc zb_BabelTlv_37 fun _ _ _ => ?_) | ((with_reducible show holds _ _ _ _ (.rd (Instr.loadAt _ (.pointer _)) _ _) _); first | refine ldI (by repeat (first | exact mq0 | apply mq1 | apply mq2)) (by rfl) (by kernel_rfl) ?_ | refine ldL (by repeat (first | exact mq0 | apply mq1 | apply mq2)) (by rfl) (by kernel_rfl) ?_ | refine ldB (by repeat (first | exact mq0 | apply mq1 | apply mq2)) (by rfl) (by kernel_rfl) ?_ | refine la0 (by repeat (first | exact mq0 | apply mq1 | apply mq2)) (by rfl) (by kernel_rfl) ?_ | refine la1 (by repeat (first | exact mq0 | apply mq1 | apply mq2)) (by rfl) (by kernel_rfl) ?_) | ((with_reducible show holds _ _ _ _ (.unit (Instr.storeAt _ _ _) _) _); refine stU (by repeat (first | exact Upd.here | apply Upd.there | apply Upd.right)) (by kernel_rfl) (by rfl) (by simp [Value.cells]) ?_) | ((with_reducible show holds _ _ _ _ (.pin (vN (Instr.loadAt _ _)) _ _) _); first | refine pnA (by repeat (first | exact mq0 | apply mq1 | apply mq2)) (by rfl) (by kernel_rfl) ?_ | refine pn1 (by repeat (first | exact mq0 | apply mq1 | apply mq2)) (by rfl) (by kernel_rfl) ?_)); try dsimp only [getL]))
  have hk4 : (byteAt b 3).toNat ≤ 4 := by omega
  have hX : ((be 4 s.last).take (byteAt b 3).toNat).length = (byteAt b 3).toNat := by rw [List.length_take, be_length]; omega
  have hY : ((b.drop 10).take (newD b)).length = newD b := by rw [List.length_take, List.length_drop]; omega
  refine h_call [] _ ca_octroiref06_addr (List.Perm.refl _) (fun hl => raddr4 hs.last hk4) ?_
  rintro v h1 ⟨A1, c1, rfl, ho1⟩
  refine ⟨fun _ => { A := A1, n := ((be 4 s.last).take (byteAt b 3).toNat).length, c := c1 }, rfl, ?_⟩
  dsimp only
  refine h_append (cl_.aff _) eb_uint8 (by kernel_rfl) (cs2 := bC ((be 4 s.last).take (byteAt b 3).toNat)) (ho1.rd (fun x hx => by first | (simp [hx]; done) | (rw [List.mem_singleton] at hx; subst hx; simp; done))) ho1.some_of (by simp) (bC_plain _) (m := []) (by repeat (first | exact Pick.here | exact Pick.one | exact Pick.all | apply Pick.two | apply Pick.cons | apply Pick.app)) (Own.nil _ _) (by omega) (by omega) ?_
  intro X5 x5 m5 ho5
  rw [Nat.zero_add, List.nil_append] at ho5
  dsimp only
  rw [Nat.zero_add]
  refine h_cut (e := 5) (sz := 1) 10 (10 + newD b) d (by kernel_rfl) (by kernel_rfl) rfl rfl rfl (by simp) (by omega) (by omega) (by omega) ?_
  dsimp only
  rw [show 10 + newD b - 10 = newD b by omega]
  have hseg : RdB I (cutA (some a) 10 d 1) (newD b) ((b.drop 10).take (newD b)) := hr.seg (by omega) hn
  refine h_append (cl_.aff _) eb_uint8 (by kernel_rfl) (cs2 := bC ((b.drop 10).take (newD b))) (hseg.rd.sub Sub.self) hseg.nil (by rw [bC_length, hY]; omega) (bC_plain _) (m := m5) (by repeat (first | exact Pick.here | exact Pick.one | exact Pick.all | apply Pick.two | apply Pick.cons | apply Pick.app)) ho5 (by omega) (by omega) ?_
  intro X6 x6 m6 ho6
  rw [← bC_append] at ho6
  have hwl : (wordD s b).length = ((be 4 s.last).take (byteAt b 3).toNat).length + newD b := by unfold wordD; rw [List.length_append, hY]
  have ho6 : OwnB X6 (wordD s b).length x6 (wordD s b) m6 := by rw [hwl]; exact ho6
  dsimp only
  rw [← hwl]
  refine h_byteI (e := 5) 2 ((hcell 2 _ (byteAt_in (by omega))).sub Sub.self) (by omega) rfl (by kernel_rfl) (by kernel_rfl) (by kernel_rfl) ?_
  dsimp only
  rw [wrap64 (x := (((byteAt b 2).toNat : Nat) : Int)) (by omega)]
  by_cases hk2 : okP (bitsD b 2) (wordD s b) = true
  case neg =>
    have hk3 : okP (bitsD b 2) (wordD s b) = false := by simpa using hk2
    refine h_call0 (getL [{ i := (rpA (bitsD b 2) (wordD s b) : Nat) }, { i := rpN (bitsD b 2) (wordD s b) }, { b := okP (bitsD b 2) (wordD s b) }]) ca_octroiref06_prefix (fun hl => rprefix_spec (n := bitsD b 2) (ho6.rdb hl (fun x hx => by first | (simp [hx]; done) | (rw [List.mem_singleton] at hx; subst hx; simp; done))) ho6.2.1 (by omega) hbits) rfl ?_
    dsimp only [getL]
    (repeat ((first | ((with_reducible show holds _ _ _ _ (.sem (Instr.alloc 34 _ _) _ _) _); refine h_alloc zb_Prefix fun _ _ _ => ?_) | ((with_reducible show holds _ _ _ _ (.sem (Instr.alloc 37 _ _) _ _) _); refine h_alloc zb_BabelTlv_37 fun _ _ _ => ?_) | ((with_reducible show holds _ _ _ _ (.rd (Instr.loadAt _ (.pointer _)) _ _) _); first | refine ldI (by repeat (first | exact mq0 | apply mq1 | apply mq2)) (by rfl) (by kernel_rfl) ?_ | refine ldL (by repeat (first | exact mq0 | apply mq1 | apply mq2)) (by rfl) (by kernel_rfl) ?_ | refine ldB (by repeat (first | exact mq0 | apply mq1 | apply mq2)) (by rfl) (by kernel_rfl) ?_ | refine la0 (by repeat (first | exact mq0 | apply mq1 | apply mq2)) (by rfl) (by kernel_rfl) ?_ | refine la1 (by repeat (first | exact mq0 | apply mq1 | apply mq2)) (by rfl) (by kernel_rfl) ?_) | ((with_reducible show holds _ _ _ _ (.unit (Instr.storeAt _ _ _) _) _); refine stU (by repeat (first | exact Upd.here | apply Upd.there | apply Upd.right)) (by kernel_rfl) (by rfl) (by simp [Value.cells]) ?_) | ((with_reducible show holds _ _ _ _ (.pin (vN (Instr.loadAt _ _)) _ _) _); first | refine pnA (by repeat (first | exact mq0 | apply mq1 | apply mq2)) (by rfl) (by kernel_rfl) ?_ | refine pn1 (by repeat (first | exact mq0 | apply mq1 | apply mq2)) (by rfl) (by kernel_rfl) ?_)); try dsimp only [getL]))
    refine h_yes (by rw [hk3]; rfl) ?_
    rw [show updD s b = none by rw [e0, if_pos hk3]]
    exact h_end0 rfl
  refine h_call0 (getL [{ i := (prefV (wordD s b) : Nat) }, { i := bitsD b 2 }, { b := true }]) ca_octroiref06_prefix (fun hl => by have h := rprefix_spec (n := bitsD b 2) (ho6.rdb hl (fun x hx => by first | (simp [hx]; done) | (rw [List.mem_singleton] at hx; subst hx; simp; done))) ho6.2.1 (by omega) hbits; rw [hk2, (rpN_ok hk2).1, (rpN_ok hk2).2] at h; exact h) rfl ?_
  dsimp only [getL]
  (repeat ((first | ((with_reducible show holds _ _ _ _ (.sem (Instr.alloc 34 _ _) _ _) _); refine h_alloc zb_Prefix fun _ _ _ => ?_) | ((with_reducible show holds _ _ _ _ (.sem (Instr.alloc 37 _ _) _ _) _); refine h_alloc zb_BabelTlv_37 fun _ _ _ => ?_) | ((with_reducible show holds _ _ _ _ (.rd (Instr.loadAt _ (.pointer _)) _ _) _); first | refine ldI (by repeat (first | exact mq0 | apply mq1 | apply mq2)) (by rfl) (by kernel_rfl) ?_ | refine ldL (by repeat (first | exact mq0 | apply mq1 | apply mq2)) (by rfl) (by kernel_rfl) ?_ | refine ldB (by repeat (first | exact mq0 | apply mq1 | apply mq2)) (by rfl) (by kernel_rfl) ?_ | refine la0 (by repeat (first | exact mq0 | apply mq1 | apply mq2)) (by rfl) (by kernel_rfl) ?_ | refine la1 (by repeat (first | exact mq0 | apply mq1 | apply mq2)) (by rfl) (by kernel_rfl) ?_) | ((with_reducible show holds _ _ _ _ (.unit (Instr.storeAt _ _ _) _) _); refine stU (by repeat (first | exact Upd.here | apply Upd.there | apply Upd.right)) (by kernel_rfl) (by rfl) (by simp [Value.cells]) ?_) | ((with_reducible show holds _ _ _ _ (.pin (vN (Instr.loadAt _ _)) _ _) _); first | refine pnA (by repeat (first | exact mq0 | apply mq1 | apply mq2)) (by rfl) (by kernel_rfl) ?_ | refine pn1 (by repeat (first | exact mq0 | apply mq1 | apply mq2)) (by rfl) (by kernel_rfl) ?_)); try dsimp only [getL]))
  refine h_no rfl ?_
  (repeat ((first | ((with_reducible show holds _ _ _ _ (.sem (Instr.alloc 34 _ _) _ _) _); refine h_alloc zb_Prefix fun _ _ _ => ?_) | ((with_reducible show holds _ _ _ _ (.sem (Instr.alloc 37 _ _) _ _) _); refine h_alloc zb_BabelTlv_37 fun _ _ _ => ?_) | ((with_reducible show holds _ _ _ _ (.rd (Instr.loadAt _ (.pointer _)) _ _) _); first | refine ldI (by repeat (first | exact mq0 | apply mq1 | apply mq2)) (by rfl) (by kernel_rfl) ?_ | refine ldL (by repeat (first | exact mq0 | apply mq1 | apply mq2)) (by rfl) (by kernel_rfl) ?_ | refine ldB (by repeat (first | exact mq0 | apply mq1 | apply mq2)) (by rfl) (by kernel_rfl) ?_ | refine la0 (by repeat (first | exact mq0 | apply mq1 | apply mq2)) (by rfl) (by kernel_rfl) ?_ | refine la1 (by repeat (first | exact mq0 | apply mq1 | apply mq2)) (by rfl) (by kernel_rfl) ?_) | ((with_reducible show holds _ _ _ _ (.unit (Instr.storeAt _ _ _) _) _); refine stU (by repeat (first | exact Upd.here | apply Upd.there | apply Upd.right)) (by kernel_rfl) (by rfl) (by simp [Value.cells]) ?_) | ((with_reducible show holds _ _ _ _ (.pin (vN (Instr.loadAt _ _)) _ _) _); first | refine pnA (by repeat (first | exact mq0 | apply mq1 | apply mq2)) (by rfl) (by kernel_rfl) ?_ | refine pn1 (by repeat (first | exact mq0 | apply mq1 | apply mq2)) (by rfl) (by kernel_rfl) ?_)); try dsimp only [getL]))
  refine h_call0 (fun _ => { i := (num b 4 2 : Nat) }) ca_octroiref06_num2 (fun hl => rnum2_in (i := 4) (hr.up (Sub.self.up hl)) hn (by unfold maxLen; omega) (by omega)) rfl ?_
  dsimp only
  (repeat ((first | ((with_reducible show holds _ _ _ _ (.sem (Instr.alloc 34 _ _) _ _) _); refine h_alloc zb_Prefix fun _ _ _ => ?_) | ((with_reducible show holds _ _ _ _ (.sem (Instr.alloc 37 _ _) _ _) _); refine h_alloc zb_BabelTlv_37 fun _ _ _ => ?_) | ((with_reducible show holds _ _ _ _ (.rd (Instr.loadAt _ (.pointer _)) _ _) _); first | refine ldI (by repeat (first | exact mq0 | apply mq1 | apply mq2)) (by rfl) (by kernel_rfl) ?_ | refine ldL (by repeat (first | exact mq0 | apply mq1 | apply mq2)) (by rfl) (by kernel_rfl) ?_ | refine ldB (by repeat (first | exact mq0 | apply mq1 | apply mq2)) (by rfl) (by kernel_rfl) ?_ | refine la0 (by repeat (first | exact mq0 | apply mq1 | apply mq2)) (by rfl) (by kernel_rfl) ?_ | refine la1 (by repeat (first | exact mq0 | apply mq1 | apply mq2)) (by rfl) (by kernel_rfl) ?_) | ((with_reducible show holds _ _ _ _ (.unit (Instr.storeAt _ _ _) _) _); refine stU (by repeat (first | exact Upd.here | apply Upd.there | apply Upd.right)) (by kernel_rfl) (by rfl) (by simp [Value.cells]) ?_) | ((with_reducible show holds _ _ _ _ (.pin (vN (Instr.loadAt _ _)) _ _) _); first | refine pnA (by repeat (first | exact mq0 | apply mq1 | apply mq2)) (by rfl) (by kernel_rfl) ?_ | refine pn1 (by repeat (first | exact mq0 | apply mq1 | apply mq2)) (by rfl) (by kernel_rfl) ?_)); try dsimp only [getL]))
  refine h_call0 (fun _ => { i := (num b 6 2 : Nat) }) ca_octroiref06_num2 (fun hl => rnum2_in (i := 6) (hr.up (Sub.self.up hl)) hn (by unfold maxLen; omega) (by omega)) rfl ?_
  dsimp only
  (repeat ((first | ((with_reducible show holds _ _ _ _ (.sem (Instr.alloc 34 _ _) _ _) _); refine h_alloc zb_Prefix fun _ _ _ => ?_) | ((with_reducible show holds _ _ _ _ (.sem (Instr.alloc 37 _ _) _ _) _); refine h_alloc zb_BabelTlv_37 fun _ _ _ => ?_) | ((with_reducible show holds _ _ _ _ (.rd (Instr.loadAt _ (.pointer _)) _ _) _); first | refine ldI (by repeat (first | exact mq0 | apply mq1 | apply mq2)) (by rfl) (by kernel_rfl) ?_ | refine ldL (by repeat (first | exact mq0 | apply mq1 | apply mq2)) (by rfl) (by kernel_rfl) ?_ | refine ldB (by repeat (first | exact mq0 | apply mq1 | apply mq2)) (by rfl) (by kernel_rfl) ?_ | refine la0 (by repeat (first | exact mq0 | apply mq1 | apply mq2)) (by rfl) (by kernel_rfl) ?_ | refine la1 (by repeat (first | exact mq0 | apply mq1 | apply mq2)) (by rfl) (by kernel_rfl) ?_) | ((with_reducible show holds _ _ _ _ (.unit (Instr.storeAt _ _ _) _) _); refine stU (by repeat (first | exact Upd.here | apply Upd.there | apply Upd.right)) (by kernel_rfl) (by rfl) (by simp [Value.cells]) ?_) | ((with_reducible show holds _ _ _ _ (.pin (vN (Instr.loadAt _ _)) _ _) _); first | refine pnA (by repeat (first | exact mq0 | apply mq1 | apply mq2)) (by rfl) (by kernel_rfl) ?_ | refine pn1 (by repeat (first | exact mq0 | apply mq1 | apply mq2)) (by rfl) (by kernel_rfl) ?_)); try dsimp only [getL]))
  refine h_call0 (fun _ => { i := (num b 8 2 : Nat) }) ca_octroiref06_num2 (fun hl => rnum2_in (i := 8) (hr.up (Sub.self.up hl)) hn (by unfold maxLen; omega) (by omega)) rfl ?_
  dsimp only
  (repeat ((first | ((with_reducible show holds _ _ _ _ (.sem (Instr.alloc 34 _ _) _ _) _); refine h_alloc zb_Prefix fun _ _ _ => ?_) | ((with_reducible show holds _ _ _ _ (.sem (Instr.alloc 37 _ _) _ _) _); refine h_alloc zb_BabelTlv_37 fun _ _ _ => ?_) | ((with_reducible show holds _ _ _ _ (.rd (Instr.loadAt _ (.pointer _)) _ _) _); first | refine ldI (by repeat (first | exact mq0 | apply mq1 | apply mq2)) (by rfl) (by kernel_rfl) ?_ | refine ldL (by repeat (first | exact mq0 | apply mq1 | apply mq2)) (by rfl) (by kernel_rfl) ?_ | refine ldB (by repeat (first | exact mq0 | apply mq1 | apply mq2)) (by rfl) (by kernel_rfl) ?_ | refine la0 (by repeat (first | exact mq0 | apply mq1 | apply mq2)) (by rfl) (by kernel_rfl) ?_ | refine la1 (by repeat (first | exact mq0 | apply mq1 | apply mq2)) (by rfl) (by kernel_rfl) ?_) | ((with_reducible show holds _ _ _ _ (.unit (Instr.storeAt _ _ _) _) _); refine stU (by repeat (first | exact Upd.here | apply Upd.there | apply Upd.right)) (by kernel_rfl) (by rfl) (by simp [Value.cells]) ?_) | ((with_reducible show holds _ _ _ _ (.pin (vN (Instr.loadAt _ _)) _ _) _); first | refine pnA (by repeat (first | exact mq0 | apply mq1 | apply mq2)) (by rfl) (by kernel_rfl) ?_ | refine pn1 (by repeat (first | exact mq0 | apply mq1 | apply mq2)) (by rfl) (by kernel_rfl) ?_)); try dsimp only [getL]))
  have n62 := num_lt b 6 2
  rw [wrap16n n62]
  refine h_cut (e := 5) (sz := 1) (10 + newD b) n d (by kernel_rfl) (by kernel_rfl) rfl rfl rfl (by simp) (by omega) (by omega) (by omega) ?_
  dsimp only
  have hr2 := hr.rest (i := 10 + newD b) (by omega) hn
  refine h_ite (fun t7 => ?_) (fun t7 => ?_)
  · have hL : ¬ b.length = 10 + newD b := by simp at t7; omega
    refine h_ite (fun t8 => ?_) (fun t8 => ?_)
    · rw [show updD s b = none by rw [e0]; simp only [hL, if_false, if_pos (show b.length ≠ 14 + newD b by simp at t8; omega), ite_self]]
      exact h_end0 rfl
    have hx0 : b.length = 14 + newD b := by simp at t8; omega
    obtain ⟨a2, ha2, hcell2⟩ := hr2.cells (by omega)
    rw [ha2] at hr2
    rw [ha2]
    refine h_byteI (e := 5) 0 ((hcell2 0 _ (byteAt_in (by rw [List.length_drop]; omega))).sub Sub.self) (by omega) rfl (by kernel_rfl) (by kernel_rfl) (by kernel_rfl) ?_
    dsimp only
    rw [byteAt_drop, Nat.add_zero]
    refine h_ite (fun t9 => ?_) (fun t9 => ?_)
    · rw [show updD s b = none by rw [e0]; simp only [if_neg hL, if_neg (show ¬ b.length ≠ 14 + newD b by omega), if_pos (show byteAt b (10 + newD b) ≠ 200 by intro e; rw [e] at t9; simp at t9), ite_self]]
      exact h_end0 rfl
    have hx1 : byteAt b (10 + newD b) = 200 := by rw [← UInt8.toNat_inj]; show _ = 200; simp at t9; omega
    refine h_byteI (e := 5) 1 ((hcell2 1 _ (byteAt_in (by rw [List.length_drop]; omega))).sub Sub.self) (by omega) rfl (by kernel_rfl) (by kernel_rfl) (by kernel_rfl) ?_
    dsimp only
    rw [byteAt_drop, show 10 + newD b + 1 = 11 + newD b by omega]
    refine h_ite (fun t10 => ?_) (fun t10 => ?_)
    · rw [show updD s b = none by rw [e0]; simp only [if_neg hL, if_neg (show ¬ b.length ≠ 14 + newD b by omega), if_neg (show ¬ byteAt b (10 + newD b) ≠ 200 by rw [hx1]; simp), if_pos (show byteAt b (11 + newD b) ≠ 2 by intro e; rw [e] at t10; simp at t10), ite_self]]
      exact h_end0 rfl
    have hx2 : byteAt b (11 + newD b) = 2 := by rw [← UInt8.toNat_inj]; show _ = 2; simp at t10; omega
    have hnt : num (b.drop (10 + newD b)) 2 2 = num b (12 + newD b) 2 := by rw [num_drop, show 10 + newD b + 2 = 12 + newD b by omega]
    have ntl := num_lt b (12 + newD b) 2
    refine h_call0 (v := .int .i64 (num (b.drop (10 + newD b)) 2 2 : Nat)) (fun _ => { i := (num b (12 + newD b) 2 : Nat) }) ca_octroiref06_num2 (fun hl => rnum2_in (i := 2) (hr2.up (Sub.self.up hl)) (by omega) (by unfold maxLen; omega) (by rw [List.length_drop]; omega)) (by rw [hnt]; rfl) ?_
    dsimp only
    refine h_ite (fun t11 => ?_) (fun t11 => ?_)
    · have hz : num b (12 + newD b) 2 = 0 := by simp at t11; omega
      rw [show updD s b = none by rw [e0]; simp [hk2, hL, hx0, hx1, hx2, hz]]
      exact h_end0 rfl
    have hz : ¬ num b (12 + newD b) 2 = 0 := by intro e; rw [e] at t11; simp at t11
    refine h_call0 (v := .int .i64 (num (b.drop (10 + newD b)) 2 2 : Nat)) (fun _ => { i := (num b (12 + newD b) 2 : Nat) }) ca_octroiref06_num2 (fun hl => rnum2_in (i := 2) (hr2.up (Sub.self.up hl)) (by omega) (by unfold maxLen; omega) (by rw [List.length_drop]; omega)) (by rw [hnt]; rfl) ?_
    dsimp only
    rw [wrap16n ntl]
    (repeat ((first | ((with_reducible show holds _ _ _ _ (.sem (Instr.alloc 34 _ _) _ _) _); refine h_alloc zb_Prefix fun _ _ _ => ?_) | ((with_reducible show holds _ _ _ _ (.sem (Instr.alloc 37 _ _) _ _) _); refine h_alloc zb_BabelTlv_37 fun _ _ _ => ?_) | ((with_reducible show holds _ _ _ _ (.rd (Instr.loadAt _ (.pointer _)) _ _) _); first | refine ldI (by repeat (first | exact mq0 | apply mq1 | apply mq2)) (by rfl) (by kernel_rfl) ?_ | refine ldL (by repeat (first | exact mq0 | apply mq1 | apply mq2)) (by rfl) (by kernel_rfl) ?_ | refine ldB (by repeat (first | exact mq0 | apply mq1 | apply mq2)) (by rfl) (by kernel_rfl) ?_ | refine la0 (by repeat (first | exact mq0 | apply mq1 | apply mq2)) (by rfl) (by kernel_rfl) ?_ | refine la1 (by repeat (first | exact mq0 | apply mq1 | apply mq2)) (by rfl) (by kernel_rfl) ?_) | ((with_reducible show holds _ _ _ _ (.unit (Instr.storeAt _ _ _) _) _); refine stU (by repeat (first | exact Upd.here | apply Upd.there | apply Upd.right)) (by kernel_rfl) (by rfl) (by simp [Value.cells]) ?_) | ((with_reducible show holds _ _ _ _ (.pin (vN (Instr.loadAt _ _)) _ _) _); first | refine pnA (by repeat (first | exact mq0 | apply mq1 | apply mq2)) (by rfl) (by kernel_rfl) ?_ | refine pn1 (by repeat (first | exact mq0 | apply mq1 | apply mq2)) (by rfl) (by kernel_rfl) ?_)); try dsimp only [getL]))
    rw [show updD s b = some (updN s b (num b (12 + newD b) 2)) by rw [e0]; simp [hk2, hx0, hx1, hx2, hz]]
    refine h_row (e := 37) ⟨(updTl s b (num b (12 + newD b) 2)).cs⟩ (by kernel_rfl) fun g10 hg10 hI10 => ?_
    dsimp only
    refine h_append (cl_.aff _) eb_BabelTlv (by kernel_rfl) (cs2 := (updTl s b (num b (12 + newD b) 2)).cs) (fun _ => ⟨_, rfl, cellsM' (by repeat (first | exact mq0 | apply mq1 | apply mq2)) rfl⟩) (by simp) rfl (by simp) (m := m) (by repeat (first | exact Pick.here | exact Pick.one | exact Pick.all | apply Pick.two | apply Pick.cons | apply Pick.app)) ho.1 (by omega) (by omega) ?_
    intro A' c' m' ho'
    (repeat ((first | ((with_reducible show holds _ _ _ _ (.sem (Instr.alloc 34 _ _) _ _) _); refine h_alloc zb_Prefix fun _ _ _ => ?_) | ((with_reducible show holds _ _ _ _ (.sem (Instr.alloc 37 _ _) _ _) _); refine h_alloc zb_BabelTlv_37 fun _ _ _ => ?_) | ((with_reducible show holds _ _ _ _ (.rd (Instr.loadAt _ (.pointer _)) _ _) _); first | refine ldI (by repeat (first | exact mq0 | apply mq1 | apply mq2)) (by rfl) (by kernel_rfl) ?_ | refine ldL (by repeat (first | exact mq0 | apply mq1 | apply mq2)) (by rfl) (by kernel_rfl) ?_ | refine ldB (by repeat (first | exact mq0 | apply mq1 | apply mq2)) (by rfl) (by kernel_rfl) ?_ | refine la0 (by repeat (first | exact mq0 | apply mq1 | apply mq2)) (by rfl) (by kernel_rfl) ?_ | refine la1 (by repeat (first | exact mq0 | apply mq1 | apply mq2)) (by rfl) (by kernel_rfl) ?_) | ((with_reducible show holds _ _ _ _ (.unit (Instr.storeAt _ _ _) _) _); refine stU (by repeat (first | exact Upd.here | apply Upd.there | apply Upd.right)) (by kernel_rfl) (by rfl) (by simp [Value.cells]) ?_) | ((with_reducible show holds _ _ _ _ (.pin (vN (Instr.loadAt _ _)) _ _) _); first | refine pnA (by repeat (first | exact mq0 | apply mq1 | apply mq2)) (by rfl) (by kernel_rfl) ?_ | refine pn1 (by repeat (first | exact mq0 | apply mq1 | apply mq2)) (by rfl) (by kernel_rfl) ?_)); try dsimp only [getL]))
    rw [rqs_upd s b (num b (12 + newD b) 2)]
    exact h_end (h1 := [(w, .cells (rqs A' c' (updN s b (num b (12 + newD b) 2))) 65 (0, 0))] ++ m') (by repeat (first | exact Pick.here | exact Pick.one | exact Pick.all | apply Pick.two | apply Pick.cons | apply Pick.app)) ⟨rfl, updN_ok s b _ hs, A', c', m', rfl, ho.snoc (updTl_ok s b hs ntl) ho'⟩
  · have hL : b.length = 10 + newD b := by simp at t7; omega
    (repeat ((first | ((with_reducible show holds _ _ _ _ (.sem (Instr.alloc 34 _ _) _ _) _); refine h_alloc zb_Prefix fun _ _ _ => ?_) | ((with_reducible show holds _ _ _ _ (.sem (Instr.alloc 37 _ _) _ _) _); refine h_alloc zb_BabelTlv_37 fun _ _ _ => ?_) | ((with_reducible show holds _ _ _ _ (.rd (Instr.loadAt _ (.pointer _)) _ _) _); first | refine ldI (by repeat (first | exact mq0 | apply mq1 | apply mq2)) (by rfl) (by kernel_rfl) ?_ | refine ldL (by repeat (first | exact mq0 | apply mq1 | apply mq2)) (by rfl) (by kernel_rfl) ?_ | refine ldB (by repeat (first | exact mq0 | apply mq1 | apply mq2)) (by rfl) (by kernel_rfl) ?_ | refine la0 (by repeat (first | exact mq0 | apply mq1 | apply mq2)) (by rfl) (by kernel_rfl) ?_ | refine la1 (by repeat (first | exact mq0 | apply mq1 | apply mq2)) (by rfl) (by kernel_rfl) ?_) | ((with_reducible show holds _ _ _ _ (.unit (Instr.storeAt _ _ _) _) _); refine stU (by repeat (first | exact Upd.here | apply Upd.there | apply Upd.right)) (by kernel_rfl) (by rfl) (by simp [Value.cells]) ?_) | ((with_reducible show holds _ _ _ _ (.pin (vN (Instr.loadAt _ _)) _ _) _); first | refine pnA (by repeat (first | exact mq0 | apply mq1 | apply mq2)) (by rfl) (by kernel_rfl) ?_ | refine pn1 (by repeat (first | exact mq0 | apply mq1 | apply mq2)) (by rfl) (by kernel_rfl) ?_)); try dsimp only [getL]))
    rw [show updD s b = some (updN s b 0) by rw [e0]; simp [hk2, hL]]
    refine h_row (e := 37) ⟨(updTl s b (0)).cs⟩ (by kernel_rfl) fun g10 hg10 hI10 => ?_
    dsimp only
    refine h_append (cl_.aff _) eb_BabelTlv (by kernel_rfl) (cs2 := (updTl s b (0)).cs) (fun _ => ⟨_, rfl, cellsM' (by repeat (first | exact mq0 | apply mq1 | apply mq2)) rfl⟩) (by simp) rfl (by simp) (m := m) (by repeat (first | exact Pick.here | exact Pick.one | exact Pick.all | apply Pick.two | apply Pick.cons | apply Pick.app)) ho.1 (by omega) (by omega) ?_
    intro A' c' m' ho'
    (repeat ((first | ((with_reducible show holds _ _ _ _ (.sem (Instr.alloc 34 _ _) _ _) _); refine h_alloc zb_Prefix fun _ _ _ => ?_) | ((with_reducible show holds _ _ _ _ (.sem (Instr.alloc 37 _ _) _ _) _); refine h_alloc zb_BabelTlv_37 fun _ _ _ => ?_) | ((with_reducible show holds _ _ _ _ (.rd (Instr.loadAt _ (.pointer _)) _ _) _); first | refine ldI (by repeat (first | exact mq0 | apply mq1 | apply mq2)) (by rfl) (by kernel_rfl) ?_ | refine ldL (by repeat (first | exact mq0 | apply mq1 | apply mq2)) (by rfl) (by kernel_rfl) ?_ | refine ldB (by repeat (first | exact mq0 | apply mq1 | apply mq2)) (by rfl) (by kernel_rfl) ?_ | refine la0 (by repeat (first | exact mq0 | apply mq1 | apply mq2)) (by rfl) (by kernel_rfl) ?_ | refine la1 (by repeat (first | exact mq0 | apply mq1 | apply mq2)) (by rfl) (by kernel_rfl) ?_) | ((with_reducible show holds _ _ _ _ (.unit (Instr.storeAt _ _ _) _) _); refine stU (by repeat (first | exact Upd.here | apply Upd.there | apply Upd.right)) (by kernel_rfl) (by rfl) (by simp [Value.cells]) ?_) | ((with_reducible show holds _ _ _ _ (.pin (vN (Instr.loadAt _ _)) _ _) _); first | refine pnA (by repeat (first | exact mq0 | apply mq1 | apply mq2)) (by rfl) (by kernel_rfl) ?_ | refine pn1 (by repeat (first | exact mq0 | apply mq1 | apply mq2)) (by rfl) (by kernel_rfl) ?_)); try dsimp only [getL]))
    rw [rqs_upd s b (0)]
    exact h_end (h1 := [(w, .cells (rqs A' c' (updN s b (0))) 65 (0, 0))] ++ m') (by repeat (first | exact Pick.here | exact Pick.one | exact Pick.all | apply Pick.two | apply Pick.cons | apply Pick.app)) ⟨rfl, updN_ok s b _ hs, A', c', m', rfl, ho.snoc (updTl_ok s b hs (by decide)) ho'⟩
end Go.Proofs.YtcfnliodgoenkaaS
