import Derived.Test.YtcfnliodgoenkaaN16
import Derived.Test.YtcfnliodgoenkaaTA
set_option linter.unusedVariables false
namespace Go.Proofs.YtcfnliodgoenkaaS
set_option maxHeartbeats 2000000 in
theorem rasks_spec {I : Ctx} {w : Nat} {A B : Option Addr} {c n d : Nat} {s : Dst} {m : Mem} {k : UInt8} {b : List UInt8} (ho : OwnT A c s.l m) (hs : s.ok) (hb : s.l.length ≤ 100000) (hr : RdB I B n b) (hn : n ≤ d) (hn2 : n ≤ 255) (hk : k = 9 ∨ k = 10) :
    Fn Try.prog 53 #[.pointer (some ⟨w, 0, none⟩), .int .u8 ((k.toNat : Nat) : Int), .slice B n d] I ((w, .cells (rcs A c s) 61 (0, 0)) :: m) (GivesR w (askD s k b)) := by
  have hlen := hr.len
  have hb1 := (byteAt b 1).toNat_lt
  have hb4 := (byteAt b 4).toNat_lt
  refine r_babelpkt_reader_asks _ _ _ _ _ ?_
  (repeat ((first | ((with_reducible show holds _ _ _ _ (.sem (Instr.alloc 34 _ _) _ _) _); refine h_alloc zb_Prefix fun _ _ _ => ?_) | ((with_reducible show holds _ _ _ _ (.sem (Instr.alloc 37 _ _) _ _) _); refine h_alloc zb_BabelTlv_37 fun _ _ _ => ?_) | ((with_reducible show holds _ _ _ _ (.rd (Instr.loadAt _ (.pointer _)) _ _) _); first | refine ldI (by repeat (first | exact mq0 | apply mq1 | apply mq2)) (by rfl) (by kernel_rfl) ?_ | refine ldL (by repeat (first | exact mq0 | apply mq1 | apply mq2)) (by rfl) (by kernel_rfl) ?_ | refine la0 (by repeat (first | exact mq0 | apply mq1 | apply mq2)) (by rfl) (by kernel_rfl) ?_ | refine la1 (by repeat (first | exact mq0 | apply mq1 | apply mq2)) (by rfl) (by kernel_rfl) ?_) | ((with_reducible show holds _ _ _ _ (.unit (Instr.storeAt _ _ _) _) _); refine stU (by repeat (first | exact Upd.here | apply Upd.there | apply Upd.right)) (by kernel_rfl) (by rfl) (by simp [Value.cells]) ?_) | ((with_reducible show holds _ _ _ _ (.pin (vN (Instr.loadAt _ _)) _ _) _); first | refine pnA (by repeat (first | exact mq0 | apply mq1 | apply mq2)) (by rfl) (by kernel_rfl) ?_ | refine pn1 (by repeat (first | exact mq0 | apply mq1 | apply mq2)) (by rfl) (by kernel_rfl) ?_)); try dsimp only [getL]))
  refine h_ite (fun t0 => ?_) (fun t0 => ?_)
  · rw [show askD s k b = none by unfold askD; rw [if_pos (by simp at t0; omega)]]
    exact h_end0 rfl
  have h2 : 2 ≤ b.length := by simp at t0; omega
  obtain ⟨a, rfl, hcell⟩ := hr.cells (by omega)
  refine h_byteI (e := 5) 0 ((hcell 0 _ (byteAt_in (by omega))).sub Sub.self) (by omega) rfl (by kernel_rfl) (by kernel_rfl) (by kernel_rfl) ?_
  dsimp only
  refine h_ite (fun t1 => ?_) (fun t1 => ?_)
  · rw [show askD s k b = none by unfold askD; rw [if_neg (by omega), if_pos (by intro e; rw [e] at t1; simp at t1)]]
    exact h_end0 rfl
  have b0 : byteAt b 0 = 1 := by rw [← UInt8.toNat_inj]; show _ = 1; simp at t1; omega
  refine h_byteI (e := 5) 1 ((hcell 1 _ (byteAt_in (by omega))).sub Sub.self) (by omega) rfl (by kernel_rfl) (by kernel_rfl) (by kernel_rfl) ?_
  dsimp only
  refine h_ite (fun t2 => ?_) (fun t2 => ?_)
  · rw [show askD s k b = none by unfold askD; rw [if_neg (by omega), if_neg (by simp [b0]), if_pos (by simp at t2; omega)]]
    exact h_end0 rfl
  have b1 : (byteAt b 1).toNat ≤ 32 := by simp at t2; omega
  have e0 : ∀ k, askD s k b = if k = 10 then (if b.length < 14 then none else if byteAt b 5 ≠ 0 then none else if okP (bitsD b 1) (b.drop 14) = true then some (s.add (askST b)) else none)
      else if okP (bitsD b 1) (b.drop 2) = true then some (s.add (askT b)) else none := fun k => by
    unfold askD; rw [if_neg (by omega), if_neg (by simp [b0]), if_neg (by omega)]
  have n22 := num_lt b 2 2
  rcases hk with rfl | rfl
  · refine h_no (by decide) ?_
    refine h_no (by decide) ?_
    have b5 := b0
    have h14 := h2
    refine h_byteI (e := 5) 1 ((hcell 1 _ (byteAt_in (by omega))).sub Sub.self) (by omega) rfl (by kernel_rfl) (by kernel_rfl) (by kernel_rfl) ?_
    dsimp only
    refine h_cut (e := 5) (sz := 1) 2 n d (by kernel_rfl) (by kernel_rfl) rfl rfl rfl (by simp) (by omega) (by omega) (by omega) ?_
    dsimp only
    rw [wrap64 (x := (((byteAt b 1).toNat : Nat) : Int)) (by omega)]
    refine h_call0 (getL [{ i := (prefV (b.drop 2) : Nat) }, { i := bitsD b 1 }, { b := okP (bitsD b 1) (b.drop 2) }]) ca_babelpkt_prefixOf (fun hl => prefixOf_spec (n := bitsD b 1) ((hr.rest (i := 2) (by omega) hn).up (Sub.self.up hl)) (by omega) (bits_le b 1)) rfl ?_
    dsimp only [getL]
    (repeat ((first | ((with_reducible show holds _ _ _ _ (.sem (Instr.alloc 34 _ _) _ _) _); refine h_alloc zb_Prefix fun _ _ _ => ?_) | ((with_reducible show holds _ _ _ _ (.sem (Instr.alloc 37 _ _) _ _) _); refine h_alloc zb_BabelTlv_37 fun _ _ _ => ?_) | ((with_reducible show holds _ _ _ _ (.rd (Instr.loadAt _ (.pointer _)) _ _) _); first | refine ldI (by repeat (first | exact mq0 | apply mq1 | apply mq2)) (by rfl) (by kernel_rfl) ?_ | refine ldL (by repeat (first | exact mq0 | apply mq1 | apply mq2)) (by rfl) (by kernel_rfl) ?_ | refine la0 (by repeat (first | exact mq0 | apply mq1 | apply mq2)) (by rfl) (by kernel_rfl) ?_ | refine la1 (by repeat (first | exact mq0 | apply mq1 | apply mq2)) (by rfl) (by kernel_rfl) ?_) | ((with_reducible show holds _ _ _ _ (.unit (Instr.storeAt _ _ _) _) _); refine stU (by repeat (first | exact Upd.here | apply Upd.there | apply Upd.right)) (by kernel_rfl) (by rfl) (by simp [Value.cells]) ?_) | ((with_reducible show holds _ _ _ _ (.pin (vN (Instr.loadAt _ _)) _ _) _); first | refine pnA (by repeat (first | exact mq0 | apply mq1 | apply mq2)) (by rfl) (by kernel_rfl) ?_ | refine pn1 (by repeat (first | exact mq0 | apply mq1 | apply mq2)) (by rfl) (by kernel_rfl) ?_)); try dsimp only [getL]))
    refine h_row (e := 37) ⟨(askT b).cs⟩ (by kernel_rfl) fun g10 hg10 hI10 => ?_
    dsimp only
    refine h_append (cl_.aff _) eb_BabelTlv (by kernel_rfl) (cs2 := (askT b).cs) (fun _ => ⟨_, rfl, cellsM' (by repeat (first | exact mq0 | apply mq1 | apply mq2)) rfl⟩) (by simp) rfl (by simp) (m := m) (by repeat (first | exact Pick.here | exact Pick.one | exact Pick.all | apply Pick.two | apply Pick.cons | apply Pick.app)) ho.1 (by omega) (by omega) ?_
    intro A' c' m' ho'
    (repeat ((first | ((with_reducible show holds _ _ _ _ (.sem (Instr.alloc 34 _ _) _ _) _); refine h_alloc zb_Prefix fun _ _ _ => ?_) | ((with_reducible show holds _ _ _ _ (.sem (Instr.alloc 37 _ _) _ _) _); refine h_alloc zb_BabelTlv_37 fun _ _ _ => ?_) | ((with_reducible show holds _ _ _ _ (.rd (Instr.loadAt _ (.pointer _)) _ _) _); first | refine ldI (by repeat (first | exact mq0 | apply mq1 | apply mq2)) (by rfl) (by kernel_rfl) ?_ | refine ldL (by repeat (first | exact mq0 | apply mq1 | apply mq2)) (by rfl) (by kernel_rfl) ?_ | refine la0 (by repeat (first | exact mq0 | apply mq1 | apply mq2)) (by rfl) (by kernel_rfl) ?_ | refine la1 (by repeat (first | exact mq0 | apply mq1 | apply mq2)) (by rfl) (by kernel_rfl) ?_) | ((with_reducible show holds _ _ _ _ (.unit (Instr.storeAt _ _ _) _) _); refine stU (by repeat (first | exact Upd.here | apply Upd.there | apply Upd.right)) (by kernel_rfl) (by rfl) (by simp [Value.cells]) ?_) | ((with_reducible show holds _ _ _ _ (.pin (vN (Instr.loadAt _ _)) _ _) _); first | refine pnA (by repeat (first | exact mq0 | apply mq1 | apply mq2)) (by rfl) (by kernel_rfl) ?_ | refine pn1 (by repeat (first | exact mq0 | apply mq1 | apply mq2)) (by rfl) (by kernel_rfl) ?_)); try dsimp only [getL]))
    rw [rcs_add s (askT b)]
    by_cases hk2 : okP (bitsD b 1) (b.drop 2) = true
    · rw [show askD s 9 b = some (s.add (askT b)) by rw [e0]; simp [hk2, b5, h14], hk2]
      exact h_end (h1 := [(w, .cells (rcs A' c' (s.add (askT b))) 61 (0, 0))] ++ m') (by repeat (first | exact Pick.here | exact Pick.one | exact Pick.all | apply Pick.two | apply Pick.cons | apply Pick.app)) ⟨rfl, ⟨hs.router, hs.last⟩, A', c', m', rfl, ho.snoc (askT_ok b) ho'⟩
    · rw [show askD s 9 b = none by rw [e0]; simp [hk2, b5, h14], show okP (bitsD b 1) (b.drop 2) = false by simpa using hk2]
      exact h_end0 rfl
  · refine h_yes (by decide) ?_
    refine h_ite (fun t3 => ?_) (fun t3 => ?_)
    · rw [show askD s 10 b = none by rw [e0, if_pos rfl, if_pos (by simp at t3; omega)]]
      exact h_end0 rfl
    have h14 : 14 ≤ b.length := by simp at t3; omega
    refine h_byteI (e := 5) 5 ((hcell 5 _ (byteAt_in (by omega))).sub Sub.self) (by omega) rfl (by kernel_rfl) (by kernel_rfl) (by kernel_rfl) ?_
    dsimp only
    refine h_ite (fun t4 => ?_) (fun t4 => ?_)
    · rw [show askD s 10 b = none by rw [e0, if_pos rfl, if_neg (by omega), if_pos (by intro e; rw [e] at t4; simp at t4)]]
      exact h_end0 rfl
    have b5 : byteAt b 5 = 0 := by rw [← UInt8.toNat_inj]; show _ = 0; simp at t4; omega
    refine h_yes (by decide) ?_
    refine h_byteI (e := 5) 4 ((hcell 4 _ (byteAt_in (by omega))).sub Sub.self) (by omega) rfl (by kernel_rfl) (by kernel_rfl) (by kernel_rfl) ?_
    dsimp only
    refine h_call0 (fun _ => { i := (num b 2 2 : Nat) }) ca_babelpkt_at2 (fun hl => at2_in (i := 2) (hr.up (Sub.self.up hl)) hn (by unfold maxLen; omega) (by omega) (by omega)) rfl ?_
    dsimp only
    (repeat ((first | ((with_reducible show holds _ _ _ _ (.sem (Instr.alloc 34 _ _) _ _) _); refine h_alloc zb_Prefix fun _ _ _ => ?_) | ((with_reducible show holds _ _ _ _ (.sem (Instr.alloc 37 _ _) _ _) _); refine h_alloc zb_BabelTlv_37 fun _ _ _ => ?_) | ((with_reducible show holds _ _ _ _ (.rd (Instr.loadAt _ (.pointer _)) _ _) _); first | refine ldI (by repeat (first | exact mq0 | apply mq1 | apply mq2)) (by rfl) (by kernel_rfl) ?_ | refine ldL (by repeat (first | exact mq0 | apply mq1 | apply mq2)) (by rfl) (by kernel_rfl) ?_ | refine la0 (by repeat (first | exact mq0 | apply mq1 | apply mq2)) (by rfl) (by kernel_rfl) ?_ | refine la1 (by repeat (first | exact mq0 | apply mq1 | apply mq2)) (by rfl) (by kernel_rfl) ?_) | ((with_reducible show holds _ _ _ _ (.unit (Instr.storeAt _ _ _) _) _); refine stU (by repeat (first | exact Upd.here | apply Upd.there | apply Upd.right)) (by kernel_rfl) (by rfl) (by simp [Value.cells]) ?_) | ((with_reducible show holds _ _ _ _ (.pin (vN (Instr.loadAt _ _)) _ _) _); first | refine pnA (by repeat (first | exact mq0 | apply mq1 | apply mq2)) (by rfl) (by kernel_rfl) ?_ | refine pn1 (by repeat (first | exact mq0 | apply mq1 | apply mq2)) (by rfl) (by kernel_rfl) ?_)); try dsimp only [getL]))
    refine h_pinC ((hcell 4 _ (byteAt_in (by omega))).sub Sub.self) (by kernel_rfl) ?_
    refine h_pinI (e := 5) 4 (by omega) rfl (by kernel_rfl) (by kernel_rfl) ?_
    refine h_call0 (fun _ => { i := (num8N b 6 : Nat) }) ca_babelpkt_at8 (fun hl => at8_in (i := 6) (hr.up (Sub.self.up hl)) hn (by unfold maxLen; omega) (by omega) (by omega)) rfl ?_
    dsimp only
    refine h_pinC ((hcell 4 _ (byteAt_in (by omega))).sub Sub.self) (by kernel_rfl) ?_
    refine h_pinI (e := 5) 4 (by omega) rfl (by kernel_rfl) (by kernel_rfl) ?_
    rw [wrap16n n22, wrap64 (x := (((byteAt b 4).toNat : Nat) : Int)) (by omega)]
    (repeat ((first | ((with_reducible show holds _ _ _ _ (.sem (Instr.alloc 34 _ _) _ _) _); refine h_alloc zb_Prefix fun _ _ _ => ?_) | ((with_reducible show holds _ _ _ _ (.sem (Instr.alloc 37 _ _) _ _) _); refine h_alloc zb_BabelTlv_37 fun _ _ _ => ?_) | ((with_reducible show holds _ _ _ _ (.rd (Instr.loadAt _ (.pointer _)) _ _) _); first | refine ldI (by repeat (first | exact mq0 | apply mq1 | apply mq2)) (by rfl) (by kernel_rfl) ?_ | refine ldL (by repeat (first | exact mq0 | apply mq1 | apply mq2)) (by rfl) (by kernel_rfl) ?_ | refine la0 (by repeat (first | exact mq0 | apply mq1 | apply mq2)) (by rfl) (by kernel_rfl) ?_ | refine la1 (by repeat (first | exact mq0 | apply mq1 | apply mq2)) (by rfl) (by kernel_rfl) ?_) | ((with_reducible show holds _ _ _ _ (.unit (Instr.storeAt _ _ _) _) _); refine stU (by repeat (first | exact Upd.here | apply Upd.there | apply Upd.right)) (by kernel_rfl) (by rfl) (by simp [Value.cells]) ?_) | ((with_reducible show holds _ _ _ _ (.pin (vN (Instr.loadAt _ _)) _ _) _); first | refine pnA (by repeat (first | exact mq0 | apply mq1 | apply mq2)) (by rfl) (by kernel_rfl) ?_ | refine pn1 (by repeat (first | exact mq0 | apply mq1 | apply mq2)) (by rfl) (by kernel_rfl) ?_)); try dsimp only [getL]))
    refine h_byteI (e := 5) 1 ((hcell 1 _ (byteAt_in (by omega))).sub Sub.self) (by omega) rfl (by kernel_rfl) (by kernel_rfl) (by kernel_rfl) ?_
    dsimp only
    refine h_cut (e := 5) (sz := 1) 14 n d (by kernel_rfl) (by kernel_rfl) rfl rfl rfl (by simp) (by omega) (by omega) (by omega) ?_
    dsimp only
    rw [wrap64 (x := (((byteAt b 1).toNat : Nat) : Int)) (by omega)]
    refine h_call0 (getL [{ i := (prefV (b.drop 14) : Nat) }, { i := bitsD b 1 }, { b := okP (bitsD b 1) (b.drop 14) }]) ca_babelpkt_prefixOf (fun hl => prefixOf_spec (n := bitsD b 1) ((hr.rest (i := 14) (by omega) hn).up (Sub.self.up hl)) (by omega) (bits_le b 1)) rfl ?_
    dsimp only [getL]
    (repeat ((first | ((with_reducible show holds _ _ _ _ (.sem (Instr.alloc 34 _ _) _ _) _); refine h_alloc zb_Prefix fun _ _ _ => ?_) | ((with_reducible show holds _ _ _ _ (.sem (Instr.alloc 37 _ _) _ _) _); refine h_alloc zb_BabelTlv_37 fun _ _ _ => ?_) | ((with_reducible show holds _ _ _ _ (.rd (Instr.loadAt _ (.pointer _)) _ _) _); first | refine ldI (by repeat (first | exact mq0 | apply mq1 | apply mq2)) (by rfl) (by kernel_rfl) ?_ | refine ldL (by repeat (first | exact mq0 | apply mq1 | apply mq2)) (by rfl) (by kernel_rfl) ?_ | refine la0 (by repeat (first | exact mq0 | apply mq1 | apply mq2)) (by rfl) (by kernel_rfl) ?_ | refine la1 (by repeat (first | exact mq0 | apply mq1 | apply mq2)) (by rfl) (by kernel_rfl) ?_) | ((with_reducible show holds _ _ _ _ (.unit (Instr.storeAt _ _ _) _) _); refine stU (by repeat (first | exact Upd.here | apply Upd.there | apply Upd.right)) (by kernel_rfl) (by rfl) (by simp [Value.cells]) ?_) | ((with_reducible show holds _ _ _ _ (.pin (vN (Instr.loadAt _ _)) _ _) _); first | refine pnA (by repeat (first | exact mq0 | apply mq1 | apply mq2)) (by rfl) (by kernel_rfl) ?_ | refine pn1 (by repeat (first | exact mq0 | apply mq1 | apply mq2)) (by rfl) (by kernel_rfl) ?_)); try dsimp only [getL]))
    refine h_row (e := 37) ⟨(askST b).cs⟩ (by kernel_rfl) fun g10 hg10 hI10 => ?_
    dsimp only
    refine h_append (cl_.aff _) eb_BabelTlv (by kernel_rfl) (cs2 := (askST b).cs) (fun _ => ⟨_, rfl, cellsM' (by repeat (first | exact mq0 | apply mq1 | apply mq2)) rfl⟩) (by simp) rfl (by simp) (m := m) (by repeat (first | exact Pick.here | exact Pick.one | exact Pick.all | apply Pick.two | apply Pick.cons | apply Pick.app)) ho.1 (by omega) (by omega) ?_
    intro A' c' m' ho'
    (repeat ((first | ((with_reducible show holds _ _ _ _ (.sem (Instr.alloc 34 _ _) _ _) _); refine h_alloc zb_Prefix fun _ _ _ => ?_) | ((with_reducible show holds _ _ _ _ (.sem (Instr.alloc 37 _ _) _ _) _); refine h_alloc zb_BabelTlv_37 fun _ _ _ => ?_) | ((with_reducible show holds _ _ _ _ (.rd (Instr.loadAt _ (.pointer _)) _ _) _); first | refine ldI (by repeat (first | exact mq0 | apply mq1 | apply mq2)) (by rfl) (by kernel_rfl) ?_ | refine ldL (by repeat (first | exact mq0 | apply mq1 | apply mq2)) (by rfl) (by kernel_rfl) ?_ | refine la0 (by repeat (first | exact mq0 | apply mq1 | apply mq2)) (by rfl) (by kernel_rfl) ?_ | refine la1 (by repeat (first | exact mq0 | apply mq1 | apply mq2)) (by rfl) (by kernel_rfl) ?_) | ((with_reducible show holds _ _ _ _ (.unit (Instr.storeAt _ _ _) _) _); refine stU (by repeat (first | exact Upd.here | apply Upd.there | apply Upd.right)) (by kernel_rfl) (by rfl) (by simp [Value.cells]) ?_) | ((with_reducible show holds _ _ _ _ (.pin (vN (Instr.loadAt _ _)) _ _) _); first | refine pnA (by repeat (first | exact mq0 | apply mq1 | apply mq2)) (by rfl) (by kernel_rfl) ?_ | refine pn1 (by repeat (first | exact mq0 | apply mq1 | apply mq2)) (by rfl) (by kernel_rfl) ?_)); try dsimp only [getL]))
    rw [rcs_add s (askST b)]
    by_cases hk2 : okP (bitsD b 1) (b.drop 14) = true
    · rw [show askD s 10 b = some (s.add (askST b)) by rw [e0]; simp [hk2, b5, h14], hk2]
      exact h_end (h1 := [(w, .cells (rcs A' c' (s.add (askST b))) 61 (0, 0))] ++ m') (by repeat (first | exact Pick.here | exact Pick.one | exact Pick.all | apply Pick.two | apply Pick.cons | apply Pick.app)) ⟨rfl, ⟨hs.router, hs.last⟩, A', c', m', rfl, ho.snoc (askST_ok b) ho'⟩
    · rw [show askD s 10 b = none by rw [e0]; simp [hk2, b5, h14], show okP (bitsD b 1) (b.drop 14) = false by simpa using hk2]
      exact h_end0 rfl
end Go.Proofs.YtcfnliodgoenkaaS
