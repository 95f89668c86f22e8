import Derived.Test.YtcfnliodgoenkaaN19
import Derived.Test.YtcfnliodgoenkaaTA
set_option linter.unusedVariables false
namespace Go.Proofs.YtcfnliodgoenkaaS
theorem decR_fin {b : List UInt8} (h1 : ¬ b.length < 4) (h2 : byteAt b 0 = 42) (h3 : byteAt b 1 = 2) (h4 : num b 2 2 = b.length - 4) : decR b = finR (decD zeroD (b.drop 4)) := by
  unfold decR
  rw [if_neg h1, if_neg (by simp [h2]), if_neg (by simp [h3]), if_neg (by simp [h4])]
  rfl
theorem bdecode_spec {I : Ctx} {A : Option Addr} {n c : Nat} {b : List UInt8} (hr : RdB I A n b) (hn : n ≤ c) (hmax : n ≤ maxLen) : Fn Try.prog 16 #[.slice A n c] I [] (GivesT (decR b)) := by
  have hlen := hr.len
  have hmax2 : n ≤ 9223372036854775807 := by unfold maxLen at hmax; omega
  refine r_babelpkt_Decode _ _ _ ?_
  refine h_ite (fun t0 => ?_) (fun t0 => ?_)
  · rw [show decR b = ([], 2) by unfold decR; rw [if_pos (by simp at t0; omega)]]
    exact h_end0 ⟨none, 0, rfl, OwnT.nil⟩
  have b0 : ¬ b.length < 4 := by simp at t0; omega
  obtain ⟨a, rfl, hcell⟩ := hr.cells (by omega)
  refine h_byteI (e := 5) 0 ((hcell 0 _ (byteAt_in (by omega))).sub Sub.self) (by omega) rfl (by kernel_rfl) (by kernel_rfl) (by kernel_rfl) ?_
  dsimp only
  refine h_ite (fun t1 => ?_) (fun t1 => ?_)
  · rw [show decR b = ([], 2) by unfold decR; rw [if_neg b0, if_pos (by intro e; rw [e] at t1; simp at t1)]]
    exact h_end0 ⟨none, 0, rfl, OwnT.nil⟩
  have b1 : byteAt b 0 = 42 := by rw [← UInt8.toNat_inj]; show _ = 42; simp at t1; omega
  refine h_byteI (e := 5) 1 ((hcell 1 _ (byteAt_in (by omega))).sub Sub.self) (by omega) rfl (by kernel_rfl) (by kernel_rfl) (by kernel_rfl) ?_
  dsimp only
  refine h_ite (fun t2 => ?_) (fun t2 => ?_)
  · rw [show decR b = ([], 2) by unfold decR; rw [if_neg b0, if_neg (by simp [b1]), if_pos (by intro e; rw [e] at t2; simp at t2)]]
    exact h_end0 ⟨none, 0, rfl, OwnT.nil⟩
  have b2 : byteAt b 1 = 2 := by rw [← UInt8.toNat_inj]; show _ = 2; simp at t2; omega
  refine h_call0 (fun _ => { i := (num b 2 2 : Nat) }) ca_babelpkt_at2 (fun hl => at2_in (i := 2) (hr.up (Sub.self.up hl)) hn hmax (by omega) (by omega)) rfl ?_
  dsimp only
  have hw : IntKind.wrap .i64 (((n : Nat) : Int) - 4) = ((b.length - 4 : Nat) : Int) := by rw [wrap64 (by omega)]; omega
  rw [hw]
  refine h_ite (fun t3 => ?_) (fun t3 => ?_)
  · rw [show decR b = ([], 2) by unfold decR; rw [if_neg b0, if_neg (by simp [b1]), if_neg (by simp [b2]), if_pos (by simp at t3; omega)]]
    exact h_end0 ⟨none, 0, rfl, OwnT.nil⟩
  have b3 : num b 2 2 = b.length - 4 := by simp at t3; omega
  have n22 := num_lt b 2 2
  rw [decR_fin b0 b1 b2 b3]
  (repeat ((first | ((with_reducible show holds _ _ _ _ (.sem (Instr.alloc 61 _ _) _ _) _); refine h_alloc zb_reader fun _ _ _ => ?_) | ((with_reducible show holds _ _ _ _ (.rd (Instr.loadAt _ (.pointer _)) _ _) _); first | refine ldI (by repeat (first | exact mq0 | apply mq1 | apply mq2)) (by rfl) (by kernel_rfl) ?_ | refine la0 (by repeat (first | exact mq0 | apply mq1 | apply mq2)) (by rfl) (by kernel_rfl) ?_)); try dsimp only [getL]))
  refine h_cut (e := 5) (sz := 1) 4 n c (by kernel_rfl) (by kernel_rfl) rfl rfl rfl (by simp) (by omega) (by omega) (by omega) ?_
  dsimp only
  refine h_stop fun hl2 => ?_
  exact bdec_one (b.drop 4) zeroD _ _ _ _ _ none 0 _ [] _ (hr.rest (by omega) hn) (by omega) (by simp [zeroD]; omega) ⟨by decide, by decide⟩ OwnT.nil (by repeat (first | exact Pick.here | exact Pick.one | exact Pick.all | apply Pick.two | apply Pick.cons | apply Pick.app))
theorem tsame_loop {I : Ctx} {A1 A2 : Option Addr} {k1 k2 : Nat} {es fs : List Tlv} (he : TlvsIn I A1 es) (hf : TlvsIn I A2 fs) (hl : es.length = fs.length) (hbd : es.length ≤ 1000000) :
    ∀ (q i : Nat) (u : Nat → Value), i + q = es.length →
    Wp Try.prog 18 k_octroiref06_Same_1 (t_octroiref06_Same_1 A1 es.length k1 A2 fs.length k2 i u) I []
      (cl_ fun v h' => (∃ b : Bool, v = .bool b ∧ (b = true ↔ es.drop i = fs.drop i)) ∧ h' = []) := by
  intro q
  induction q with
  | zero =>
    intro i u hi
    refine r_octroiref06_Same_1 _ _ _ _ _ _ _ _ ?_
    refine h_no (by simp; omega) ?_
    exact h_end0 ⟨⟨true, rfl, by rw [List.drop_of_length_le (by omega), List.drop_of_length_le (by omega)]; simp⟩, rfl⟩
  | succ q ih =>
    intro i u hi
    have h1 : i < es.length := by omega
    have h2 : i < fs.length := by omega
    obtain ⟨a1, rfl, ho1, hc1⟩ := he.get h1
    obtain ⟨a2, rfl, ho2, hc2⟩ := hf.get h2
    refine r_octroiref06_Same_1 _ _ _ _ _ _ _ _ ?_
    refine h_yes (by simp; omega) ?_
    refine h_index (e := 37) a1 (sz := 9) (by kernel_rfl) (by kernel_rfl) (by omega) (by omega) rfl ?_
    dsimp only
    rw [Int.toNat_natCast]
    refine h_loadA (cs := es[i].cs) es[i].ls (by kernel_rfl) (by kernel_rfl) (hc1.sub Sub.self) rfl ?_
    refine h_index (e := 37) a2 (sz := 9) (by kernel_rfl) (by kernel_rfl) (by omega) (by omega) rfl ?_
    dsimp only
    rw [Int.toNat_natCast]
    refine h_loadA (cs := fs[i].cs) fs[i].ls (by kernel_rfl) (by kernel_rfl) (hc2.sub Sub.self) rfl ?_
    refine h_neqA (eqT es[i] fs[i]) (by kernel_rfl) (by kernel_rfl) ?_
    dsimp only
    have hd1 : es.drop i = es[i] :: es.drop (i + 1) := List.drop_eq_getElem_cons h1
    have hd2 : fs.drop i = fs[i] :: fs.drop (i + 1) := List.drop_eq_getElem_cons h2
    refine h_ite (fun t => ?_) (fun t => ?_)
    · refine h_end0 ⟨⟨false, rfl, ?_⟩, rfl⟩
      have : ¬ es[i] = fs[i] := fun e => by rw [(eqT_iff _ _).2 e] at t; cases t
      refine ⟨fun h => (by cases h), fun h => ?_⟩
      rw [hd1, hd2] at h
      injection h with h
      exact absurd h this
    · have e := (eqT_iff es[i] fs[i]).1 (by simpa only [Bool.not_eq_false'] using t)
      refine h_stop fun hlv => ?_
      rw [wrapS (by omega)]
      refine (ih (i + 1) _ (by omega)).mono fun v h' ⟨m, g, hp, ⟨b, hv, hb⟩, hm⟩ => ⟨m, g, hp, ⟨b, hv, ?_⟩, hm⟩
      rw [hb]
      refine ⟨fun h => by rw [hd1, hd2, e, h], fun h => ?_⟩
      rw [hd1, hd2] at h
      injection h
theorem tsame_spec {I : Ctx} {A1 A2 : Option Addr} {k1 k2 : Nat} {es fs : List Tlv} (he : TlvsIn I A1 es) (hf : TlvsIn I A2 fs) (hbd : es.length ≤ 1000000) :
    Fn Try.prog 18 #[.slice A1 es.length k1, .slice A2 fs.length k2] I [] (fun v h' => (∃ b : Bool, v = .bool b ∧ (b = true ↔ es = fs)) ∧ h' = []) := by
  refine r_octroiref06_Same _ _ _ _ _ _ ?_
  refine h_ite (fun t => ?_) (fun t => ?_)
  · refine h_end0 ⟨⟨false, rfl, ?_⟩, rfl⟩
    simp only [Bool.false_eq_true, false_iff]
    intro e
    rw [e] at t
    simp at t
  have e3 : es.length = fs.length := by simp at t; omega
  refine h_stop fun hlv => ?_
  refine (tsame_loop he hf e3 hbd es.length 0 _ (by omega)).mono fun v h' ⟨m, g, hp, ⟨b, hv, hb⟩, hm⟩ => ⟨m, g, hp, ⟨b, hv, ?_⟩, hm⟩
  rw [hb]
  simp
end Go.Proofs.YtcfnliodgoenkaaS
