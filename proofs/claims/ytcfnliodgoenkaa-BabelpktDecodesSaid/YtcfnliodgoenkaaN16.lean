import Derived.Test.YtcfnliodgoenkaaN15
import Derived.Test.YtcfnliodgoenkaaTA
set_option linter.unusedVariables false
namespace Go.Proofs.YtcfnliodgoenkaaS
theorem rcs_add {A A' : Option Addr} {c c' : Nat} (s : Dst) (t : Tlv) : wr (rcs A c s) (0 + 4) (Value.slice A' (s.l.length + 1) c').cells.toList = rcs A' c' (s.add t) := by
  have e : (s.add t).l.length = s.l.length + 1 := by simp [Dst.add]
  unfold rcs
  rw [e]
  rfl
theorem rshort_spec {I : Ctx} {w : Nat} {A B : Option Addr} {c n d : Nat} {s : Dst} {m : Mem} {k : UInt8} {b : List UInt8} (ho : OwnT A c s.l m) (hs : s.ok) (hb : s.l.length ≤ 100000) (hr : RdB I B n b) (hn : n ≤ d) (hn2 : n ≤ 255) (hk : k = 4 ∨ k = 5 ∨ k = 6) :
    Fn Try.prog 51 #[.pointer (some ⟨w, 0, none⟩), .int .u8 ((k.toNat : Nat) : Int), .slice B n d] I ((w, .cells (rcs A c s) 61 (0, 0)) :: m) (GivesR w (shortD s k b)) := by
  have hlen := hr.len
  refine r_babelpkt_reader_short _ _ _ _ _ ?_
  refine h_ite (fun t0 => ?_) (fun t0 => ?_)
  · rw [show shortD s k b = none by unfold shortD; rw [if_pos (by simp at t0; omega)]]
    exact h_end0 rfl
  have h2 : 2 ≤ b.length := by simp at t0; omega
  obtain ⟨a, rfl, hcell⟩ := hr.cells (by omega)
  refine h_byteI (e := 5) 0 ((hcell 0 _ (byteAt_in (by omega))).sub Sub.self) (by omega) rfl (by kernel_rfl) (by kernel_rfl) (by kernel_rfl) ?_
  dsimp only
  refine h_ite (fun t1 => ?_) (fun t1 => ?_)
  · rw [show shortD s k b = none by unfold shortD; rw [if_neg (by omega), if_pos (by intro e; rw [e] at t1; simp at t1)]]
    exact h_end0 rfl
  have b0 : byteAt b 0 = 0 := by rw [← UInt8.toNat_inj]; show _ = 0; simp at t1; omega
  refine h_byteI (e := 5) 1 ((hcell 1 _ (byteAt_in (by omega))).sub Sub.self) (by omega) rfl (by kernel_rfl) (by kernel_rfl) (by kernel_rfl) ?_
  dsimp only
  refine h_ite (fun t2 => ?_) (fun t2 => ?_)
  · rw [show shortD s k b = none by unfold shortD; rw [if_neg (by omega), if_neg (by simp [b0]), if_pos (by intro e; rw [e] at t2; simp at t2)]]
    exact h_end0 rfl
  have b1 : byteAt b 1 = 0 := by rw [← UInt8.toNat_inj]; show _ = 0; simp at t2; omega
  have e0 : ∀ k, shortD s k b = if k = 6 then (if b.length = 10 then some { s with router := num8N b 2, told := true } else none)
      else if b.length ≠ 6 then none else if k = 4 then some (s.add (helloT b)) else if k = 5 then some (s.add (ihuT b)) else none := fun k => by
    unfold shortD; rw [if_neg (by omega), if_neg (by simp [b0]), if_neg (by simp [b1])]
  have n22 := num_lt b 2 2
  have n42 := num_lt b 4 2
  rcases hk with rfl | rfl | rfl
  · refine h_no (by decide) ?_
    refine h_yes (by decide) ?_
    refine h_ite (fun t3 => ?_) (fun t3 => ?_)
    · have hl6 : b.length = 6 := by simp at t3; omega
      rw [show shortD s 4 b = some (s.add (helloT b)) by rw [e0, if_neg (by decide), if_neg (by simp [hl6]), if_pos rfl]]
      (repeat ((first | ((with_reducible show holds _ _ _ _ (.rd (Instr.loadAt _ (.pointer _)) _ _) _); first | refine ldI (by repeat (first | exact mq0 | apply mq1 | apply mq2)) (by rfl) (by kernel_rfl) ?_ | refine ldL (by repeat (first | exact mq0 | apply mq1 | apply mq2)) (by rfl) (by kernel_rfl) ?_) | ((with_reducible show holds _ _ _ _ (.unit (Instr.storeAt _ _ _) _) _); refine stU (by repeat (first | exact Upd.here | apply Upd.there | apply Upd.right)) (by kernel_rfl) (by rfl) (by simp [Value.cells]) ?_) | ((with_reducible show holds _ _ _ _ (.pin (vN (Instr.loadAt _ _)) _ _) _); first | refine pnA (by repeat (first | exact mq0 | apply mq1 | apply mq2)) (by rfl) (by kernel_rfl) ?_ | refine pn1 (by repeat (first | exact mq0 | apply mq1 | apply mq2)) (by rfl) (by kernel_rfl) ?_)); try dsimp only [getL]))
      refine h_call0 (fun _ => { i := (num b 2 2 : Nat) }) ca_babelpkt_at2 (fun hl => at2_in (i := 2) (hr.up (Sub.self.up hl)) hn (by unfold maxLen; omega) (by omega) (by omega)) rfl ?_
      dsimp only
      (repeat ((first | ((with_reducible show holds _ _ _ _ (.rd (Instr.loadAt _ (.pointer _)) _ _) _); first | refine ldI (by repeat (first | exact mq0 | apply mq1 | apply mq2)) (by rfl) (by kernel_rfl) ?_ | refine ldL (by repeat (first | exact mq0 | apply mq1 | apply mq2)) (by rfl) (by kernel_rfl) ?_) | ((with_reducible show holds _ _ _ _ (.unit (Instr.storeAt _ _ _) _) _); refine stU (by repeat (first | exact Upd.here | apply Upd.there | apply Upd.right)) (by kernel_rfl) (by rfl) (by simp [Value.cells]) ?_) | ((with_reducible show holds _ _ _ _ (.pin (vN (Instr.loadAt _ _)) _ _) _); first | refine pnA (by repeat (first | exact mq0 | apply mq1 | apply mq2)) (by rfl) (by kernel_rfl) ?_ | refine pn1 (by repeat (first | exact mq0 | apply mq1 | apply mq2)) (by rfl) (by kernel_rfl) ?_)); try dsimp only [getL]))
      refine h_call0 (fun _ => { i := (num b 4 2 : Nat) }) ca_babelpkt_at2 (fun hl => at2_in (i := 4) (hr.up (Sub.self.up hl)) hn (by unfold maxLen; omega) (by omega) (by omega)) rfl ?_
      dsimp only
      (repeat ((first | ((with_reducible show holds _ _ _ _ (.rd (Instr.loadAt _ (.pointer _)) _ _) _); first | refine ldI (by repeat (first | exact mq0 | apply mq1 | apply mq2)) (by rfl) (by kernel_rfl) ?_ | refine ldL (by repeat (first | exact mq0 | apply mq1 | apply mq2)) (by rfl) (by kernel_rfl) ?_) | ((with_reducible show holds _ _ _ _ (.unit (Instr.storeAt _ _ _) _) _); refine stU (by repeat (first | exact Upd.here | apply Upd.there | apply Upd.right)) (by kernel_rfl) (by rfl) (by simp [Value.cells]) ?_) | ((with_reducible show holds _ _ _ _ (.pin (vN (Instr.loadAt _ _)) _ _) _); first | refine pnA (by repeat (first | exact mq0 | apply mq1 | apply mq2)) (by rfl) (by kernel_rfl) ?_ | refine pn1 (by repeat (first | exact mq0 | apply mq1 | apply mq2)) (by rfl) (by kernel_rfl) ?_)); try dsimp only [getL]))
      rw [wrap16n n22]
      refine h_row (e := 37) ⟨(helloT b).cs⟩ (by kernel_rfl) fun g10 hg10 hI10 => ?_
      dsimp only
      refine h_append (cl_.aff _) eb_BabelTlv (by kernel_rfl) (cs2 := (helloT b).cs) (fun _ => ⟨_, rfl, cellsM' (by repeat (first | exact mq0 | apply mq1 | apply mq2)) rfl⟩) (by simp) rfl (by simp) (m := m) (by repeat (first | exact Pick.here | exact Pick.one | exact Pick.all | apply Pick.two | apply Pick.cons | apply Pick.app)) ho.1 (by omega) (by omega) ?_
      intro A' c' m' ho'
      (repeat ((first | ((with_reducible show holds _ _ _ _ (.rd (Instr.loadAt _ (.pointer _)) _ _) _); first | refine ldI (by repeat (first | exact mq0 | apply mq1 | apply mq2)) (by rfl) (by kernel_rfl) ?_ | refine ldL (by repeat (first | exact mq0 | apply mq1 | apply mq2)) (by rfl) (by kernel_rfl) ?_) | ((with_reducible show holds _ _ _ _ (.unit (Instr.storeAt _ _ _) _) _); refine stU (by repeat (first | exact Upd.here | apply Upd.there | apply Upd.right)) (by kernel_rfl) (by rfl) (by simp [Value.cells]) ?_) | ((with_reducible show holds _ _ _ _ (.pin (vN (Instr.loadAt _ _)) _ _) _); first | refine pnA (by repeat (first | exact mq0 | apply mq1 | apply mq2)) (by rfl) (by kernel_rfl) ?_ | refine pn1 (by repeat (first | exact mq0 | apply mq1 | apply mq2)) (by rfl) (by kernel_rfl) ?_)); try dsimp only [getL]))
      rw [rcs_add s (helloT b)]
      exact h_end (h1 := [(w, .cells (rcs A' c' (s.add (helloT b))) 61 (0, 0))] ++ m') (by repeat (first | exact Pick.here | exact Pick.one | exact Pick.all | apply Pick.two | apply Pick.cons | apply Pick.app)) ⟨rfl, ⟨hs.router, hs.last⟩, A', c', m', rfl, ho.snoc (helloT_ok b) ho'⟩
    · refine h_no (by decide) ?_
      rw [show shortD s 4 b = none by rw [e0, if_neg (by decide), if_pos (by simp at t3; omega)]]
      exact h_end0 rfl
  · refine h_no (by decide) ?_
    refine h_no (by decide) ?_
    refine h_yes (by decide) ?_
    refine h_ite (fun t3 => ?_) (fun t3 => ?_)
    · have hl6 : b.length = 6 := by simp at t3; omega
      rw [show shortD s 5 b = some (s.add (ihuT b)) by rw [e0, if_neg (by decide), if_neg (by simp [hl6]), if_neg (by decide), if_pos rfl]]
      (repeat ((first | ((with_reducible show holds _ _ _ _ (.rd (Instr.loadAt _ (.pointer _)) _ _) _); first | refine ldI (by repeat (first | exact mq0 | apply mq1 | apply mq2)) (by rfl) (by kernel_rfl) ?_ | refine ldL (by repeat (first | exact mq0 | apply mq1 | apply mq2)) (by rfl) (by kernel_rfl) ?_) | ((with_reducible show holds _ _ _ _ (.unit (Instr.storeAt _ _ _) _) _); refine stU (by repeat (first | exact Upd.here | apply Upd.there | apply Upd.right)) (by kernel_rfl) (by rfl) (by simp [Value.cells]) ?_) | ((with_reducible show holds _ _ _ _ (.pin (vN (Instr.loadAt _ _)) _ _) _); first | refine pnA (by repeat (first | exact mq0 | apply mq1 | apply mq2)) (by rfl) (by kernel_rfl) ?_ | refine pn1 (by repeat (first | exact mq0 | apply mq1 | apply mq2)) (by rfl) (by kernel_rfl) ?_)); try dsimp only [getL]))
      refine h_call0 (fun _ => { i := (num b 2 2 : Nat) }) ca_babelpkt_at2 (fun hl => at2_in (i := 2) (hr.up (Sub.self.up hl)) hn (by unfold maxLen; omega) (by omega) (by omega)) rfl ?_
      dsimp only
      (repeat ((first | ((with_reducible show holds _ _ _ _ (.rd (Instr.loadAt _ (.pointer _)) _ _) _); first | refine ldI (by repeat (first | exact mq0 | apply mq1 | apply mq2)) (by rfl) (by kernel_rfl) ?_ | refine ldL (by repeat (first | exact mq0 | apply mq1 | apply mq2)) (by rfl) (by kernel_rfl) ?_) | ((with_reducible show holds _ _ _ _ (.unit (Instr.storeAt _ _ _) _) _); refine stU (by repeat (first | exact Upd.here | apply Upd.there | apply Upd.right)) (by kernel_rfl) (by rfl) (by simp [Value.cells]) ?_) | ((with_reducible show holds _ _ _ _ (.pin (vN (Instr.loadAt _ _)) _ _) _); first | refine pnA (by repeat (first | exact mq0 | apply mq1 | apply mq2)) (by rfl) (by kernel_rfl) ?_ | refine pn1 (by repeat (first | exact mq0 | apply mq1 | apply mq2)) (by rfl) (by kernel_rfl) ?_)); try dsimp only [getL]))
      refine h_call0 (fun _ => { i := (num b 4 2 : Nat) }) ca_babelpkt_at2 (fun hl => at2_in (i := 4) (hr.up (Sub.self.up hl)) hn (by unfold maxLen; omega) (by omega) (by omega)) rfl ?_
      dsimp only
      (repeat ((first | ((with_reducible show holds _ _ _ _ (.rd (Instr.loadAt _ (.pointer _)) _ _) _); first | refine ldI (by repeat (first | exact mq0 | apply mq1 | apply mq2)) (by rfl) (by kernel_rfl) ?_ | refine ldL (by repeat (first | exact mq0 | apply mq1 | apply mq2)) (by rfl) (by kernel_rfl) ?_) | ((with_reducible show holds _ _ _ _ (.unit (Instr.storeAt _ _ _) _) _); refine stU (by repeat (first | exact Upd.here | apply Upd.there | apply Upd.right)) (by kernel_rfl) (by rfl) (by simp [Value.cells]) ?_) | ((with_reducible show holds _ _ _ _ (.pin (vN (Instr.loadAt _ _)) _ _) _); first | refine pnA (by repeat (first | exact mq0 | apply mq1 | apply mq2)) (by rfl) (by kernel_rfl) ?_ | refine pn1 (by repeat (first | exact mq0 | apply mq1 | apply mq2)) (by rfl) (by kernel_rfl) ?_)); try dsimp only [getL]))
      refine h_row (e := 37) ⟨(ihuT b).cs⟩ (by kernel_rfl) fun g10 hg10 hI10 => ?_
      dsimp only
      refine h_append (cl_.aff _) eb_BabelTlv (by kernel_rfl) (cs2 := (ihuT b).cs) (fun _ => ⟨_, rfl, cellsM' (by repeat (first | exact mq0 | apply mq1 | apply mq2)) rfl⟩) (by simp) rfl (by simp) (m := m) (by repeat (first | exact Pick.here | exact Pick.one | exact Pick.all | apply Pick.two | apply Pick.cons | apply Pick.app)) ho.1 (by omega) (by omega) ?_
      intro A' c' m' ho'
      (repeat ((first | ((with_reducible show holds _ _ _ _ (.rd (Instr.loadAt _ (.pointer _)) _ _) _); first | refine ldI (by repeat (first | exact mq0 | apply mq1 | apply mq2)) (by rfl) (by kernel_rfl) ?_ | refine ldL (by repeat (first | exact mq0 | apply mq1 | apply mq2)) (by rfl) (by kernel_rfl) ?_) | ((with_reducible show holds _ _ _ _ (.unit (Instr.storeAt _ _ _) _) _); refine stU (by repeat (first | exact Upd.here | apply Upd.there | apply Upd.right)) (by kernel_rfl) (by rfl) (by simp [Value.cells]) ?_) | ((with_reducible show holds _ _ _ _ (.pin (vN (Instr.loadAt _ _)) _ _) _); first | refine pnA (by repeat (first | exact mq0 | apply mq1 | apply mq2)) (by rfl) (by kernel_rfl) ?_ | refine pn1 (by repeat (first | exact mq0 | apply mq1 | apply mq2)) (by rfl) (by kernel_rfl) ?_)); try dsimp only [getL]))
      rw [rcs_add s (ihuT b)]
      exact h_end (h1 := [(w, .cells (rcs A' c' (s.add (ihuT b))) 61 (0, 0))] ++ m') (by repeat (first | exact Pick.here | exact Pick.one | exact Pick.all | apply Pick.two | apply Pick.cons | apply Pick.app)) ⟨rfl, ⟨hs.router, hs.last⟩, A', c', m', rfl, ho.snoc (ihuT_ok b) ho'⟩
    · rw [show shortD s 5 b = none by rw [e0, if_neg (by decide), if_pos (by simp at t3; omega)]]
      exact h_end0 rfl
  · refine h_yes (by decide) ?_
    refine h_ite (fun t3 => ?_) (fun t3 => ?_)
    · have hl6 : b.length = 10 := by simp at t3; omega
      rw [show shortD s 6 b = some { s with router := num8N b 2, told := true } by rw [e0, if_pos rfl, if_pos hl6]]
      refine h_call0 (fun _ => { i := (num8N b 2 : Nat) }) ca_babelpkt_at8 (fun hl => at8_in (i := 2) (hr.up (Sub.self.up hl)) hn (by unfold maxLen; omega) (by omega) (by omega)) rfl ?_
      dsimp only
      (repeat ((first | ((with_reducible show holds _ _ _ _ (.rd (Instr.loadAt _ (.pointer _)) _ _) _); first | refine ldI (by repeat (first | exact mq0 | apply mq1 | apply mq2)) (by rfl) (by kernel_rfl) ?_ | refine ldL (by repeat (first | exact mq0 | apply mq1 | apply mq2)) (by rfl) (by kernel_rfl) ?_) | ((with_reducible show holds _ _ _ _ (.unit (Instr.storeAt _ _ _) _) _); refine stU (by repeat (first | exact Upd.here | apply Upd.there | apply Upd.right)) (by kernel_rfl) (by rfl) (by simp [Value.cells]) ?_) | ((with_reducible show holds _ _ _ _ (.pin (vN (Instr.loadAt _ _)) _ _) _); first | refine pnA (by repeat (first | exact mq0 | apply mq1 | apply mq2)) (by rfl) (by kernel_rfl) ?_ | refine pn1 (by repeat (first | exact mq0 | apply mq1 | apply mq2)) (by rfl) (by kernel_rfl) ?_)); try dsimp only [getL]))
      exact h_end (h1 := [(w, .cells (rcs A c { s with router := num8N b 2, told := true }) 61 (0, 0))] ++ m) (by repeat (first | exact Pick.here | exact Pick.one | exact Pick.all | apply Pick.two | apply Pick.cons | apply Pick.app)) ⟨rfl, ⟨num8_lt b 2, hs.last⟩, A, c, m, rfl, ho⟩
    · refine h_no (by decide) ?_
      refine h_no (by decide) ?_
      rw [show shortD s 6 b = none by rw [e0, if_pos rfl, if_neg (by simp at t3; omega)]]
      exact h_end0 rfl
end Go.Proofs.YtcfnliodgoenkaaS
