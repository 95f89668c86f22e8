import Derived.Test.YtcfnliodgoenkaaN26
import Derived.Test.YtcfnliodgoenkaaTA
set_option linter.unusedVariables false
namespace Go.Proofs.YtcfnliodgoenkaaS
/-! The reference's reader. -/
abbrev rqs (A : Option Addr) (c : Nat) (s : Dst) : Array Value := #[.int .u64 (s.router : Nat), .bool s.told, .int .u32 (s.last : Nat), .slice A s.l.length c]
def GivesQ (w : Nat) (o : Option Dst) (v : Value) (h' : Mem) : Prop :=
  match o with
  | none => v = .bool false
  | some s => v = .bool true ∧ s.ok ∧ ∃ A c m, h' = (w, .cells (rqs A c s) 65 (0, 0)) :: m ∧ OwnT A c s.l m
theorem rqs_add {A A' : Option Addr} {c c' : Nat} (s : Dst) (t : Tlv) : wr (rqs A c s) (0 + 3) (Value.slice A' (s.l.length + 1) c').cells.toList = rqs A' c' (s.add t) := by
  have e : (s.add t).l.length = s.l.length + 1 := by simp [Dst.add]
  unfold rqs
  rw [e]
  rfl
theorem rqs_upd {A A' : Option Addr} {c c' : Nat} (s : Dst) (b : List UInt8) (t : Nat) :
    wr (wr (rqs A c s) (0 + 2) (Value.int .u32 (prefV (wordD s b) : Nat)).cells.toList) (0 + 3) (Value.slice A' (s.l.length + 1) c').cells.toList = rqs A' c' (updN s b t) := by
  have e : (updN s b t).l.length = s.l.length + 1 := by simp [updN]
  unfold rqs
  rw [e]
  rfl
theorem qshort_spec {I : Ctx} {w : Nat} {A B : Option Addr} {c n d : Nat} {s : Dst} {m : Mem} {k : UInt8} {b : List UInt8} (ho : OwnT A c s.l m) (hs : s.ok) (hb : s.l.length ≤ 100000) (hr : RdB I B n b) (hn : n ≤ d) (hn2 : n ≤ 255) (hk : k = 4 ∨ k = 5 ∨ k = 6) :
    Fn Try.prog 55 #[.pointer (some ⟨w, 0, none⟩), .int .u8 ((k.toNat : Nat) : Int), .slice B n d] I ((w, .cells (rqs A c s) 65 (0, 0)) :: m) (GivesQ w (shortD s k b)) := by
  have hlen := hr.len
  refine r_octroiref06_Reader_short _ _ _ _ _ ?_
  refine h_ite (fun t0 => ?_) (fun t0 => ?_)
  · rw [show shortD s k b = none by unfold shortD; rw [if_pos (by simp at t0; omega)]]
    exact h_end0 rfl
  have h2 : 2 ≤ b.length := by simp at t0; omega
  obtain ⟨a, rfl, hcell⟩ := hr.cells (by omega)
  refine h_byteI (e := 5) 0 ((hcell 0 _ (byteAt_in (by omega))).sub Sub.self) (by omega) rfl (by kernel_rfl) (by kernel_rfl) (by kernel_rfl) ?_
  dsimp only
  refine h_ite (fun t1 => ?_) (fun t1 => ?_)
  · rw [show shortD s k b = none by unfold shortD; rw [if_neg (by omega), if_pos (by intro e; rw [e] at t1; simp at t1)]]
    exact h_end0 rfl
  have b0 : byteAt b 0 = 0 := by rw [← UInt8.toNat_inj]; show _ = 0; simp at t1; omega
  refine h_byteI (e := 5) 1 ((hcell 1 _ (byteAt_in (by omega))).sub Sub.self) (by omega) rfl (by kernel_rfl) (by kernel_rfl) (by kernel_rfl) ?_
  dsimp only
  refine h_ite (fun t2 => ?_) (fun t2 => ?_)
  · rw [show shortD s k b = none by unfold shortD; rw [if_neg (by omega), if_neg (by simp [b0]), if_pos (by intro e; rw [e] at t2; simp at t2)]]
    exact h_end0 rfl
  have b1 : byteAt b 1 = 0 := by rw [← UInt8.toNat_inj]; show _ = 0; simp at t2; omega
  have e0 : ∀ k, shortD s k b = if k = 6 then (if b.length = 10 then some { s with router := num8N b 2, told := true } else none)
      else if b.length ≠ 6 then none else if k = 4 then some (s.add (helloT b)) else if k = 5 then some (s.add (ihuT b)) else none := fun k => by
    unfold shortD; rw [if_neg (by omega), if_neg (by simp [b0]), if_neg (by simp [b1])]
  have n22 := num_lt b 2 2
  have n42 := num_lt b 4 2
  rcases hk with rfl | rfl | rfl
  · refine h_no (by decide) ?_
    refine h_ite (fun t3 => ?_) (fun t3 => ?_)
    · rw [show shortD s 4 b = none by rw [e0, if_neg (by decide), if_pos (by intro e; rw [← hlen, e] at t3; simp at t3)]]
      exact h_end0 rfl
    have hl6 : b.length = 6 := by simp at t3; omega
    rw [show shortD s 4 b = some (s.add (helloT b)) by rw [e0, if_neg (by decide), if_neg (by simp [hl6]), if_pos rfl]]
    refine h_call0 (fun _ => { i := (num b 2 2 : Nat) }) ca_octroiref06_num2 (fun hl => rnum2_in (i := 2) (hr.up (Sub.self.up hl)) hn (by unfold maxLen; omega) (by omega)) rfl ?_
    dsimp only
    (repeat ((first | ((with_reducible show holds _ _ _ _ (.sem (Instr.alloc 34 _ _) _ _) _); refine h_alloc zb_Prefix fun _ _ _ => ?_) | ((with_reducible show holds _ _ _ _ (.sem (Instr.alloc 37 _ _) _ _) _); refine h_alloc zb_BabelTlv_37 fun _ _ _ => ?_) | ((with_reducible show holds _ _ _ _ (.rd (Instr.loadAt _ (.pointer _)) _ _) _); first | refine ldI (by repeat (first | exact mq0 | apply mq1 | apply mq2)) (by rfl) (by kernel_rfl) ?_ | refine ldL (by repeat (first | exact mq0 | apply mq1 | apply mq2)) (by rfl) (by kernel_rfl) ?_ | refine la0 (by repeat (first | exact mq0 | apply mq1 | apply mq2)) (by rfl) (by kernel_rfl) ?_ | refine la1 (by repeat (first | exact mq0 | apply mq1 | apply mq2)) (by rfl) (by kernel_rfl) ?_) | ((with_reducible show holds _ _ _ _ (.unit (Instr.storeAt _ _ _) _) _); refine stU (by repeat (first | exact Upd.here | apply Upd.there | apply Upd.right)) (by kernel_rfl) (by rfl) (by simp [Value.cells]) ?_) | ((with_reducible show holds _ _ _ _ (.pin (vN (Instr.loadAt _ _)) _ _) _); first | refine pnA (by repeat (first | exact mq0 | apply mq1 | apply mq2)) (by rfl) (by kernel_rfl) ?_ | refine pn1 (by repeat (first | exact mq0 | apply mq1 | apply mq2)) (by rfl) (by kernel_rfl) ?_)); try dsimp only [getL]))
    refine h_call0 (fun _ => { i := (num b 4 2 : Nat) }) ca_octroiref06_num2 (fun hl => rnum2_in (i := 4) (hr.up (Sub.self.up hl)) hn (by unfold maxLen; omega) (by omega)) rfl ?_
    dsimp only
    (repeat ((first | ((with_reducible show holds _ _ _ _ (.sem (Instr.alloc 34 _ _) _ _) _); refine h_alloc zb_Prefix fun _ _ _ => ?_) | ((with_reducible show holds _ _ _ _ (.sem (Instr.alloc 37 _ _) _ _) _); refine h_alloc zb_BabelTlv_37 fun _ _ _ => ?_) | ((with_reducible show holds _ _ _ _ (.rd (Instr.loadAt _ (.pointer _)) _ _) _); first | refine ldI (by repeat (first | exact mq0 | apply mq1 | apply mq2)) (by rfl) (by kernel_rfl) ?_ | refine ldL (by repeat (first | exact mq0 | apply mq1 | apply mq2)) (by rfl) (by kernel_rfl) ?_ | refine la0 (by repeat (first | exact mq0 | apply mq1 | apply mq2)) (by rfl) (by kernel_rfl) ?_ | refine la1 (by repeat (first | exact mq0 | apply mq1 | apply mq2)) (by rfl) (by kernel_rfl) ?_) | ((with_reducible show holds _ _ _ _ (.unit (Instr.storeAt _ _ _) _) _); refine stU (by repeat (first | exact Upd.here | apply Upd.there | apply Upd.right)) (by kernel_rfl) (by rfl) (by simp [Value.cells]) ?_) | ((with_reducible show holds _ _ _ _ (.pin (vN (Instr.loadAt _ _)) _ _) _); first | refine pnA (by repeat (first | exact mq0 | apply mq1 | apply mq2)) (by rfl) (by kernel_rfl) ?_ | refine pn1 (by repeat (first | exact mq0 | apply mq1 | apply mq2)) (by rfl) (by kernel_rfl) ?_)); try dsimp only [getL]))
    rw [wrap16n n22]
    refine h_no (by decide) ?_
    (repeat ((first | ((with_reducible show holds _ _ _ _ (.sem (Instr.alloc 34 _ _) _ _) _); refine h_alloc zb_Prefix fun _ _ _ => ?_) | ((with_reducible show holds _ _ _ _ (.sem (Instr.alloc 37 _ _) _ _) _); refine h_alloc zb_BabelTlv_37 fun _ _ _ => ?_) | ((with_reducible show holds _ _ _ _ (.rd (Instr.loadAt _ (.pointer _)) _ _) _); first | refine ldI (by repeat (first | exact mq0 | apply mq1 | apply mq2)) (by rfl) (by kernel_rfl) ?_ | refine ldL (by repeat (first | exact mq0 | apply mq1 | apply mq2)) (by rfl) (by kernel_rfl) ?_ | refine la0 (by repeat (first | exact mq0 | apply mq1 | apply mq2)) (by rfl) (by kernel_rfl) ?_ | refine la1 (by repeat (first | exact mq0 | apply mq1 | apply mq2)) (by rfl) (by kernel_rfl) ?_) | ((with_reducible show holds _ _ _ _ (.unit (Instr.storeAt _ _ _) _) _); refine stU (by repeat (first | exact Upd.here | apply Upd.there | apply Upd.right)) (by kernel_rfl) (by rfl) (by simp [Value.cells]) ?_) | ((with_reducible show holds _ _ _ _ (.pin (vN (Instr.loadAt _ _)) _ _) _); first | refine pnA (by repeat (first | exact mq0 | apply mq1 | apply mq2)) (by rfl) (by kernel_rfl) ?_ | refine pn1 (by repeat (first | exact mq0 | apply mq1 | apply mq2)) (by rfl) (by kernel_rfl) ?_)); try dsimp only [getL]))
    refine h_row (e := 37) ⟨(helloT b).cs⟩ (by kernel_rfl) fun g10 hg10 hI10 => ?_
    dsimp only
    refine h_append (cl_.aff _) eb_BabelTlv (by kernel_rfl) (cs2 := (helloT b).cs) (fun _ => ⟨_, rfl, cellsM' (by repeat (first | exact mq0 | apply mq1 | apply mq2)) rfl⟩) (by simp) rfl (by simp) (m := m) (by repeat (first | exact Pick.here | exact Pick.one | exact Pick.all | apply Pick.two | apply Pick.cons | apply Pick.app)) ho.1 (by omega) (by omega) ?_
    intro A' c' m' ho'
    (repeat ((first | ((with_reducible show holds _ _ _ _ (.sem (Instr.alloc 34 _ _) _ _) _); refine h_alloc zb_Prefix fun _ _ _ => ?_) | ((with_reducible show holds _ _ _ _ (.sem (Instr.alloc 37 _ _) _ _) _); refine h_alloc zb_BabelTlv_37 fun _ _ _ => ?_) | ((with_reducible show holds _ _ _ _ (.rd (Instr.loadAt _ (.pointer _)) _ _) _); first | refine ldI (by repeat (first | exact mq0 | apply mq1 | apply mq2)) (by rfl) (by kernel_rfl) ?_ | refine ldL (by repeat (first | exact mq0 | apply mq1 | apply mq2)) (by rfl) (by kernel_rfl) ?_ | refine la0 (by repeat (first | exact mq0 | apply mq1 | apply mq2)) (by rfl) (by kernel_rfl) ?_ | refine la1 (by repeat (first | exact mq0 | apply mq1 | apply mq2)) (by rfl) (by kernel_rfl) ?_) | ((with_reducible show holds _ _ _ _ (.unit (Instr.storeAt _ _ _) _) _); refine stU (by repeat (first | exact Upd.here | apply Upd.there | apply Upd.right)) (by kernel_rfl) (by rfl) (by simp [Value.cells]) ?_) | ((with_reducible show holds _ _ _ _ (.pin (vN (Instr.loadAt _ _)) _ _) _); first | refine pnA (by repeat (first | exact mq0 | apply mq1 | apply mq2)) (by rfl) (by kernel_rfl) ?_ | refine pn1 (by repeat (first | exact mq0 | apply mq1 | apply mq2)) (by rfl) (by kernel_rfl) ?_)); try dsimp only [getL]))
    rw [rqs_add s (helloT b)]
    exact h_end (h1 := [(w, .cells (rqs A' c' (s.add (helloT b))) 65 (0, 0))] ++ m') (by repeat (first | exact Pick.here | exact Pick.one | exact Pick.all | apply Pick.two | apply Pick.cons | apply Pick.app)) ⟨rfl, ⟨hs.router, hs.last⟩, A', c', m', rfl, ho.snoc (helloT_ok b) ho'⟩
  · refine h_no (by decide) ?_
    refine h_ite (fun t3 => ?_) (fun t3 => ?_)
    · rw [show shortD s 5 b = none by rw [e0, if_neg (by decide), if_pos (by intro e; rw [← hlen, e] at t3; simp at t3)]]
      exact h_end0 rfl
    have hl6 : b.length = 6 := by simp at t3; omega
    rw [show shortD s 5 b = some (s.add (ihuT b)) by rw [e0, if_neg (by decide), if_neg (by simp [hl6]), if_neg (by decide), if_pos rfl]]
    refine h_call0 (fun _ => { i := (num b 2 2 : Nat) }) ca_octroiref06_num2 (fun hl => rnum2_in (i := 2) (hr.up (Sub.self.up hl)) hn (by unfold maxLen; omega) (by omega)) rfl ?_
    dsimp only
    (repeat ((first | ((with_reducible show holds _ _ _ _ (.sem (Instr.alloc 34 _ _) _ _) _); refine h_alloc zb_Prefix fun _ _ _ => ?_) | ((with_reducible show holds _ _ _ _ (.sem (Instr.alloc 37 _ _) _ _) _); refine h_alloc zb_BabelTlv_37 fun _ _ _ => ?_) | ((with_reducible show holds _ _ _ _ (.rd (Instr.loadAt _ (.pointer _)) _ _) _); first | refine ldI (by repeat (first | exact mq0 | apply mq1 | apply mq2)) (by rfl) (by kernel_rfl) ?_ | refine ldL (by repeat (first | exact mq0 | apply mq1 | apply mq2)) (by rfl) (by kernel_rfl) ?_ | refine la0 (by repeat (first | exact mq0 | apply mq1 | apply mq2)) (by rfl) (by kernel_rfl) ?_ | refine la1 (by repeat (first | exact mq0 | apply mq1 | apply mq2)) (by rfl) (by kernel_rfl) ?_) | ((with_reducible show holds _ _ _ _ (.unit (Instr.storeAt _ _ _) _) _); refine stU (by repeat (first | exact Upd.here | apply Upd.there | apply Upd.right)) (by kernel_rfl) (by rfl) (by simp [Value.cells]) ?_) | ((with_reducible show holds _ _ _ _ (.pin (vN (Instr.loadAt _ _)) _ _) _); first | refine pnA (by repeat (first | exact mq0 | apply mq1 | apply mq2)) (by rfl) (by kernel_rfl) ?_ | refine pn1 (by repeat (first | exact mq0 | apply mq1 | apply mq2)) (by rfl) (by kernel_rfl) ?_)); try dsimp only [getL]))
    refine h_call0 (fun _ => { i := (num b 4 2 : Nat) }) ca_octroiref06_num2 (fun hl => rnum2_in (i := 4) (hr.up (Sub.self.up hl)) hn (by unfold maxLen; omega) (by omega)) rfl ?_
    dsimp only
    (repeat ((first | ((with_reducible show holds _ _ _ _ (.sem (Instr.alloc 34 _ _) _ _) _); refine h_alloc zb_Prefix fun _ _ _ => ?_) | ((with_reducible show holds _ _ _ _ (.sem (Instr.alloc 37 _ _) _ _) _); refine h_alloc zb_BabelTlv_37 fun _ _ _ => ?_) | ((with_reducible show holds _ _ _ _ (.rd (Instr.loadAt _ (.pointer _)) _ _) _); first | refine ldI (by repeat (first | exact mq0 | apply mq1 | apply mq2)) (by rfl) (by kernel_rfl) ?_ | refine ldL (by repeat (first | exact mq0 | apply mq1 | apply mq2)) (by rfl) (by kernel_rfl) ?_ | refine la0 (by repeat (first | exact mq0 | apply mq1 | apply mq2)) (by rfl) (by kernel_rfl) ?_ | refine la1 (by repeat (first | exact mq0 | apply mq1 | apply mq2)) (by rfl) (by kernel_rfl) ?_) | ((with_reducible show holds _ _ _ _ (.unit (Instr.storeAt _ _ _) _) _); refine stU (by repeat (first | exact Upd.here | apply Upd.there | apply Upd.right)) (by kernel_rfl) (by rfl) (by simp [Value.cells]) ?_) | ((with_reducible show holds _ _ _ _ (.pin (vN (Instr.loadAt _ _)) _ _) _); first | refine pnA (by repeat (first | exact mq0 | apply mq1 | apply mq2)) (by rfl) (by kernel_rfl) ?_ | refine pn1 (by repeat (first | exact mq0 | apply mq1 | apply mq2)) (by rfl) (by kernel_rfl) ?_)); try dsimp only [getL]))
    refine h_yes (by decide) ?_
    refine h_call0 (fun _ => { i := (num b 2 2 : Nat) }) ca_octroiref06_num2 (fun hl => rnum2_in (i := 2) (hr.up (Sub.self.up hl)) hn (by unfold maxLen; omega) (by omega)) rfl ?_
    dsimp only
    (repeat ((first | ((with_reducible show holds _ _ _ _ (.sem (Instr.alloc 34 _ _) _ _) _); refine h_alloc zb_Prefix fun _ _ _ => ?_) | ((with_reducible show holds _ _ _ _ (.sem (Instr.alloc 37 _ _) _ _) _); refine h_alloc zb_BabelTlv_37 fun _ _ _ => ?_) | ((with_reducible show holds _ _ _ _ (.rd (Instr.loadAt _ (.pointer _)) _ _) _); first | refine ldI (by repeat (first | exact mq0 | apply mq1 | apply mq2)) (by rfl) (by kernel_rfl) ?_ | refine ldL (by repeat (first | exact mq0 | apply mq1 | apply mq2)) (by rfl) (by kernel_rfl) ?_ | refine la0 (by repeat (first | exact mq0 | apply mq1 | apply mq2)) (by rfl) (by kernel_rfl) ?_ | refine la1 (by repeat (first | exact mq0 | apply mq1 | apply mq2)) (by rfl) (by kernel_rfl) ?_) | ((with_reducible show holds _ _ _ _ (.unit (Instr.storeAt _ _ _) _) _); refine stU (by repeat (first | exact Upd.here | apply Upd.there | apply Upd.right)) (by kernel_rfl) (by rfl) (by simp [Value.cells]) ?_) | ((with_reducible show holds _ _ _ _ (.pin (vN (Instr.loadAt _ _)) _ _) _); first | refine pnA (by repeat (first | exact mq0 | apply mq1 | apply mq2)) (by rfl) (by kernel_rfl) ?_ | refine pn1 (by repeat (first | exact mq0 | apply mq1 | apply mq2)) (by rfl) (by kernel_rfl) ?_)); try dsimp only [getL]))
    refine h_call0 (fun _ => { i := (num b 4 2 : Nat) }) ca_octroiref06_num2 (fun hl => rnum2_in (i := 4) (hr.up (Sub.self.up hl)) hn (by unfold maxLen; omega) (by omega)) rfl ?_
    dsimp only
    (repeat ((first | ((with_reducible show holds _ _ _ _ (.sem (Instr.alloc 34 _ _) _ _) _); refine h_alloc zb_Prefix fun _ _ _ => ?_) | ((with_reducible show holds _ _ _ _ (.sem (Instr.alloc 37 _ _) _ _) _); refine h_alloc zb_BabelTlv_37 fun _ _ _ => ?_) | ((with_reducible show holds _ _ _ _ (.rd (Instr.loadAt _ (.pointer _)) _ _) _); first | refine ldI (by repeat (first | exact mq0 | apply mq1 | apply mq2)) (by rfl) (by kernel_rfl) ?_ | refine ldL (by repeat (first | exact mq0 | apply mq1 | apply mq2)) (by rfl) (by kernel_rfl) ?_ | refine la0 (by repeat (first | exact mq0 | apply mq1 | apply mq2)) (by rfl) (by kernel_rfl) ?_ | refine la1 (by repeat (first | exact mq0 | apply mq1 | apply mq2)) (by rfl) (by kernel_rfl) ?_) | ((with_reducible show holds _ _ _ _ (.unit (Instr.storeAt _ _ _) _) _); refine stU (by repeat (first | exact Upd.here | apply Upd.there | apply Upd.right)) (by kernel_rfl) (by rfl) (by simp [Value.cells]) ?_) | ((with_reducible show holds _ _ _ _ (.pin (vN (Instr.loadAt _ _)) _ _) _); first | refine pnA (by repeat (first | exact mq0 | apply mq1 | apply mq2)) (by rfl) (by kernel_rfl) ?_ | refine pn1 (by repeat (first | exact mq0 | apply mq1 | apply mq2)) (by rfl) (by kernel_rfl) ?_)); try dsimp only [getL]))
    refine h_row (e := 37) ⟨(ihuT b).cs⟩ (by kernel_rfl) fun g10 hg10 hI10 => ?_
    dsimp only
    refine h_append (cl_.aff _) eb_BabelTlv (by kernel_rfl) (cs2 := (ihuT b).cs) (fun _ => ⟨_, rfl, cellsM' (by repeat (first | exact mq0 | apply mq1 | apply mq2)) rfl⟩) (by simp) rfl (by simp) (m := m) (by repeat (first | exact Pick.here | exact Pick.one | exact Pick.all | apply Pick.two | apply Pick.cons | apply Pick.app)) ho.1 (by omega) (by omega) ?_
    intro A' c' m' ho'
    (repeat ((first | ((with_reducible show holds _ _ _ _ (.sem (Instr.alloc 34 _ _) _ _) _); refine h_alloc zb_Prefix fun _ _ _ => ?_) | ((with_reducible show holds _ _ _ _ (.sem (Instr.alloc 37 _ _) _ _) _); refine h_alloc zb_BabelTlv_37 fun _ _ _ => ?_) | ((with_reducible show holds _ _ _ _ (.rd (Instr.loadAt _ (.pointer _)) _ _) _); first | refine ldI (by repeat (first | exact mq0 | apply mq1 | apply mq2)) (by rfl) (by kernel_rfl) ?_ | refine ldL (by repeat (first | exact mq0 | apply mq1 | apply mq2)) (by rfl) (by kernel_rfl) ?_ | refine la0 (by repeat (first | exact mq0 | apply mq1 | apply mq2)) (by rfl) (by kernel_rfl) ?_ | refine la1 (by repeat (first | exact mq0 | apply mq1 | apply mq2)) (by rfl) (by kernel_rfl) ?_) | ((with_reducible show holds _ _ _ _ (.unit (Instr.storeAt _ _ _) _) _); refine stU (by repeat (first | exact Upd.here | apply Upd.there | apply Upd.right)) (by kernel_rfl) (by rfl) (by simp [Value.cells]) ?_) | ((with_reducible show holds _ _ _ _ (.pin (vN (Instr.loadAt _ _)) _ _) _); first | refine pnA (by repeat (first | exact mq0 | apply mq1 | apply mq2)) (by rfl) (by kernel_rfl) ?_ | refine pn1 (by repeat (first | exact mq0 | apply mq1 | apply mq2)) (by rfl) (by kernel_rfl) ?_)); try dsimp only [getL]))
    rw [rqs_add s (ihuT b)]
    exact h_end (h1 := [(w, .cells (rqs A' c' (s.add (ihuT b))) 65 (0, 0))] ++ m') (by repeat (first | exact Pick.here | exact Pick.one | exact Pick.all | apply Pick.two | apply Pick.cons | apply Pick.app)) ⟨rfl, ⟨hs.router, hs.last⟩, A', c', m', rfl, ho.snoc (ihuT_ok b) ho'⟩
  · refine h_yes (by decide) ?_
    refine h_ite (fun t3 => ?_) (fun t3 => ?_)
    · rw [show shortD s 6 b = none by rw [e0, if_pos rfl, if_neg (by intro e; rw [← hlen, e] at t3; simp at t3)]]
      exact h_end0 rfl
    have hl6 : b.length = 10 := by simp at t3; omega
    rw [show shortD s 6 b = some { s with router := num8N b 2, told := true } by rw [e0, if_pos rfl, if_pos hl6]]
    refine h_call0 (fun _ => { i := (num8N b 2 : Nat) }) ca_octroiref06_num8 (fun hl => rnum8_in (i := 2) (hr.up (Sub.self.up hl)) hn (by unfold maxLen; omega) (by omega) (by omega)) rfl ?_
    dsimp only
    (repeat ((first | ((with_reducible show holds _ _ _ _ (.sem (Instr.alloc 34 _ _) _ _) _); refine h_alloc zb_Prefix fun _ _ _ => ?_) | ((with_reducible show holds _ _ _ _ (.sem (Instr.alloc 37 _ _) _ _) _); refine h_alloc zb_BabelTlv_37 fun _ _ _ => ?_) | ((with_reducible show holds _ _ _ _ (.rd (Instr.loadAt _ (.pointer _)) _ _) _); first | refine ldI (by repeat (first | exact mq0 | apply mq1 | apply mq2)) (by rfl) (by kernel_rfl) ?_ | refine ldL (by repeat (first | exact mq0 | apply mq1 | apply mq2)) (by rfl) (by kernel_rfl) ?_ | refine la0 (by repeat (first | exact mq0 | apply mq1 | apply mq2)) (by rfl) (by kernel_rfl) ?_ | refine la1 (by repeat (first | exact mq0 | apply mq1 | apply mq2)) (by rfl) (by kernel_rfl) ?_) | ((with_reducible show holds _ _ _ _ (.unit (Instr.storeAt _ _ _) _) _); refine stU (by repeat (first | exact Upd.here | apply Upd.there | apply Upd.right)) (by kernel_rfl) (by rfl) (by simp [Value.cells]) ?_) | ((with_reducible show holds _ _ _ _ (.pin (vN (Instr.loadAt _ _)) _ _) _); first | refine pnA (by repeat (first | exact mq0 | apply mq1 | apply mq2)) (by rfl) (by kernel_rfl) ?_ | refine pn1 (by repeat (first | exact mq0 | apply mq1 | apply mq2)) (by rfl) (by kernel_rfl) ?_)); try dsimp only [getL]))
    exact h_end (h1 := [(w, .cells (rqs A c { s with router := num8N b 2, told := true }) 65 (0, 0))] ++ m) (by repeat (first | exact Pick.here | exact Pick.one | exact Pick.all | apply Pick.two | apply Pick.cons | apply Pick.app)) ⟨rfl, ⟨num8_lt b 2, hs.last⟩, A, c, m, rfl, ho⟩
theorem rpN_ok {n : Int} {l : List UInt8} (h : okP n l = true) : rpN n l = n ∧ rpA n l = prefV l := by
  unfold okP mayB at h
  simp only [Bool.and_eq_true, decide_eq_true_eq] at h
  unfold rpN rpA
  rw [if_neg (by omega), if_neg (by simp [h.1]), if_neg (by omega), if_neg (by simp [h.1])]
  exact ⟨rfl, rfl⟩
theorem okP_big {n : Int} {l : List UInt8} (h : 32 < n) : okP n l = false := by
  unfold okP mayB
  rw [decide_eq_false (show ¬ n ≤ 32 by omega)]
  simp
/-- What is laid down, right or not. -/
def askQ (b : List UInt8) : Tlv := ⟨3, 0, 0, 0, rpA (bitsD b 1) (b.drop 2), rpN (bitsD b 1) (b.drop 2), 0, 0, 0⟩
def askSQ (b : List UInt8) : Tlv := ⟨4, num b 2 2, 0, 0, rpA (bitsD b 1) (b.drop 14), rpN (bitsD b 1) (b.drop 14), num8N b 6, 0, bitsD b 4⟩
theorem askD_eq {s : Dst} {k : UInt8} {b : List UInt8} (h2 : ¬ b.length < 2) (b0 : byteAt b 0 = 1) : askD s k b =
    if k = 10 then (if b.length < 14 then none else if byteAt b 5 ≠ 0 then none else if okP (bitsD b 1) (b.drop 14) = true then some (s.add (askST b)) else none)
      else if okP (bitsD b 1) (b.drop 2) = true then some (s.add (askT b)) else none := by
  unfold askD
  rw [if_neg h2, if_neg (by simp [b0])]
  by_cases h : 32 < (byteAt b 1).toNat
  · have hb : ∀ l, okP (bitsD b 1) l = false := fun l => okP_big (by unfold bitsD; omega)
    rw [if_pos h, hb, hb]
    simp
  · rw [if_neg h]
set_option maxHeartbeats 2000000 in
theorem qask_spec {I : Ctx} {w : Nat} {A B : Option Addr} {c n d : Nat} {s : Dst} {m : Mem} {k : UInt8} {b : List UInt8} (ho : OwnT A c s.l m) (hs : s.ok) (hb : s.l.length ≤ 100000) (hr : RdB I B n b) (hn : n ≤ d) (hn2 : n ≤ 255) (hk : k = 9 ∨ k = 10) :
    Fn Try.prog 57 #[.pointer (some ⟨w, 0, none⟩), .int .u8 ((k.toNat : Nat) : Int), .slice B n d] I ((w, .cells (rqs A c s) 65 (0, 0)) :: m) (GivesQ w (askD s k b)) := by
  have hlen := hr.len
  have hb1 := (byteAt b 1).toNat_lt
  have hb4 := (byteAt b 4).toNat_lt
  refine r_octroiref06_Reader_ask _ _ _ _ _ ?_
  refine h_ite (fun t0 => ?_) (fun t0 => ?_)
  · rw [show askD s k b = none by unfold askD; rw [if_pos (by simp at t0; omega)]]
    exact h_end0 rfl
  have h2 : 2 ≤ b.length := by simp at t0; omega
  obtain ⟨a, rfl, hcell⟩ := hr.cells (by omega)
  refine h_byteI (e := 5) 0 ((hcell 0 _ (byteAt_in (by omega))).sub Sub.self) (by omega) rfl (by kernel_rfl) (by kernel_rfl) (by kernel_rfl) ?_
  dsimp only
  refine h_ite (fun t1 => ?_) (fun t1 => ?_)
  · rw [show askD s k b = none by unfold askD; rw [if_neg (by omega), if_pos (by intro e; rw [e] at t1; simp at t1)]]
    exact h_end0 rfl
  have b0 : byteAt b 0 = 1 := by rw [← UInt8.toNat_inj]; show _ = 1; simp at t1; omega
  have e0 := fun k => askD_eq (s := s) (k := k) (b := b) (by omega) b0
  have n22 := num_lt b 2 2
  (repeat ((first | ((with_reducible show holds _ _ _ _ (.sem (Instr.alloc 34 _ _) _ _) _); refine h_alloc zb_Prefix fun _ _ _ => ?_) | ((with_reducible show holds _ _ _ _ (.sem (Instr.alloc 37 _ _) _ _) _); refine h_alloc zb_BabelTlv_37 fun _ _ _ => ?_) | ((with_reducible show holds _ _ _ _ (.rd (Instr.loadAt _ (.pointer _)) _ _) _); first | refine ldI (by repeat (first | exact mq0 | apply mq1 | apply mq2)) (by rfl) (by kernel_rfl) ?_ | refine ldL (by repeat (first | exact mq0 | apply mq1 | apply mq2)) (by rfl) (by kernel_rfl) ?_ | refine la0 (by repeat (first | exact mq0 | apply mq1 | apply mq2)) (by rfl) (by kernel_rfl) ?_ | refine la1 (by repeat (first | exact mq0 | apply mq1 | apply mq2)) (by rfl) (by kernel_rfl) ?_) | ((with_reducible show holds _ _ _ _ (.unit (Instr.storeAt _ _ _) _) _); refine stU (by repeat (first | exact Upd.here | apply Upd.there | apply Upd.right)) (by kernel_rfl) (by rfl) (by simp [Value.cells]) ?_) | ((with_reducible show holds _ _ _ _ (.pin (vN (Instr.loadAt _ _)) _ _) _); first | refine pnA (by repeat (first | exact mq0 | apply mq1 | apply mq2)) (by rfl) (by kernel_rfl) ?_ | refine pn1 (by repeat (first | exact mq0 | apply mq1 | apply mq2)) (by rfl) (by kernel_rfl) ?_)); try dsimp only [getL]))
  rcases hk with rfl | rfl
  · refine h_no (by decide) ?_
    have b5 := b0
    have h14 := h2
    refine h_byteI (e := 5) 1 ((hcell 1 _ (byteAt_in (by omega))).sub Sub.self) (by omega) rfl (by kernel_rfl) (by kernel_rfl) (by kernel_rfl) ?_
    dsimp only
    refine h_cut (e := 5) (sz := 1) 2 n d (by kernel_rfl) (by kernel_rfl) rfl rfl rfl (by simp) (by omega) (by omega) (by omega) ?_
    dsimp only
    rw [wrap64 (x := (((byteAt b 1).toNat : Nat) : Int)) (by omega)]
    refine h_call0 (getL [{ i := (rpA (bitsD b 1) (b.drop 2) : Nat) }, { i := rpN (bitsD b 1) (b.drop 2) }, { b := okP (bitsD b 1) (b.drop 2) }]) ca_octroiref06_prefix (fun hl => rprefix_spec (n := bitsD b 1) ((hr.rest (i := 2) (by omega) hn).up (Sub.self.up hl)) (by omega) (by omega) (bits_le b 1)) rfl ?_
    dsimp only [getL]
    (repeat ((first | ((with_reducible show holds _ _ _ _ (.sem (Instr.alloc 34 _ _) _ _) _); refine h_alloc zb_Prefix fun _ _ _ => ?_) | ((with_reducible show holds _ _ _ _ (.sem (Instr.alloc 37 _ _) _ _) _); refine h_alloc zb_BabelTlv_37 fun _ _ _ => ?_) | ((with_reducible show holds _ _ _ _ (.rd (Instr.loadAt _ (.pointer _)) _ _) _); first | refine ldI (by repeat (first | exact mq0 | apply mq1 | apply mq2)) (by rfl) (by kernel_rfl) ?_ | refine ldL (by repeat (first | exact mq0 | apply mq1 | apply mq2)) (by rfl) (by kernel_rfl) ?_ | refine la0 (by repeat (first | exact mq0 | apply mq1 | apply mq2)) (by rfl) (by kernel_rfl) ?_ | refine la1 (by repeat (first | exact mq0 | apply mq1 | apply mq2)) (by rfl) (by kernel_rfl) ?_) | ((with_reducible show holds _ _ _ _ (.unit (Instr.storeAt _ _ _) _) _); refine stU (by repeat (first | exact Upd.here | apply Upd.there | apply Upd.right)) (by kernel_rfl) (by rfl) (by simp [Value.cells]) ?_) | ((with_reducible show holds _ _ _ _ (.pin (vN (Instr.loadAt _ _)) _ _) _); first | refine pnA (by repeat (first | exact mq0 | apply mq1 | apply mq2)) (by rfl) (by kernel_rfl) ?_ | refine pn1 (by repeat (first | exact mq0 | apply mq1 | apply mq2)) (by rfl) (by kernel_rfl) ?_)); try dsimp only [getL]))
    refine h_row (e := 37) ⟨(askQ b).cs⟩ (by kernel_rfl) fun g10 hg10 hI10 => ?_
    dsimp only
    refine h_append (cl_.aff _) eb_BabelTlv (by kernel_rfl) (cs2 := (askQ b).cs) (fun _ => ⟨_, rfl, cellsM' (by repeat (first | exact mq0 | apply mq1 | apply mq2)) rfl⟩) (by simp) rfl (by simp) (m := m) (by repeat (first | exact Pick.here | exact Pick.one | exact Pick.all | apply Pick.two | apply Pick.cons | apply Pick.app)) ho.1 (by omega) (by omega) ?_
    intro A' c' m' ho'
    (repeat ((first | ((with_reducible show holds _ _ _ _ (.sem (Instr.alloc 34 _ _) _ _) _); refine h_alloc zb_Prefix fun _ _ _ => ?_) | ((with_reducible show holds _ _ _ _ (.sem (Instr.alloc 37 _ _) _ _) _); refine h_alloc zb_BabelTlv_37 fun _ _ _ => ?_) | ((with_reducible show holds _ _ _ _ (.rd (Instr.loadAt _ (.pointer _)) _ _) _); first | refine ldI (by repeat (first | exact mq0 | apply mq1 | apply mq2)) (by rfl) (by kernel_rfl) ?_ | refine ldL (by repeat (first | exact mq0 | apply mq1 | apply mq2)) (by rfl) (by kernel_rfl) ?_ | refine la0 (by repeat (first | exact mq0 | apply mq1 | apply mq2)) (by rfl) (by kernel_rfl) ?_ | refine la1 (by repeat (first | exact mq0 | apply mq1 | apply mq2)) (by rfl) (by kernel_rfl) ?_) | ((with_reducible show holds _ _ _ _ (.unit (Instr.storeAt _ _ _) _) _); refine stU (by repeat (first | exact Upd.here | apply Upd.there | apply Upd.right)) (by kernel_rfl) (by rfl) (by simp [Value.cells]) ?_) | ((with_reducible show holds _ _ _ _ (.pin (vN (Instr.loadAt _ _)) _ _) _); first | refine pnA (by repeat (first | exact mq0 | apply mq1 | apply mq2)) (by rfl) (by kernel_rfl) ?_ | refine pn1 (by repeat (first | exact mq0 | apply mq1 | apply mq2)) (by rfl) (by kernel_rfl) ?_)); try dsimp only [getL]))
    rw [rqs_add s (askT b)]
    by_cases hk2 : okP (bitsD b 1) (b.drop 2) = true
    · have hq : askQ b = askT b := by unfold askQ askT; rw [(rpN_ok hk2).1, (rpN_ok hk2).2]
      rw [hq] at ho'
      rw [show askD s 9 b = some (s.add (askT b)) by rw [e0]; simp [hk2, b5, h14], hk2]
      exact h_end (h1 := [(w, .cells (rqs A' c' (s.add (askT b))) 65 (0, 0))] ++ m') (by repeat (first | exact Pick.here | exact Pick.one | exact Pick.all | apply Pick.two | apply Pick.cons | apply Pick.app)) ⟨rfl, ⟨hs.router, hs.last⟩, A', c', m', rfl, ho.snoc (askT_ok b) ho'⟩
    · rw [show askD s 9 b = none by rw [e0]; simp [hk2, b5, h14], show okP (bitsD b 1) (b.drop 2) = false by simpa using hk2]
      exact h_end0 rfl
  · refine h_yes (by decide) ?_
    refine h_ite (fun t3 => ?_) (fun t3 => ?_)
    · rw [show askD s 10 b = none by rw [e0, if_pos rfl, if_pos (by simp at t3; omega)]]
      exact h_end0 rfl
    have h14 : 14 ≤ b.length := by simp at t3; omega
    refine h_byteI (e := 5) 5 ((hcell 5 _ (byteAt_in (by omega))).sub Sub.self) (by omega) rfl (by kernel_rfl) (by kernel_rfl) (by kernel_rfl) ?_
    dsimp only
    refine h_ite (fun t4 => ?_) (fun t4 => ?_)
    · rw [show askD s 10 b = none by rw [e0, if_pos rfl, if_neg (by omega), if_pos (by intro e; rw [e] at t4; simp at t4)]]
      exact h_end0 rfl
    have b5 : byteAt b 5 = 0 := by rw [← UInt8.toNat_inj]; show _ = 0; simp at t4; omega
    refine h_byteI (e := 5) 4 ((hcell 4 _ (byteAt_in (by omega))).sub Sub.self) (by omega) rfl (by kernel_rfl) (by kernel_rfl) (by kernel_rfl) ?_
    dsimp only
    refine h_call0 (fun _ => { i := (num b 2 2 : Nat) }) ca_octroiref06_num2 (fun hl => rnum2_in (i := 2) (hr.up (Sub.self.up hl)) hn (by unfold maxLen; omega) (by omega)) rfl ?_
    dsimp only
    (repeat ((first | ((with_reducible show holds _ _ _ _ (.sem (Instr.alloc 34 _ _) _ _) _); refine h_alloc zb_Prefix fun _ _ _ => ?_) | ((with_reducible show holds _ _ _ _ (.sem (Instr.alloc 37 _ _) _ _) _); refine h_alloc zb_BabelTlv_37 fun _ _ _ => ?_) | ((with_reducible show holds _ _ _ _ (.rd (Instr.loadAt _ (.pointer _)) _ _) _); first | refine ldI (by repeat (first | exact mq0 | apply mq1 | apply mq2)) (by rfl) (by kernel_rfl) ?_ | refine ldL (by repeat (first | exact mq0 | apply mq1 | apply mq2)) (by rfl) (by kernel_rfl) ?_ | refine la0 (by repeat (first | exact mq0 | apply mq1 | apply mq2)) (by rfl) (by kernel_rfl) ?_ | refine la1 (by repeat (first | exact mq0 | apply mq1 | apply mq2)) (by rfl) (by kernel_rfl) ?_) | ((with_reducible show holds _ _ _ _ (.unit (Instr.storeAt _ _ _) _) _); refine stU (by repeat (first | exact Upd.here | apply Upd.there | apply Upd.right)) (by kernel_rfl) (by rfl) (by simp [Value.cells]) ?_) | ((with_reducible show holds _ _ _ _ (.pin (vN (Instr.loadAt _ _)) _ _) _); first | refine pnA (by repeat (first | exact mq0 | apply mq1 | apply mq2)) (by rfl) (by kernel_rfl) ?_ | refine pn1 (by repeat (first | exact mq0 | apply mq1 | apply mq2)) (by rfl) (by kernel_rfl) ?_)); try dsimp only [getL]))
    refine h_pinC ((hcell 4 _ (byteAt_in (by omega))).sub Sub.self) (by kernel_rfl) ?_
    refine h_pinI (e := 5) 4 (by omega) rfl (by kernel_rfl) (by kernel_rfl) ?_
    refine h_call0 (fun _ => { i := (num8N b 6 : Nat) }) ca_octroiref06_num8 (fun hl => rnum8_in (i := 6) (hr.up (Sub.self.up hl)) hn (by unfold maxLen; omega) (by omega) (by omega)) rfl ?_
    dsimp only
    refine h_pinC ((hcell 4 _ (byteAt_in (by omega))).sub Sub.self) (by kernel_rfl) ?_
    refine h_pinI (e := 5) 4 (by omega) rfl (by kernel_rfl) (by kernel_rfl) ?_
    rw [wrap16n n22, wrap64 (x := (((byteAt b 4).toNat : Nat) : Int)) (by omega)]
    (repeat ((first | ((with_reducible show holds _ _ _ _ (.sem (Instr.alloc 34 _ _) _ _) _); refine h_alloc zb_Prefix fun _ _ _ => ?_) | ((with_reducible show holds _ _ _ _ (.sem (Instr.alloc 37 _ _) _ _) _); refine h_alloc zb_BabelTlv_37 fun _ _ _ => ?_) | ((with_reducible show holds _ _ _ _ (.rd (Instr.loadAt _ (.pointer _)) _ _) _); first | refine ldI (by repeat (first | exact mq0 | apply mq1 | apply mq2)) (by rfl) (by kernel_rfl) ?_ | refine ldL (by repeat (first | exact mq0 | apply mq1 | apply mq2)) (by rfl) (by kernel_rfl) ?_ | refine la0 (by repeat (first | exact mq0 | apply mq1 | apply mq2)) (by rfl) (by kernel_rfl) ?_ | refine la1 (by repeat (first | exact mq0 | apply mq1 | apply mq2)) (by rfl) (by kernel_rfl) ?_) | ((with_reducible show holds _ _ _ _ (.unit (Instr.storeAt _ _ _) _) _); refine stU (by repeat (first | exact Upd.here | apply Upd.there | apply Upd.right)) (by kernel_rfl) (by rfl) (by simp [Value.cells]) ?_) | ((with_reducible show holds _ _ _ _ (.pin (vN (Instr.loadAt _ _)) _ _) _); first | refine pnA (by repeat (first | exact mq0 | apply mq1 | apply mq2)) (by rfl) (by kernel_rfl) ?_ | refine pn1 (by repeat (first | exact mq0 | apply mq1 | apply mq2)) (by rfl) (by kernel_rfl) ?_)); try dsimp only [getL]))
    refine h_byteI (e := 5) 1 ((hcell 1 _ (byteAt_in (by omega))).sub Sub.self) (by omega) rfl (by kernel_rfl) (by kernel_rfl) (by kernel_rfl) ?_
    dsimp only
    refine h_cut (e := 5) (sz := 1) 14 n d (by kernel_rfl) (by kernel_rfl) rfl rfl rfl (by simp) (by omega) (by omega) (by omega) ?_
    dsimp only
    rw [wrap64 (x := (((byteAt b 1).toNat : Nat) : Int)) (by omega)]
    refine h_call0 (getL [{ i := (rpA (bitsD b 1) (b.drop 14) : Nat) }, { i := rpN (bitsD b 1) (b.drop 14) }, { b := okP (bitsD b 1) (b.drop 14) }]) ca_octroiref06_prefix (fun hl => rprefix_spec (n := bitsD b 1) ((hr.rest (i := 14) (by omega) hn).up (Sub.self.up hl)) (by omega) (by omega) (bits_le b 1)) rfl ?_
    dsimp only [getL]
    (repeat ((first | ((with_reducible show holds _ _ _ _ (.sem (Instr.alloc 34 _ _) _ _) _); refine h_alloc zb_Prefix fun _ _ _ => ?_) | ((with_reducible show holds _ _ _ _ (.sem (Instr.alloc 37 _ _) _ _) _); refine h_alloc zb_BabelTlv_37 fun _ _ _ => ?_) | ((with_reducible show holds _ _ _ _ (.rd (Instr.loadAt _ (.pointer _)) _ _) _); first | refine ldI (by repeat (first | exact mq0 | apply mq1 | apply mq2)) (by rfl) (by kernel_rfl) ?_ | refine ldL (by repeat (first | exact mq0 | apply mq1 | apply mq2)) (by rfl) (by kernel_rfl) ?_ | refine la0 (by repeat (first | exact mq0 | apply mq1 | apply mq2)) (by rfl) (by kernel_rfl) ?_ | refine la1 (by repeat (first | exact mq0 | apply mq1 | apply mq2)) (by rfl) (by kernel_rfl) ?_) | ((with_reducible show holds _ _ _ _ (.unit (Instr.storeAt _ _ _) _) _); refine stU (by repeat (first | exact Upd.here | apply Upd.there | apply Upd.right)) (by kernel_rfl) (by rfl) (by simp [Value.cells]) ?_) | ((with_reducible show holds _ _ _ _ (.pin (vN (Instr.loadAt _ _)) _ _) _); first | refine pnA (by repeat (first | exact mq0 | apply mq1 | apply mq2)) (by rfl) (by kernel_rfl) ?_ | refine pn1 (by repeat (first | exact mq0 | apply mq1 | apply mq2)) (by rfl) (by kernel_rfl) ?_)); try dsimp only [getL]))
    refine h_row (e := 37) ⟨(askSQ b).cs⟩ (by kernel_rfl) fun g10 hg10 hI10 => ?_
    dsimp only
    refine h_append (cl_.aff _) eb_BabelTlv (by kernel_rfl) (cs2 := (askSQ b).cs) (fun _ => ⟨_, rfl, cellsM' (by repeat (first | exact mq0 | apply mq1 | apply mq2)) rfl⟩) (by simp) rfl (by simp) (m := m) (by repeat (first | exact Pick.here | exact Pick.one | exact Pick.all | apply Pick.two | apply Pick.cons | apply Pick.app)) ho.1 (by omega) (by omega) ?_
    intro A' c' m' ho'
    (repeat ((first | ((with_reducible show holds _ _ _ _ (.sem (Instr.alloc 34 _ _) _ _) _); refine h_alloc zb_Prefix fun _ _ _ => ?_) | ((with_reducible show holds _ _ _ _ (.sem (Instr.alloc 37 _ _) _ _) _); refine h_alloc zb_BabelTlv_37 fun _ _ _ => ?_) | ((with_reducible show holds _ _ _ _ (.rd (Instr.loadAt _ (.pointer _)) _ _) _); first | refine ldI (by repeat (first | exact mq0 | apply mq1 | apply mq2)) (by rfl) (by kernel_rfl) ?_ | refine ldL (by repeat (first | exact mq0 | apply mq1 | apply mq2)) (by rfl) (by kernel_rfl) ?_ | refine la0 (by repeat (first | exact mq0 | apply mq1 | apply mq2)) (by rfl) (by kernel_rfl) ?_ | refine la1 (by repeat (first | exact mq0 | apply mq1 | apply mq2)) (by rfl) (by kernel_rfl) ?_) | ((with_reducible show holds _ _ _ _ (.unit (Instr.storeAt _ _ _) _) _); refine stU (by repeat (first | exact Upd.here | apply Upd.there | apply Upd.right)) (by kernel_rfl) (by rfl) (by simp [Value.cells]) ?_) | ((with_reducible show holds _ _ _ _ (.pin (vN (Instr.loadAt _ _)) _ _) _); first | refine pnA (by repeat (first | exact mq0 | apply mq1 | apply mq2)) (by rfl) (by kernel_rfl) ?_ | refine pn1 (by repeat (first | exact mq0 | apply mq1 | apply mq2)) (by rfl) (by kernel_rfl) ?_)); try dsimp only [getL]))
    rw [rqs_add s (askST b)]
    by_cases hk2 : okP (bitsD b 1) (b.drop 14) = true
    · have hq : askSQ b = askST b := by unfold askSQ askST; rw [(rpN_ok hk2).1, (rpN_ok hk2).2]
      rw [hq] at ho'
      rw [show askD s 10 b = some (s.add (askST b)) by rw [e0]; simp [hk2, b5, h14], hk2]
      exact h_end (h1 := [(w, .cells (rqs A' c' (s.add (askST b))) 65 (0, 0))] ++ m') (by repeat (first | exact Pick.here | exact Pick.one | exact Pick.all | apply Pick.two | apply Pick.cons | apply Pick.app)) ⟨rfl, ⟨hs.router, hs.last⟩, A', c', m', rfl, ho.snoc (askST_ok b) ho'⟩
    · rw [show askD s 10 b = none by rw [e0]; simp [hk2, b5, h14], show okP (bitsD b 1) (b.drop 14) = false by simpa using hk2]
      exact h_end0 rfl
end Go.Proofs.YtcfnliodgoenkaaS
