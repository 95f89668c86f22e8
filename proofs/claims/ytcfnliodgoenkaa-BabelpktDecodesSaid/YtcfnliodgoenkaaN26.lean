import Derived.Test.YtcfnliodgoenkaaN25
import Derived.Test.YtcfnliodgoenkaaTA
set_option linter.unusedVariables false
namespace Go.Proofs.YtcfnliodgoenkaaS
theorem rnum2_in {I : Ctx} {A : Option Addr} {n c : Nat} {l : List UInt8} {i : Nat} (hr : RdB I A n l) (hn : n ≤ c) (hc : n ≤ maxLen) (hi : i + 2 ≤ l.length) :
    Fn Try.prog 35 #[.slice A n c, .int .i64 (i : Int)] I [] (fun v h' => v = .int .i64 (num l i 2 : Nat) ∧ h' = []) := by
  have hlt := num_lt l i 2
  refine r_octroiref06_num2 _ _ _ _ ?_
  refine h_call0 (getL [{ i := (num l i 2 : Nat) }, { b := true }]) ca_octroiref01_Get (fun hl => rget_in (k := 2) (hr.up (Sub.self.up hl)) hn hc (by omega) hi) rfl ?_
  dsimp only [getL]
  refine h_end0 ⟨?_, rfl⟩
  rw [wrap64 (by omega)]
theorem rnum8_in {I : Ctx} {A : Option Addr} {n c : Nat} {l : List UInt8} {i : Nat} (hr : RdB I A n l) (hn : n ≤ c) (hc : n ≤ maxLen) (hi : i + 8 ≤ l.length) (hi2 : i < 1000) :
    Fn Try.prog 64 #[.slice A n c, .int .i64 (i : Int)] I [] (fun v h' => v = .int .u64 (num8N l i : Nat) ∧ h' = []) := by
  have h1 := num_lt l i 4
  have h2 := num_lt l (i + 4) 4
  refine r_octroiref06_num8 _ _ _ _ ?_
  refine h_call0 (getL [{ i := (num l i 4 : Nat) }, { b := true }]) ca_octroiref01_Get (fun hl => rget_in (k := 4) (hr.up (Sub.self.up hl)) hn hc (by omega) (by omega)) rfl ?_
  dsimp only [getL]
  rw [wrap64 (x := (i : Int) + 4) (by omega), show (i : Int) + 4 = ((i + 4 : Nat) : Int) by omega]
  refine h_call0 (getL [{ i := (num l (i + 4) 4 : Nat) }, { b := true }]) ca_octroiref01_Get (fun hl => rget_in (k := 4) (hr.up (Sub.self.up hl)) hn hc (by omega) (by omega)) rfl ?_
  dsimp only [getL]
  refine h_end0 ⟨?_, rfl⟩
  have hw : ∀ n : Nat, n < 18446744073709551616 → IntKind.wrap .u64 (n : Int) = (n : Int) := fun n hn => by
    show (n : Int) % 18446744073709551616 = _; omega
  rw [hw _ (by omega), hw _ (by omega), show ((num l i 4 : Nat) : Int) * 4294967296 = ((num l i 4 * 4294967296 : Nat) : Int) by omega, hw _ (by omega), show ((num l i 4 * 4294967296 : Nat) : Int) + ((num l (i + 4) 4 : Nat) : Int) = ((num l i 4 * 4294967296 + num l (i + 4) 4 : Nat) : Int) by omega, hw _ (by omega)]
  rfl
theorem rpref_loop {I : Ctx} {n : Int} (hn : 0 ≤ n ∧ n ≤ 255) : ∀ (q : Nat) (L : List UInt8) (y4 : Nat) (A : Option Addr) (c : Nat) (u : Nat → Value) (h m hr' : Mem),
    L.length + q = 4 → OwnB A L.length c L m → Pick h ([(y4, .cells #[.int .u32 0, .int .i64 0] 34 (0, 0))] ++ m) hr' →
    Wp Try.prog 65 k_octroiref06_prefix_1 (t_octroiref06_prefix_1 n y4 A L.length c u) I h
      (cl_ fun v h' => v = .tuple #[.agg #[.int .u32 (val (L ++ List.replicate q 0) : Nat), .int .i64 n], .bool (mayB (val (L ++ List.replicate q 0)) n)] ∧ h' = []) := by
  intro q
  induction q with
  | zero =>
    intro L y4 A c u h m hr' hq ho hp
    refine r_octroiref06_prefix_1 _ _ _ _ _ _ ?_
    refine holds_perm (cl_.aff _) (g := (y4, .cells #[.int .u32 0, .int .i64 0] 34 (0, 0)) :: (m ++ hr')) hp ?_
    have h4 : L.length = 4 := by omega
    have hlt := val_lt L
    rw [h4] at hlt
    refine h_no (by simp; omega) ?_
    refine h_call0 (v := .tuple #[.int .u32 (num L 0 4 : Nat), .bool true]) (getL [{ i := (val L : Nat) }, { b := true }]) ca_octroiref01_Get (fun hl => rget_in (i := 0) (k := 4) (ho.rdb hl (fun x hx => by first | (simp [hx]; done) | (rw [List.mem_singleton] at hx; subst hx; simp; done))) ho.2.1 (by unfold maxLen; omega) (by omega) (by omega)) (by rw [num_all h4]; rfl) ?_
    dsimp only [getL]
    (repeat ((first | ((with_reducible show holds _ _ _ _ (.sem (Instr.alloc 34 _ _) _ _) _); refine h_alloc zb_Prefix fun _ _ _ => ?_) | ((with_reducible show holds _ _ _ _ (.rd (Instr.loadAt _ (.pointer _)) _ _) _); refine la1 (by repeat (first | exact mq0 | apply mq1 | apply mq2)) (by rfl) (by kernel_rfl) ?_) | ((with_reducible show holds _ _ _ _ (.rd (loadVar _ _) _ _) _); refine lv1 (by repeat (first | exact mq0 | apply mq1 | apply mq2)) (by rfl) (by kernel_rfl) ?_) | ((with_reducible show holds _ _ _ _ (.unit (Instr.storeAt _ _ _) _) _); refine stU (by repeat (first | exact Upd.here | apply Upd.there | apply Upd.right)) (by kernel_rfl) (by rfl) (by simp [Value.cells]) ?_)); try dsimp only [getL]))
    refine h_call0 (fun _ => { b := mayB (val L) n }) ca_octroiref02_May (fun hl => rmay_spec (a := val L) (by omega) (by omega)) rfl ?_
    dsimp only
    (repeat ((first | ((with_reducible show holds _ _ _ _ (.sem (Instr.alloc 34 _ _) _ _) _); refine h_alloc zb_Prefix fun _ _ _ => ?_) | ((with_reducible show holds _ _ _ _ (.rd (Instr.loadAt _ (.pointer _)) _ _) _); refine la1 (by repeat (first | exact mq0 | apply mq1 | apply mq2)) (by rfl) (by kernel_rfl) ?_) | ((with_reducible show holds _ _ _ _ (.rd (loadVar _ _) _ _) _); refine lv1 (by repeat (first | exact mq0 | apply mq1 | apply mq2)) (by rfl) (by kernel_rfl) ?_) | ((with_reducible show holds _ _ _ _ (.unit (Instr.storeAt _ _ _) _) _); refine stU (by repeat (first | exact Upd.here | apply Upd.there | apply Upd.right)) (by kernel_rfl) (by rfl) (by simp [Value.cells]) ?_)); try dsimp only [getL]))
    exact h_end0 ⟨by simp, rfl⟩
  | succ q ih =>
    intro L y4 A c u h m hr' hq ho hp
    refine r_octroiref06_prefix_1 _ _ _ _ _ _ ?_
    refine holds_perm (cl_.aff _) (g := (y4, .cells #[.int .u32 0, .int .i64 0] 34 (0, 0)) :: (m ++ hr')) hp ?_
    refine h_yes (by simp; omega) ?_
    refine h_row (e := 5) #[.int .u8 0] (by kernel_rfl) fun g2 hg2 hI2 => ?_
    dsimp only
    refine h_append (cl_.aff _) eb_uint8 (by kernel_rfl) (cs2 := bC [0]) (fun _ => ⟨_, rfl, cellsM' (by repeat (first | exact mq0 | apply mq1 | apply mq2)) rfl⟩) (by simp) rfl (bC_plain _) (m := m) (by repeat (first | exact Pick.here | exact Pick.one | exact Pick.all | apply Pick.two | apply Pick.cons | apply Pick.app)) ho (by omega) (by omega) ?_
    intro A' c' m' ho'
    rw [← bC_append] at ho'
    have e : (L ++ [0]).length = L.length + 1 := by simp
    rw [← e] at ho'
    dsimp only
    rw [← e]
    refine h_stop fun hl2 => ?_
    rw [show L ++ List.replicate (q + 1) 0 = (L ++ [0]) ++ List.replicate q 0 by simp [List.replicate_succ]]
    exact ih (L ++ [0]) y4 A' c' _ _ m' _ (by omega) ho' (by repeat (first | exact Pick.here | exact Pick.one | exact Pick.all | apply Pick.two | apply Pick.cons | apply Pick.app))
theorem pad_rep {l : List UInt8} (h : l.length ≤ 4) : l ++ List.replicate (4 - l.length) 0 = padB l := by
  unfold padB
  rw [List.take_of_length_le h]
  congr 1
  have c : l.length = 0 ∨ l.length = 1 ∨ l.length = 2 ∨ l.length = 3 ∨ l.length = 4 := by omega
  rcases c with c | c | c | c | c <;> rw [c] <;> rfl
/-- What the reference's prefix is. -/
def rpA (n : Int) (l : List UInt8) : Nat := if 32 < n then 0 else if l.length ≠ nd n then 0 else prefV l
def rpN (n : Int) (l : List UInt8) : Int := if 32 < n then 0 else if l.length ≠ nd n then 0 else n
theorem rprefix_spec {I : Ctx} {A : Option Addr} {k c : Nat} {l : List UInt8} {n : Int} (hr : RdB I A k l) (hk : k ≤ c) (hk2 : k ≤ 1000) (hn : 0 ≤ n ∧ n ≤ 255) :
    Fn Try.prog 65 #[.int .i64 n, .slice A k c] I [] (fun v h' => v = .tuple #[.agg #[.int .u32 (rpA n l : Nat), .int .i64 (rpN n l)], .bool (okP n l)] ∧ h' = []) := by
  have hlen := hr.len
  refine r_octroiref06_prefix _ _ _ _ ?_
  (repeat ((first | ((with_reducible show holds _ _ _ _ (.sem (Instr.alloc 34 _ _) _ _) _); refine h_alloc zb_Prefix fun _ _ _ => ?_) | ((with_reducible show holds _ _ _ _ (.rd (Instr.loadAt _ (.pointer _)) _ _) _); refine la1 (by repeat (first | exact mq0 | apply mq1 | apply mq2)) (by rfl) (by kernel_rfl) ?_) | ((with_reducible show holds _ _ _ _ (.rd (loadVar _ _) _ _) _); refine lv1 (by repeat (first | exact mq0 | apply mq1 | apply mq2)) (by rfl) (by kernel_rfl) ?_) | ((with_reducible show holds _ _ _ _ (.unit (Instr.storeAt _ _ _) _) _); refine stU (by repeat (first | exact Upd.here | apply Upd.there | apply Upd.right)) (by kernel_rfl) (by rfl) (by simp [Value.cells]) ?_)); try dsimp only [getL]))
  refine h_ite (fun t0 => ?_) (fun t0 => ?_)
  · have h0 : 32 < n := by simpa using t0
    (repeat ((first | ((with_reducible show holds _ _ _ _ (.sem (Instr.alloc 34 _ _) _ _) _); refine h_alloc zb_Prefix fun _ _ _ => ?_) | ((with_reducible show holds _ _ _ _ (.rd (Instr.loadAt _ (.pointer _)) _ _) _); refine la1 (by repeat (first | exact mq0 | apply mq1 | apply mq2)) (by rfl) (by kernel_rfl) ?_) | ((with_reducible show holds _ _ _ _ (.rd (loadVar _ _) _ _) _); refine lv1 (by repeat (first | exact mq0 | apply mq1 | apply mq2)) (by rfl) (by kernel_rfl) ?_) | ((with_reducible show holds _ _ _ _ (.unit (Instr.storeAt _ _ _) _) _); refine stU (by repeat (first | exact Upd.here | apply Upd.there | apply Upd.right)) (by kernel_rfl) (by rfl) (by simp [Value.cells]) ?_)); try dsimp only [getL]))
    refine h_end0 ⟨?_, rfl⟩
    unfold rpA rpN okP mayB
    rw [if_pos h0, if_pos h0, decide_eq_false (show ¬ n ≤ 32 by omega)]
    simp
  have h0 : ¬ 32 < n := by simpa using t0
  refine h_call0 (v := .int .i64 (nd n : Nat)) (fun _ => { i := (nd n : Nat) }) ca_octroiref06_needs (fun hl => octroiref06_needs_nd hn) rfl ?_
  dsimp only
  refine h_ite (fun t1 => ?_) (fun t1 => ?_)
  · have h1 : l.length ≠ nd n := by intro e; rw [← hlen, e] at t1; simp at t1
    (repeat ((first | ((with_reducible show holds _ _ _ _ (.sem (Instr.alloc 34 _ _) _ _) _); refine h_alloc zb_Prefix fun _ _ _ => ?_) | ((with_reducible show holds _ _ _ _ (.rd (Instr.loadAt _ (.pointer _)) _ _) _); refine la1 (by repeat (first | exact mq0 | apply mq1 | apply mq2)) (by rfl) (by kernel_rfl) ?_) | ((with_reducible show holds _ _ _ _ (.rd (loadVar _ _) _ _) _); refine lv1 (by repeat (first | exact mq0 | apply mq1 | apply mq2)) (by rfl) (by kernel_rfl) ?_) | ((with_reducible show holds _ _ _ _ (.unit (Instr.storeAt _ _ _) _) _); refine stU (by repeat (first | exact Upd.here | apply Upd.there | apply Upd.right)) (by kernel_rfl) (by rfl) (by simp [Value.cells]) ?_)); try dsimp only [getL]))
    refine h_end0 ⟨?_, rfl⟩
    unfold rpA rpN okP
    rw [if_neg h0, if_neg h0, if_pos h1, if_pos h1, decide_eq_false h1]
    rfl
  have h1 : l.length = nd n := by simp at t1; omega
  have hnd : nd n ≤ 4 := nd_le (by omega)
  refine h_append (cl_.aff _) eb_uint8 (by kernel_rfl) (cs2 := bC l) (hr.rd.sub Sub.self) hr.nil (by simpa using hlen) (bC_plain _) (m := []) (by repeat (first | exact Pick.here | exact Pick.one | exact Pick.all | apply Pick.two | apply Pick.cons | apply Pick.app)) (Own.nil _ _) (by omega) (by omega) ?_
  intro A5 c5 m5 ho5
  rw [Nat.zero_add, List.nil_append] at ho5
  dsimp only
  rw [Nat.zero_add]
  refine h_stop fun hl2 => ?_
  rw [← hlen] at ho5 ⊢
  rw [show rpA n l = val (padB l) by unfold rpA; rw [if_neg h0, if_neg (by simp [h1])]; rfl, show rpN n l = n by unfold rpN; rw [if_neg h0, if_neg (by simp [h1])], show okP n l = mayB (val (padB l)) n by unfold okP; rw [decide_eq_true h1, Bool.true_and]; rfl, ← pad_rep (show l.length ≤ 4 by omega)]
  exact rpref_loop (I := I) hn (4 - l.length) l _ A5 c5 _ _ m5 _ (by omega) ho5 (by repeat (first | exact Pick.here | exact Pick.one | exact Pick.all | apply Pick.two | apply Pick.cons | apply Pick.app))
end Go.Proofs.YtcfnliodgoenkaaS
