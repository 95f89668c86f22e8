import Derived.Test.YtenlioajflbegaaDoorN10
import Derived.Test.YtenlioajflbegaaDoorSV
import Derived.Test.YtenlioajflbegaaDoorTA
set_option linter.unusedVariables false
set_option maxRecDepth 20000
namespace Go.Proofs.YtenlioajflbegaaDoorS
def eqP (a : Nat) (n : Int) (b : Nat) (m : Int) : Bool := decide (a = b) && decide (n = m)
theorem eq_all {a b : Nat} {n m : Int} : [((a : Nat) : Int) == ((b : Nat) : Int), n == m].all id = eqP a n b m := by
  unfold eqP
  simp only [List.all_cons, List.all_nil, id, Bool.and_true]
  congr 1
  · rw [Bool.eq_iff_iff]; simp only [beq_iff_eq, decide_eq_true_eq]; omega
section
variable {I : Ctx} {f : FuncId} {Q : Value → Mem → Prop} {h : Mem} {k : (Nat → Leaf) → Tr} {x y : Operand}
theorem h_eqP {a b : Nat} {n m : Int} (hk : holds Tryd.prog f I Q (k fun _ => { b := eqP a n b m }) h) : holds Tryd.prog f I Q (.rdn (eqN .eql 24 x y (.agg #[.int .u32 a, .int .i64 n]) (.agg #[.int .u32 b, .int .i64 m])) (.one (.sc .bool)) k) h := by
  refine h_eqlA [((a : Nat) : Int) == ((b : Nat) : Int), n == m] (by kernel_rfl) (by kernel_rfl) ?_
  rw [eq_all]; exact hk
theorem h_neP {a b : Nat} {n m : Int} (hk : holds Tryd.prog f I Q (k fun _ => { b := !eqP a n b m }) h) : holds Tryd.prog f I Q (.rdn (eqN .neq 24 x y (.agg #[.int .u32 a, .int .i64 n]) (.agg #[.int .u32 b, .int .i64 m])) (.one (.sc .bool)) k) h := by
  refine h_neqA [((a : Nat) : Int) == ((b : Nat) : Int), n == m] (by kernel_rfl) (by kernel_rfl) ?_
  rw [eq_all]; exact hk
end
section
variable {P : Program} {I : Ctx} {f : FuncId} {Q : Value → Mem → Prop} {h : Mem} {x y : Tr} {b : Bool}
theorem h_nyes (hb : b = false) (ht : holds P f I Q x h) : holds P f I Q (.ite (!b) x y) h := h_yes (by rw [hb]; rfl) ht
theorem h_nno (hb : b = true) (ht : holds P f I Q y h) : holds P f I Q (.ite (!b) x y) h := h_no (by rw [hb]; rfl) ht
theorem h_nite (ht : b = false → holds P f I Q x h) (hf : b = true → holds P f I Q y h) : holds P f I Q (.ite (!b) x y) h := h_ite (fun t => ht (by simpa using t)) (fun t => hf (by simpa using t))
end
theorem parse_10 : parseP [49, 48, 46, 48, 46, 48, 46, 49, 47, 56] = none := by decide +kernel
theorem show_10 : showL 167772160 8 = [49, 48, 46, 48, 46, 48, 46, 48, 47, 56] := by
  rw [showL_eq, show (8 : Int) = ((8 : Nat) : Int) from rfl, itoa_nat, dec_eq (by decide), dec_eq (by decide), dec_eq (by decide), dec_eq (by decide), dec_eq (by decide)]
  decide
theorem awake_spec {I : Ctx} (hg : Glob I) : Fn Tryd.prog 11 #[] I [] (fun v h' => v = .bool true ∧ h' = []) := by
  refine r_octroilaw02_awake ?_
  refine h_call0 (getL [{ i := 167772160 }, { i := 8 }, { i := 0 }]) ca_prefix_Make (fun hl => make_spec (a := 167838211) (n := 8) (by decide) (by decide)) (by rw [show makeP 167838211 8 = some (167772160, 8) from by decide +kernel]; rfl) ?_
  dsimp only [getL]
  (repeat ((first | refine h_box fun _ _ _ => ?_ | ((with_reducible show holds _ _ _ _ (.sem (Instr.alloc 24 _ _) _ _) _); refine h_alloc zb_Prefix fun _ _ _ => ?_) | ((with_reducible show holds _ _ _ _ (.rd (Instr.loadAt _ (.pointer _)) _ _) _); refine la0 (by repeat (first | exact mq0 | apply mq1 | apply mq2)) (by rfl) (by kernel_rfl) ?_) | ((with_reducible show holds _ _ _ _ (.unit (Instr.storeAt _ _ _) _) _); refine stU (by repeat (first | exact Upd.here | apply Upd.there | apply Upd.right)) (by kernel_rfl) (by rfl) (by simp [Value.cells]) ?_)); try dsimp only [getL]))
  refine h_call0 (getL [{ i := 0 }, { i := 0 }, { i := 2 }]) ca_prefix_Parse (fun hl => parse_spec (s := [49, 48, 46, 48, 46, 48, 46, 49, 47, 56]) (hg.plus hl) (by decide)) (by rw [parse_10]; rfl) ?_
  dsimp only [getL]
  (repeat ((first | refine h_box fun _ _ _ => ?_ | ((with_reducible show holds _ _ _ _ (.sem (Instr.alloc 24 _ _) _ _) _); refine h_alloc zb_Prefix fun _ _ _ => ?_) | ((with_reducible show holds _ _ _ _ (.rd (Instr.loadAt _ (.pointer _)) _ _) _); refine la0 (by repeat (first | exact mq0 | apply mq1 | apply mq2)) (by rfl) (by kernel_rfl) ?_) | ((with_reducible show holds _ _ _ _ (.unit (Instr.storeAt _ _ _) _) _); refine stU (by repeat (first | exact Upd.here | apply Upd.there | apply Upd.right)) (by kernel_rfl) (by rfl) (by simp [Value.cells]) ?_)); try dsimp only [getL]))
  refine h_yes (by decide) ?_
  (repeat ((first | refine h_box fun _ _ _ => ?_ | ((with_reducible show holds _ _ _ _ (.sem (Instr.alloc 24 _ _) _ _) _); refine h_alloc zb_Prefix fun _ _ _ => ?_) | ((with_reducible show holds _ _ _ _ (.rd (Instr.loadAt _ (.pointer _)) _ _) _); refine la0 (by repeat (first | exact mq0 | apply mq1 | apply mq2)) (by rfl) (by kernel_rfl) ?_) | ((with_reducible show holds _ _ _ _ (.unit (Instr.storeAt _ _ _) _) _); refine stU (by repeat (first | exact Upd.here | apply Upd.there | apply Upd.right)) (by kernel_rfl) (by rfl) (by simp [Value.cells]) ?_)); try dsimp only [getL]))
  refine h_eqP (a := 167772160) (b := 167772160) ?_
  refine h_yes (by decide) ?_
  refine h_yes (by decide) ?_
  (repeat ((first | refine h_box fun _ _ _ => ?_ | ((with_reducible show holds _ _ _ _ (.sem (Instr.alloc 24 _ _) _ _) _); refine h_alloc zb_Prefix fun _ _ _ => ?_) | ((with_reducible show holds _ _ _ _ (.rd (Instr.loadAt _ (.pointer _)) _ _) _); refine la0 (by repeat (first | exact mq0 | apply mq1 | apply mq2)) (by rfl) (by kernel_rfl) ?_) | ((with_reducible show holds _ _ _ _ (.unit (Instr.storeAt _ _ _) _) _); refine stU (by repeat (first | exact Upd.here | apply Upd.there | apply Upd.right)) (by kernel_rfl) (by rfl) (by simp [Value.cells]) ?_)); try dsimp only [getL]))
  refine h_call0 (fun _ => { s := bS [49, 48, 46, 48, 46, 48, 46, 48, 47, 56] }) ca_prefix_Show (fun hl => show_spec (a := 167772160) (n := 8) (hg.plus hl) (by decide) (by decide)) (by rw [show_10]; rfl) ?_
  dsimp only
  refine h_yes (by show ((bS _).toList == (bS [49, 48, 46, 48, 46, 48, 46, 48, 47, 56]).toList) = true; simp) ?_
  (repeat ((first | refine h_box fun _ _ _ => ?_ | ((with_reducible show holds _ _ _ _ (.sem (Instr.alloc 24 _ _) _ _) _); refine h_alloc zb_Prefix fun _ _ _ => ?_) | ((with_reducible show holds _ _ _ _ (.rd (Instr.loadAt _ (.pointer _)) _ _) _); refine la0 (by repeat (first | exact mq0 | apply mq1 | apply mq2)) (by rfl) (by kernel_rfl) ?_) | ((with_reducible show holds _ _ _ _ (.unit (Instr.storeAt _ _ _) _) _); refine stU (by repeat (first | exact Upd.here | apply Upd.there | apply Upd.right)) (by kernel_rfl) (by rfl) (by simp [Value.cells]) ?_)); try dsimp only [getL]))
  refine h_call0 (fun _ => { b := true }) ca_prefix_Covers (fun hl => covers_spec (a := 167772160) (n := 8) (b := 167837696) (m := 16) (by decide) (by decide) (by decide) (by decide)) (by rw [show coversB 167772160 8 167837696 16 = true from by decide]; rfl) ?_
  exact h_end0 ⟨rfl, rfl⟩
/-! Plain laws. -/
theorem div_more {x y s t : Nat} (h : x / 2 ^ s = y / 2 ^ s) (hst : s ≤ t) : x / 2 ^ t = y / 2 ^ t := by
  obtain ⟨d, rfl⟩ := Nat.exists_eq_add_of_le hst
  rw [Nat.pow_add, ← Nat.div_div_eq_div_mul, ← Nat.div_div_eq_div_mul, h]
theorem has_out {a x : Nat} {n : Int} : hasB a n x = true ↔ mayB a n = true ∧ x / 2 ^ sh n = a / 2 ^ sh n := by
  unfold hasB; simp only [Bool.and_eq_true, decide_eq_true_eq]
theorem cov_out {a b : Nat} {n m : Int} : coversB a n b m = true ↔ mayB b m = true ∧ n ≤ m ∧ mayB a n = true ∧ b / 2 ^ sh n = a / 2 ^ sh n := by
  unfold coversB; simp only [Bool.and_eq_true, decide_eq_true_eq, has_out]
theorem sh_le {n m : Int} (h : n ≤ m) : sh m ≤ sh n := by unfold sh; omega
theorem cov_trans {a b c : Nat} {n m k : Int} (h1 : coversB a n b m = true) (h2 : coversB b m c k = true) : coversB a n c k = true := by
  rw [cov_out] at *
  obtain ⟨mb, hnm, ma, e1⟩ := h1
  obtain ⟨mc, hmk, _, e2⟩ := h2
  exact ⟨mc, by omega, ma, (div_more e2 (sh_le hnm)).trans e1⟩
theorem may_eq {a b : Nat} {n : Int} (ha : mayB a n = true) (hb : mayB b n = true) (h : b / 2 ^ sh n = a / 2 ^ sh n) : a = b := by
  have h1 := (may_mod ha).2.2
  have h2 := (may_mod hb).2.2
  have h3 := Nat.div_add_mod a (2 ^ sh n)
  have h4 := Nat.div_add_mod b (2 ^ sh n)
  rw [h, h2, ← h1, h3] at h4
  exact h4
theorem cov_anti {a b : Nat} {n m : Int} (h1 : coversB a n b m = true) (h2 : coversB b m a n = true) : eqP a n b m = true := by
  rw [cov_out] at *
  obtain ⟨mb, hnm, ma, e1⟩ := h1
  obtain ⟨_, hmn, _, e2⟩ := h2
  obtain rfl : n = m := by omega
  unfold eqP
  rw [decide_eq_true (may_eq ma mb e1), decide_eq_true rfl]
  rfl
theorem cov_has {a b x : Nat} {n m : Int} (h1 : coversB a n b m = true) (h2 : hasB b m x = true) : hasB a n x = true := by
  rw [cov_out] at h1
  rw [has_out] at *
  obtain ⟨mb, hnm, ma, e1⟩ := h1
  exact ⟨ma, (div_more h2.2 (sh_le hnm)).trans e1⟩
theorem has_both {a b x : Nat} {n m : Int} (h1 : hasB a n x = true) (h2 : hasB b m x = true) : coversB a n b m = true ∨ coversB b m a n = true := by
  rw [has_out] at *
  rw [cov_out, cov_out]
  rcases Int.le_total n m with h | h
  · exact .inl ⟨h2.1, h, h1.1, (div_more h2.2 (sh_le h)).symm.trans h1.2⟩
  · exact .inr ⟨h1.1, h, h2.1, (div_more h1.2 (sh_le h)).symm.trans h2.2⟩
theorem less_refl {a b : Nat} {n m : Int} (h : eqP a n b m = true) : lessB a n b m = false := by
  unfold eqP at h
  simp only [Bool.and_eq_true, decide_eq_true_eq] at h
  obtain ⟨rfl, rfl⟩ := h
  unfold lessB; simp
theorem less_tot {a b : Nat} {n m : Int} (h : eqP a n b m = false) : lessB b m a n = !lessB a n b m := by
  unfold eqP at h
  unfold lessB
  rw [Bool.eq_iff_iff]
  simp only [Bool.and_eq_false_iff, decide_eq_false_iff_not, Bool.or_eq_true, Bool.and_eq_true, decide_eq_true_eq, Bool.not_eq_true', Bool.or_eq_false_iff] at *
  omega
theorem cov_less {a b : Nat} {n m : Int} (h : eqP a n b m = false) (h1 : coversB a n b m = true) : lessB a n b m = true := by
  rw [cov_out] at h1
  obtain ⟨mb, hnm, ma, e1⟩ := h1
  have h2 := (may_mod ma).2.2
  have h3 := Nat.div_add_mod a (2 ^ sh n)
  have h4 := Nat.div_add_mod b (2 ^ sh n)
  rw [e1] at h4
  have hle : a ≤ b := by omega
  unfold eqP at h
  unfold lessB
  simp only [Bool.and_eq_false_iff, decide_eq_false_iff_not, Bool.or_eq_true, Bool.and_eq_true, decide_eq_true_eq] at *
  omega
set_option maxHeartbeats 4000000 in
theorem law_PrefixNests {I : Ctx} (hg : Glob I) {a b c x : Nat} {n m k : Int} (ha : a < 4294967296) (hn : R64 n) (hb : b < 4294967296) (hm : R64 m) (hc : c < 4294967296) (hk : R64 k) (hx : x < 4294967296) :
    Fn Tryd.prog 5 #[.agg #[.int .u32 (a : Int), .int .i64 n], .agg #[.int .u32 (b : Int), .int .i64 m], .agg #[.int .u32 (c : Int), .int .i64 k], .int .u32 (x : Int)] I [] (fun v h' => v = .bool true ∧ h' = []) := by
  refine r_octroilaw02_PrefixNests _ _ _ _ _ _ _ ?_
  have f1 : coversB a n b m = true → coversB b m c k = true → coversB a n c k = true := cov_trans
  have f2 : coversB a n b m = true → coversB b m a n = true → eqP a n b m = true := cov_anti
  have f3 : coversB a n b m = true → hasB b m x = true → hasB a n x = true := cov_has
  have f4 : hasB a n x = true → hasB b m x = true → coversB a n b m = true ∨ coversB b m a n = true := has_both
  repeat' (first
    | ((first | refine h_box fun _ _ _ => ?_ | ((with_reducible show holds _ _ _ _ (.sem (Instr.alloc 24 _ _) _ _) _); refine h_alloc zb_Prefix fun _ _ _ => ?_) | ((with_reducible show holds _ _ _ _ (.rd (Instr.loadAt _ (.pointer _)) _ _) _); refine la0 (by repeat (first | exact mq0 | apply mq1 | apply mq2)) (by rfl) (by kernel_rfl) ?_) | ((with_reducible show holds _ _ _ _ (.unit (Instr.storeAt _ _ _) _) _); refine stU (by repeat (first | exact Upd.here | apply Upd.there | apply Upd.right)) (by kernel_rfl) (by rfl) (by simp [Value.cells]) ?_)); try dsimp only [getL])
    | refine h_yes (by assumption) ?_
    | refine h_no (by assumption) ?_
    | refine h_nyes (by assumption) ?_
    | refine h_nno (by assumption) ?_
    | refine h_yes rfl ?_
    | refine h_no rfl ?_
    | (refine h_call0 (fun _ => { b := true }) ca_octroilaw02_awake (fun hl => awake_spec (hg.plus hl)) rfl ?_; dsimp only)
    | (refine h_call0 (fun _ => { b := coversB _ _ _ _ }) ca_prefix_Covers (fun hl => covers_spec (by assumption) (by assumption) (by assumption) (by assumption)) rfl ?_; dsimp only)
    | (refine h_call0 (fun _ => { b := hasB _ _ _ }) ca_prefix_Has (fun hl => has_spec (by assumption) (by assumption) (by assumption)) rfl ?_; dsimp only)
    | (refine h_call0 (fun _ => { b := lessB _ _ _ _ }) ca_prefix_Less (fun hl => less_spec) rfl ?_; dsimp only)
    | (refine h_eqP ?_; dsimp only)
    | (refine h_neP ?_; dsimp only)
    | refine h_nite (fun _ => ?_) (fun _ => ?_)
    | refine h_ite (fun _ => ?_) (fun _ => ?_))
  all_goals first | exact h_end0 ⟨rfl, rfl⟩ | (exfalso; simp_all; done) | (refine h_end0 ⟨congrArg Value.bool ?_, rfl⟩; simp_all; done)
end Go.Proofs.YtenlioajflbegaaDoorS
