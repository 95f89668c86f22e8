import Derived.Test.YtenlioajflbegaaDoorN11
import Derived.Test.YtenlioajflbegaaDoorTA
set_option linter.unusedVariables false
set_option maxRecDepth 20000
namespace Go.Proofs.YtenlioajflbegaaDoorS

set_option maxHeartbeats 4000000 in
theorem law_PrefixOrders {I : Ctx} (hg : Glob I) {a b : Nat} {n m : Int} (ha : a < 4294967296) (hn : R64 n) (hb : b < 4294967296) (hm : R64 m) :
    Fn Tryd.prog 8 #[.agg #[.int .u32 (a : Int), .int .i64 n], .agg #[.int .u32 (b : Int), .int .i64 m]] I [] (fun v h' => v = .bool true ∧ h' = []) := by
  refine r_octroilaw02_PrefixOrders _ _ _ _ ?_
  have f1 : eqP a n b m = true → lessB a n b m = false := less_refl
  have f2 : eqP a n b m = false → lessB b m a n = !lessB a n b m := less_tot
  have f3 : eqP a n b m = false → coversB a n b m = true → lessB a n b m = true := cov_less
  repeat' (first
    | ((first | refine h_box fun _ _ _ => ?_ | ((with_reducible show holds _ _ _ _ (.sem (Instr.alloc 24 _ _) _ _) _); refine h_alloc zb_Prefix fun _ _ _ => ?_) | ((with_reducible show holds _ _ _ _ (.rd (Instr.loadAt _ (.pointer _)) _ _) _); refine la0 (by repeat (first | exact mq0 | apply mq1 | apply mq2)) (by rfl) (by kernel_rfl) ?_) | ((with_reducible show holds _ _ _ _ (.unit (Instr.storeAt _ _ _) _) _); refine stU (by repeat (first | exact Upd.here | apply Upd.there | apply Upd.right)) (by kernel_rfl) (by rfl) (by simp [Value.cells]) ?_) | ((with_reducible show holds _ _ _ _ (.pin (vN (Instr.loadAt _ _)) _ _) _); first | refine pnA (by repeat (first | exact mq0 | apply mq1 | apply mq2)) (by rfl) (by kernel_rfl) ?_ | refine pn1 (by repeat (first | exact mq0 | apply mq1 | apply mq2)) (by rfl) (by kernel_rfl) ?_)); try dsimp only [getL])
    | refine h_yes (by assumption) ?_
    | refine h_no (by assumption) ?_
    | refine h_nyes (by assumption) ?_
    | refine h_nno (by assumption) ?_
    | refine h_yes rfl ?_
    | refine h_no rfl ?_
    | (refine h_call0 (fun _ => { b := true }) ca_octroilaw02_awake (fun hl => awake_spec (hg.plus hl)) rfl ?_; dsimp only)
    | (refine h_call0 (fun _ => { b := coversB _ _ _ _ }) ca_prefix_Covers (fun hl => covers_spec (by assumption) (by assumption) (by assumption) (by assumption)) rfl ?_; dsimp only)
    | (refine h_call0 (fun _ => { b := hasB _ _ _ }) ca_prefix_Has (fun hl => has_spec (by assumption) (by assumption) (by assumption)) rfl ?_; dsimp only)
    | (refine h_call0 (fun _ => { b := lessB _ _ _ _ }) ca_prefix_Less (fun hl => less_spec) rfl ?_; dsimp only)
    | (refine h_eqP ?_; dsimp only)
    | (refine h_neP ?_; dsimp only)
    | refine h_nite (fun _ => ?_) (fun _ => ?_)
    | refine h_ite (fun _ => ?_) (fun _ => ?_))
  all_goals first | exact h_end0 ⟨rfl, rfl⟩ | (exfalso; simp_all; done) | (refine h_end0 ⟨congrArg Value.bool ?_, rfl⟩; simp_all; done)
set_option maxHeartbeats 4000000 in
theorem law_PrefixHas {I : Ctx} (hg : Glob I) {a b x : Nat} {n m : Int} (ha : a < 4294967296) (hn : R64 n) (hb : b < 4294967296) (hm : R64 m) (hx : x < 4294967296) :
    Fn Tryd.prog 7 #[.agg #[.int .u32 (a : Int), .int .i64 n], .agg #[.int .u32 (b : Int), .int .i64 m], .int .u32 (x : Int)] I [] (fun v h' => v = .bool true ∧ h' = []) := by
  refine r_octroilaw02_PrefixHas _ _ _ _ _ ?_
  repeat' (first
    | ((first | refine h_box fun _ _ _ => ?_ | ((with_reducible show holds _ _ _ _ (.sem (Instr.alloc 24 _ _) _ _) _); refine h_alloc zb_Prefix fun _ _ _ => ?_) | ((with_reducible show holds _ _ _ _ (.rd (Instr.loadAt _ (.pointer _)) _ _) _); refine la0 (by repeat (first | exact mq0 | apply mq1 | apply mq2)) (by rfl) (by kernel_rfl) ?_) | ((with_reducible show holds _ _ _ _ (.unit (Instr.storeAt _ _ _) _) _); refine stU (by repeat (first | exact Upd.here | apply Upd.there | apply Upd.right)) (by kernel_rfl) (by rfl) (by simp [Value.cells]) ?_) | ((with_reducible show holds _ _ _ _ (.pin (vN (Instr.loadAt _ _)) _ _) _); first | refine pnA (by repeat (first | exact mq0 | apply mq1 | apply mq2)) (by rfl) (by kernel_rfl) ?_ | refine pn1 (by repeat (first | exact mq0 | apply mq1 | apply mq2)) (by rfl) (by kernel_rfl) ?_)); try dsimp only [getL])
    | refine h_yes (by assumption) ?_
    | refine h_no (by assumption) ?_
    | refine h_nyes (by assumption) ?_
    | refine h_nno (by assumption) ?_
    | refine h_yes rfl ?_
    | refine h_no rfl ?_
    | (refine h_call0 (fun _ => { b := true }) ca_octroilaw02_awake (fun hl => awake_spec (hg.plus hl)) rfl ?_; dsimp only)
    | (refine h_call0 (fun _ => { b := coversB _ _ _ _ }) ca_prefix_Covers (fun hl => covers_spec (by assumption) (by assumption) (by assumption) (by assumption)) rfl ?_; dsimp only)
    | (refine h_call0 (fun _ => { b := hasB _ _ _ }) ca_prefix_Has (fun hl => has_spec (by assumption) (by assumption) (by assumption)) rfl ?_; dsimp only)
    | (refine h_call0 (fun _ => { b := lessB _ _ _ _ }) ca_prefix_Less (fun hl => less_spec) rfl ?_; dsimp only)
    | (refine h_eqP ?_; dsimp only)
    | (refine h_neP ?_; dsimp only)
    | refine h_nite (fun _ => ?_) (fun _ => ?_)
    | refine h_ite (fun _ => ?_) (fun _ => ?_))
  refine h_call0 (fun _ => { b := hasB a n x }) ca_octroiref02_Has (fun hl => rhas_spec ha hn hx) rfl ?_
  refine h_yes (by simp) ?_
  repeat' (first
    | ((first | refine h_box fun _ _ _ => ?_ | ((with_reducible show holds _ _ _ _ (.sem (Instr.alloc 24 _ _) _ _) _); refine h_alloc zb_Prefix fun _ _ _ => ?_) | ((with_reducible show holds _ _ _ _ (.rd (Instr.loadAt _ (.pointer _)) _ _) _); refine la0 (by repeat (first | exact mq0 | apply mq1 | apply mq2)) (by rfl) (by kernel_rfl) ?_) | ((with_reducible show holds _ _ _ _ (.unit (Instr.storeAt _ _ _) _) _); refine stU (by repeat (first | exact Upd.here | apply Upd.there | apply Upd.right)) (by kernel_rfl) (by rfl) (by simp [Value.cells]) ?_) | ((with_reducible show holds _ _ _ _ (.pin (vN (Instr.loadAt _ _)) _ _) _); first | refine pnA (by repeat (first | exact mq0 | apply mq1 | apply mq2)) (by rfl) (by kernel_rfl) ?_ | refine pn1 (by repeat (first | exact mq0 | apply mq1 | apply mq2)) (by rfl) (by kernel_rfl) ?_)); try dsimp only [getL])
    | refine h_yes (by assumption) ?_
    | refine h_no (by assumption) ?_
    | refine h_nyes (by assumption) ?_
    | refine h_nno (by assumption) ?_
    | refine h_yes rfl ?_
    | refine h_no rfl ?_
    | (refine h_call0 (fun _ => { b := true }) ca_octroilaw02_awake (fun hl => awake_spec (hg.plus hl)) rfl ?_; dsimp only)
    | (refine h_call0 (fun _ => { b := coversB _ _ _ _ }) ca_prefix_Covers (fun hl => covers_spec (by assumption) (by assumption) (by assumption) (by assumption)) rfl ?_; dsimp only)
    | (refine h_call0 (fun _ => { b := hasB _ _ _ }) ca_prefix_Has (fun hl => has_spec (by assumption) (by assumption) (by assumption)) rfl ?_; dsimp only)
    | (refine h_call0 (fun _ => { b := lessB _ _ _ _ }) ca_prefix_Less (fun hl => less_spec) rfl ?_; dsimp only)
    | (refine h_eqP ?_; dsimp only)
    | (refine h_neP ?_; dsimp only)
    | refine h_nite (fun _ => ?_) (fun _ => ?_)
    | refine h_ite (fun _ => ?_) (fun _ => ?_))
  refine h_call0 (fun _ => { b := coversB a n b m }) ca_octroiref02_Covers (fun hl => rcovers_spec ha hn hb hm) rfl ?_
  refine h_yes (by simp) ?_
  repeat' (first
    | ((first | refine h_box fun _ _ _ => ?_ | ((with_reducible show holds _ _ _ _ (.sem (Instr.alloc 24 _ _) _ _) _); refine h_alloc zb_Prefix fun _ _ _ => ?_) | ((with_reducible show holds _ _ _ _ (.rd (Instr.loadAt _ (.pointer _)) _ _) _); refine la0 (by repeat (first | exact mq0 | apply mq1 | apply mq2)) (by rfl) (by kernel_rfl) ?_) | ((with_reducible show holds _ _ _ _ (.unit (Instr.storeAt _ _ _) _) _); refine stU (by repeat (first | exact Upd.here | apply Upd.there | apply Upd.right)) (by kernel_rfl) (by rfl) (by simp [Value.cells]) ?_) | ((with_reducible show holds _ _ _ _ (.pin (vN (Instr.loadAt _ _)) _ _) _); first | refine pnA (by repeat (first | exact mq0 | apply mq1 | apply mq2)) (by rfl) (by kernel_rfl) ?_ | refine pn1 (by repeat (first | exact mq0 | apply mq1 | apply mq2)) (by rfl) (by kernel_rfl) ?_)); try dsimp only [getL])
    | refine h_yes (by assumption) ?_
    | refine h_no (by assumption) ?_
    | refine h_nyes (by assumption) ?_
    | refine h_nno (by assumption) ?_
    | refine h_yes rfl ?_
    | refine h_no rfl ?_
    | (refine h_call0 (fun _ => { b := true }) ca_octroilaw02_awake (fun hl => awake_spec (hg.plus hl)) rfl ?_; dsimp only)
    | (refine h_call0 (fun _ => { b := coversB _ _ _ _ }) ca_prefix_Covers (fun hl => covers_spec (by assumption) (by assumption) (by assumption) (by assumption)) rfl ?_; dsimp only)
    | (refine h_call0 (fun _ => { b := hasB _ _ _ }) ca_prefix_Has (fun hl => has_spec (by assumption) (by assumption) (by assumption)) rfl ?_; dsimp only)
    | (refine h_call0 (fun _ => { b := lessB _ _ _ _ }) ca_prefix_Less (fun hl => less_spec) rfl ?_; dsimp only)
    | (refine h_eqP ?_; dsimp only)
    | (refine h_neP ?_; dsimp only)
    | refine h_nite (fun _ => ?_) (fun _ => ?_)
    | refine h_ite (fun _ => ?_) (fun _ => ?_))
  refine h_call0 (fun _ => { b := lessB a n b m }) ca_octroiref02_Less (fun hl => rless_spec) rfl ?_
  exact h_end0 ⟨by simp, rfl⟩
theorem law_PrefixMakes {I : Ctx} (hg : Glob I) {a b : Nat} {n m : Int} (ha : a < 4294967296) (hn : R64 n) (hb : b < 4294967296) (hm : R64 m) :
    Fn Tryd.prog 9 #[.int .u32 (a : Int), .int .i64 n, .agg #[.int .u32 (b : Int), .int .i64 m]] I [] (fun v h' => v = .bool true ∧ h' = []) := by
  refine r_octroilaw02_PrefixMakes _ _ _ _ ?_
  obtain ⟨c, k, e, hce⟩ : ∃ (c : Nat) (k e : Int), resM (makeP a n) = .tuple #[.agg #[.int .u32 (c : Int), .int .i64 k], .int .i64 e] := by cases makeP a n <;> exact ⟨_, _, _, rfl⟩
  repeat' (first
    | ((first | refine h_box fun _ _ _ => ?_ | ((with_reducible show holds _ _ _ _ (.sem (Instr.alloc 24 _ _) _ _) _); refine h_alloc zb_Prefix fun _ _ _ => ?_) | ((with_reducible show holds _ _ _ _ (.rd (Instr.loadAt _ (.pointer _)) _ _) _); refine la0 (by repeat (first | exact mq0 | apply mq1 | apply mq2)) (by rfl) (by kernel_rfl) ?_) | ((with_reducible show holds _ _ _ _ (.unit (Instr.storeAt _ _ _) _) _); refine stU (by repeat (first | exact Upd.here | apply Upd.there | apply Upd.right)) (by kernel_rfl) (by rfl) (by simp [Value.cells]) ?_) | ((with_reducible show holds _ _ _ _ (.pin (vN (Instr.loadAt _ _)) _ _) _); first | refine pnA (by repeat (first | exact mq0 | apply mq1 | apply mq2)) (by rfl) (by kernel_rfl) ?_ | refine pn1 (by repeat (first | exact mq0 | apply mq1 | apply mq2)) (by rfl) (by kernel_rfl) ?_)); try dsimp only [getL])
    | refine h_yes (by assumption) ?_
    | refine h_no (by assumption) ?_
    | refine h_nyes (by assumption) ?_
    | refine h_nno (by assumption) ?_
    | refine h_yes rfl ?_
    | refine h_no rfl ?_
    | (refine h_call0 (fun _ => { b := true }) ca_octroilaw02_awake (fun hl => awake_spec (hg.plus hl)) rfl ?_; dsimp only)
    | (refine h_call0 (fun _ => { b := coversB _ _ _ _ }) ca_prefix_Covers (fun hl => covers_spec (by assumption) (by assumption) (by assumption) (by assumption)) rfl ?_; dsimp only)
    | (refine h_call0 (fun _ => { b := hasB _ _ _ }) ca_prefix_Has (fun hl => has_spec (by assumption) (by assumption) (by assumption)) rfl ?_; dsimp only)
    | (refine h_call0 (fun _ => { b := lessB _ _ _ _ }) ca_prefix_Less (fun hl => less_spec) rfl ?_; dsimp only)
    | (refine h_eqP ?_; dsimp only)
    | (refine h_neP ?_; dsimp only)
    | refine h_nite (fun _ => ?_) (fun _ => ?_)
    | refine h_ite (fun _ => ?_) (fun _ => ?_))
  refine h_call0 (getL [{ i := (c : Nat) }, { i := k }, { i := e }]) ca_prefix_Make (fun hl => make_spec ha hn) hce ?_
  dsimp only [getL]
  (repeat ((first | refine h_box fun _ _ _ => ?_ | ((with_reducible show holds _ _ _ _ (.sem (Instr.alloc 24 _ _) _ _) _); refine h_alloc zb_Prefix fun _ _ _ => ?_) | ((with_reducible show holds _ _ _ _ (.rd (Instr.loadAt _ (.pointer _)) _ _) _); refine la0 (by repeat (first | exact mq0 | apply mq1 | apply mq2)) (by rfl) (by kernel_rfl) ?_) | ((with_reducible show holds _ _ _ _ (.unit (Instr.storeAt _ _ _) _) _); refine stU (by repeat (first | exact Upd.here | apply Upd.there | apply Upd.right)) (by kernel_rfl) (by rfl) (by simp [Value.cells]) ?_) | ((with_reducible show holds _ _ _ _ (.pin (vN (Instr.loadAt _ _)) _ _) _); first | refine pnA (by repeat (first | exact mq0 | apply mq1 | apply mq2)) (by rfl) (by kernel_rfl) ?_ | refine pn1 (by repeat (first | exact mq0 | apply mq1 | apply mq2)) (by rfl) (by kernel_rfl) ?_)); try dsimp only [getL]))
  refine h_call0 (getL [{ i := (c : Nat) }, { i := k }, { i := e }]) ca_octroiref02_Make (fun hl => rmake_spec ha hn) hce ?_
  dsimp only [getL]
  (repeat ((first | refine h_box fun _ _ _ => ?_ | ((with_reducible show holds _ _ _ _ (.sem (Instr.alloc 24 _ _) _ _) _); refine h_alloc zb_Prefix fun _ _ _ => ?_) | ((with_reducible show holds _ _ _ _ (.rd (Instr.loadAt _ (.pointer _)) _ _) _); refine la0 (by repeat (first | exact mq0 | apply mq1 | apply mq2)) (by rfl) (by kernel_rfl) ?_) | ((with_reducible show holds _ _ _ _ (.unit (Instr.storeAt _ _ _) _) _); refine stU (by repeat (first | exact Upd.here | apply Upd.there | apply Upd.right)) (by kernel_rfl) (by rfl) (by simp [Value.cells]) ?_) | ((with_reducible show holds _ _ _ _ (.pin (vN (Instr.loadAt _ _)) _ _) _); first | refine pnA (by repeat (first | exact mq0 | apply mq1 | apply mq2)) (by rfl) (by kernel_rfl) ?_ | refine pn1 (by repeat (first | exact mq0 | apply mq1 | apply mq2)) (by rfl) (by kernel_rfl) ?_)); try dsimp only [getL]))
  refine h_call0 (getL [{ i := ((bitsOf a).getD 0 : Nat) }, { b := (bitsOf a).isSome }]) ca_prefix_Bits (fun hl => bits_spec ha) rfl ?_
  dsimp only [getL]
  refine h_call0 (getL [{ i := ((bitsOf a).getD 0 : Nat) }, { b := (bitsOf a).isSome }]) ca_octroiref02_Bits (fun hl => rbits_spec) rfl ?_
  dsimp only [getL]
  refine h_yes rfl ?_
  (repeat ((first | refine h_box fun _ _ _ => ?_ | ((with_reducible show holds _ _ _ _ (.sem (Instr.alloc 24 _ _) _ _) _); refine h_alloc zb_Prefix fun _ _ _ => ?_) | ((with_reducible show holds _ _ _ _ (.rd (Instr.loadAt _ (.pointer _)) _ _) _); refine la0 (by repeat (first | exact mq0 | apply mq1 | apply mq2)) (by rfl) (by kernel_rfl) ?_) | ((with_reducible show holds _ _ _ _ (.unit (Instr.storeAt _ _ _) _) _); refine stU (by repeat (first | exact Upd.here | apply Upd.there | apply Upd.right)) (by kernel_rfl) (by rfl) (by simp [Value.cells]) ?_) | ((with_reducible show holds _ _ _ _ (.pin (vN (Instr.loadAt _ _)) _ _) _); first | refine pnA (by repeat (first | exact mq0 | apply mq1 | apply mq2)) (by rfl) (by kernel_rfl) ?_ | refine pn1 (by repeat (first | exact mq0 | apply mq1 | apply mq2)) (by rfl) (by kernel_rfl) ?_)); try dsimp only [getL]))
  refine h_eqP ?_
  refine h_yes (by unfold eqP; simp) ?_
  refine h_yes (by simp) ?_
  refine h_yes (by simp) ?_
  refine h_yes (by simp) ?_
  refine h_call0 (fun _ => { i := (maskOf n : Nat) }) ca_prefix_Mask (fun hl => mask_spec hn) rfl ?_
  dsimp only
  refine h_call0 (fun _ => { i := (maskOf n : Nat) }) ca_octroiref02_Mask (fun hl => rmask_spec hn) rfl ?_
  dsimp only
  refine h_yes (by simp) ?_
  (repeat ((first | refine h_box fun _ _ _ => ?_ | ((with_reducible show holds _ _ _ _ (.sem (Instr.alloc 24 _ _) _ _) _); refine h_alloc zb_Prefix fun _ _ _ => ?_) | ((with_reducible show holds _ _ _ _ (.rd (Instr.loadAt _ (.pointer _)) _ _) _); refine la0 (by repeat (first | exact mq0 | apply mq1 | apply mq2)) (by rfl) (by kernel_rfl) ?_) | ((with_reducible show holds _ _ _ _ (.unit (Instr.storeAt _ _ _) _) _); refine stU (by repeat (first | exact Upd.here | apply Upd.there | apply Upd.right)) (by kernel_rfl) (by rfl) (by simp [Value.cells]) ?_) | ((with_reducible show holds _ _ _ _ (.pin (vN (Instr.loadAt _ _)) _ _) _); first | refine pnA (by repeat (first | exact mq0 | apply mq1 | apply mq2)) (by rfl) (by kernel_rfl) ?_ | refine pn1 (by repeat (first | exact mq0 | apply mq1 | apply mq2)) (by rfl) (by kernel_rfl) ?_)); try dsimp only [getL]))
  refine h_call0 (fun _ => { b := mayB b m }) ca_prefix_May (fun hl => may_spec hb hm) rfl ?_
  dsimp only
  (repeat ((first | refine h_box fun _ _ _ => ?_ | ((with_reducible show holds _ _ _ _ (.sem (Instr.alloc 24 _ _) _ _) _); refine h_alloc zb_Prefix fun _ _ _ => ?_) | ((with_reducible show holds _ _ _ _ (.rd (Instr.loadAt _ (.pointer _)) _ _) _); refine la0 (by repeat (first | exact mq0 | apply mq1 | apply mq2)) (by rfl) (by kernel_rfl) ?_) | ((with_reducible show holds _ _ _ _ (.unit (Instr.storeAt _ _ _) _) _); refine stU (by repeat (first | exact Upd.here | apply Upd.there | apply Upd.right)) (by kernel_rfl) (by rfl) (by simp [Value.cells]) ?_) | ((with_reducible show holds _ _ _ _ (.pin (vN (Instr.loadAt _ _)) _ _) _); first | refine pnA (by repeat (first | exact mq0 | apply mq1 | apply mq2)) (by rfl) (by kernel_rfl) ?_ | refine pn1 (by repeat (first | exact mq0 | apply mq1 | apply mq2)) (by rfl) (by kernel_rfl) ?_)); try dsimp only [getL]))
  refine h_call0 (fun _ => { b := mayB b m }) ca_octroiref02_May (fun hl => rmay_spec hb hm) rfl ?_
  exact h_end0 ⟨by simp, rfl⟩
theorem mask_and : ∀ a b : Fin 33, a ≤ b → maskN a.1 &&& maskN b.1 = maskN a.1 := by decide +kernel
theorem mask_nat {I : Ctx} {p : Nat} (h : p ≤ 32) : Fn Tryd.prog 27 #[.int .i64 (p : Int)] I [] (fun v h' => v = .int .u32 (maskN p : Nat) ∧ h' = []) := by
  have h2 := mask_spec (I := I) (n := (p : Int)) (by omega)
  rw [mask_at (by omega) (by omega), Int.toNat_natCast] at h2
  exact h2
theorem law_PrefixMasks {I : Ctx} (hg : Glob I) {a b : Int} (ha : R64 a) (hb : R64 b) : Fn Tryd.prog 10 #[.int .i64 a, .int .i64 b] I [] (fun v h' => v = .bool true ∧ h' = []) := by
  refine r_octroilaw02_PrefixMasks _ _ ?_
  refine h_call0 (fun _ => { b := true }) ca_octroilaw02_awake (fun hl => awake_spec (hg.plus hl)) rfl ?_
  dsimp only
  refine h_ite (fun t0 => h_end0 ⟨rfl, rfl⟩) (fun t0 => ?_)
  refine h_ite (fun t1 => h_end0 ⟨rfl, rfl⟩) (fun t1 => ?_)
  refine h_ite (fun t2 => h_end0 ⟨rfl, rfl⟩) (fun t2 => ?_)
  simp only [decide_eq_false_iff_not] at t0 t1 t2
  obtain ⟨p, rfl⟩ := Int.eq_ofNat_of_zero_le (by omega : 0 ≤ a)
  obtain ⟨q, rfl⟩ := Int.eq_ofNat_of_zero_le (by omega : 0 ≤ b)
  have hmp := maskN_lt p
  refine h_call0 (fun _ => { i := (maskN p : Nat) }) ca_prefix_Mask (fun hl => mask_nat (by omega)) rfl ?_
  dsimp only
  refine h_call0 (getL [{ i := (p : Nat) }, { b := true }]) ca_prefix_Bits (fun hl => bits_spec hmp) (by rw [bitsOf_some (by omega) rfl]; rfl) ?_
  dsimp only [getL]
  refine h_yes rfl ?_
  refine h_call0 (fun _ => { i := (maskN p : Nat) }) ca_prefix_Mask (fun hl => mask_nat (by omega)) rfl ?_
  dsimp only
  refine h_call0 (fun _ => { i := (maskN q : Nat) }) ca_prefix_Mask (fun hl => mask_nat (by omega)) rfl ?_
  dsimp only
  refine h_call0 (fun _ => { i := (maskN p : Nat) }) ca_prefix_Mask (fun hl => mask_nat (by omega)) rfl ?_
  dsimp only
  rw [bv_and hmp (maskN_lt q), mask_and ⟨p, by omega⟩ ⟨q, by omega⟩ (by show p ≤ q; omega)]
  refine h_yes (by simp) ?_
  refine h_call0 (fun _ => { i := (maskN p : Nat) }) ca_prefix_Mask (fun hl => mask_nat (by omega)) rfl ?_
  dsimp only
  refine h_call0 (fun _ => { i := (maskN q : Nat) }) ca_prefix_Mask (fun hl => mask_nat (by omega)) rfl ?_
  dsimp only
  refine h_yes ?_ ?_
  · rw [beq_iff_eq, Bool.eq_iff_iff]
    simp only [beq_iff_eq]
    constructor
    · intro h; rw [show p = q by omega]
    · intro h
      have := maskN_inj ⟨p, by omega⟩ ⟨q, by omega⟩ (by show maskN p = maskN q; omega)
      have := congrArg Fin.val this
      simp only at this
      omega
  refine h_yes (by simp) ?_
  exact h_end0 ⟨rfl, rfl⟩
end Go.Proofs.YtenlioajflbegaaDoorS
