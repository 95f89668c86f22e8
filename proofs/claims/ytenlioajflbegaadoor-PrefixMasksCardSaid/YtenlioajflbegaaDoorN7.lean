import Derived.Test.YtenlioajflbegaaDoorN6
import Derived.Test.YtenlioajflbegaaDoorTA
set_option linter.unusedVariables false
namespace Go.Proofs.YtenlioajflbegaaDoorS
theorem or_part {acc x : Nat} (h : acc < 16777216) (hx : x < 256) : bitop .or .u32 (IntKind.wrap .u32 ((acc : Int) * 2 ^ 8)) (x : Int) = ((acc * 256 + x : Nat) : Int) := by
  have e : ((UInt8.ofNat x).toNat : Nat) = x := by rw [toNat_ofNat']; omega
  have := or_byte acc (UInt8.ofNat x) h
  rw [e, wrap32n (n := x) (by omega)] at this
  exact this
def restP (q acc : Nat) (r s : List UInt8) : Option (Nat × Int) := (chainP q acc r).bind fun p => lenP p.1 p.2 s
theorem restP_none {q acc : Nat} {r s : List UInt8} (h : numP r (if q = 0 then 47 else 46) = none) : restP (q + 1) acc r s = none := by
  unfold restP; simp only [chainP]; rw [h]; rfl
theorem restP_some {q acc x : Nat} {r s z : List UInt8} (h : numP r (if q = 0 then 47 else 46) = some (x, z)) : restP (q + 1) acc r s = restP q (acc * 256 + x) z s := by
  unfold restP; simp only [chainP]; rw [h]; rfl
theorem restP_zero {acc : Nat} {r s : List UInt8} : restP 0 acc r s = lenP acc r s := rfl
abbrev bpf (b : Nat) (a : Nat) : Nat × Obj := (b, .cells #[.int .u32 (a : Int), .int .i64 0] 24 (0, 0))
set_option maxRecDepth 20000 in
set_option maxHeartbeats 2000000 in
theorem parse_loop {I : Ctx} (hg : Glob I) {s : List UInt8} {y2 y4 : Nat} : ∀ (q i acc : Nat) (r : List UInt8) (u : Nat → Value) (h hr' : Mem),
    i + q = 4 → 0 < q → acc < 16777216 ∧ acc < 256 ^ i → r.length ≤ 4000000000 → Pick h ([bpf y4 acc, bpf y2 0]) hr' →
    Wp Tryd.prog 12 k_prefix_Parse_2 (t_prefix_Parse_2 (bS s) y2 y4 (bS r) i (bS [46]) u) I h (cl_ fun v h' => v = resV (restP q acc r s) ∧ h' = []) := by
  intro q
  induction q with
  | zero => intro i acc r u h hr' _ h0; omega
  | succ q ih =>
    intro i acc r u h hr' hq _ hacc hr hp
    have ih' := fun i acc r u h hr' a b c d e => ih i acc r u h hr' a b c d e
    have hlt : ∀ x, x < 256 → i ≠ 3 → acc * 256 + x < 16777216 ∧ acc * 256 + x < 256 ^ (i + 1) := fun x hx hi => by
      rw [Nat.pow_succ]
      have : i = 0 ∨ i = 1 ∨ i = 2 := by omega
      rcases this with rfl | rfl | rfl <;> omega
    refine r_prefix_Parse_2 _ _ _ _ _ _ _ ?_
    refine holds_perm (cl_.aff _) (g := bpf y4 acc :: bpf y2 0 :: hr') hp ?_
    have hw : IntKind.wrap .i64 ((i : Int) + 1) = ((i + 1 : Nat) : Int) := by rw [wrap64 (by omega)]; omega
    simp only [hw]
    refine h_ite (fun t0 => ?_) (fun t0 => ?_)
    · have hi : i = 3 := by simp at t0; omega
      obtain rfl : q = 0 := by omega
      refine h_call [] _ ca_prefix_number (List.Perm.refl _) (fun hl => number_spec (hg.plus hl) (sg := 47) hr) ?_
      rintro v m1 ⟨hv, rfl⟩
      cases hnn : numP r 47 with
      | none =>
        have hnn' : numP r (if 0 = 0 then 47 else 46) = none := hnn
        rw [hnn] at hv
        obtain ⟨x, z, rfl⟩ := hv
        refine ⟨getL [{ i := x }, { s := z }, { b := false }], rfl, ?_⟩
        dsimp only [getL]
        refine h_yes rfl ?_
        rw [restP_none hnn']
        (repeat ((first | ((with_reducible show holds _ _ _ _ (.sem (Instr.alloc 24 _ _) _ _) _); refine h_alloc zb_Prefix fun _ _ _ => ?_) | ((with_reducible show holds _ _ _ _ (.rd (Instr.loadAt _ (.pointer _)) _ _) _); first | refine ldI (by repeat (first | exact mq0 | apply mq1 | apply mq2)) (by rfl) (by kernel_rfl) ?_ | refine la0 (by repeat (first | exact mq0 | apply mq1 | apply mq2)) (by rfl) (by kernel_rfl) ?_) | ((with_reducible show holds _ _ _ _ (.rd (loadVar _ _) _ _) _); refine lv0 (by repeat (first | exact mq0 | apply mq1 | apply mq2)) (by rfl) (by kernel_rfl) ?_) | ((with_reducible show holds _ _ _ _ (.unit (Instr.storeAt _ _ _) _) _); refine stU (by repeat (first | exact Upd.here | apply Upd.there | apply Upd.right)) (by kernel_rfl) (by rfl) (by simp [Value.cells]) ?_)); try dsimp only [getL]))
        exact h_end0 ⟨rfl, rfl⟩
      | some p =>
        have hnn' : numP r (if 0 = 0 then 47 else 46) = some p := hnn
        obtain ⟨x, z⟩ := p
        have hx := numP_lt hnn
        have hz := numP_rest hnn
        rw [hnn] at hv
        obtain rfl := hv
        refine ⟨getL [{ i := (x : Nat) }, { s := bS z }, { b := true }], rfl, ?_⟩
        dsimp only [getL]
        refine h_no rfl ?_
        ((first | ((with_reducible show holds _ _ _ _ (.sem (Instr.alloc 24 _ _) _ _) _); refine h_alloc zb_Prefix fun _ _ _ => ?_) | ((with_reducible show holds _ _ _ _ (.rd (Instr.loadAt _ (.pointer _)) _ _) _); first | refine ldI (by repeat (first | exact mq0 | apply mq1 | apply mq2)) (by rfl) (by kernel_rfl) ?_ | refine la0 (by repeat (first | exact mq0 | apply mq1 | apply mq2)) (by rfl) (by kernel_rfl) ?_) | ((with_reducible show holds _ _ _ _ (.rd (loadVar _ _) _ _) _); refine lv0 (by repeat (first | exact mq0 | apply mq1 | apply mq2)) (by rfl) (by kernel_rfl) ?_) | ((with_reducible show holds _ _ _ _ (.unit (Instr.storeAt _ _ _) _) _); refine stU (by repeat (first | exact Upd.here | apply Upd.there | apply Upd.right)) (by kernel_rfl) (by rfl) (by simp [Value.cells]) ?_)); try dsimp only [getL])
        rw [or_part (by omega) hx]
        ((first | ((with_reducible show holds _ _ _ _ (.sem (Instr.alloc 24 _ _) _ _) _); refine h_alloc zb_Prefix fun _ _ _ => ?_) | ((with_reducible show holds _ _ _ _ (.rd (Instr.loadAt _ (.pointer _)) _ _) _); first | refine ldI (by repeat (first | exact mq0 | apply mq1 | apply mq2)) (by rfl) (by kernel_rfl) ?_ | refine la0 (by repeat (first | exact mq0 | apply mq1 | apply mq2)) (by rfl) (by kernel_rfl) ?_) | ((with_reducible show holds _ _ _ _ (.rd (loadVar _ _) _ _) _); refine lv0 (by repeat (first | exact mq0 | apply mq1 | apply mq2)) (by rfl) (by kernel_rfl) ?_) | ((with_reducible show holds _ _ _ _ (.unit (Instr.storeAt _ _ _) _) _); refine stU (by repeat (first | exact Upd.here | apply Upd.there | apply Upd.right)) (by kernel_rfl) (by rfl) (by simp [Value.cells]) ?_)); try dsimp only [getL])
        rw [restP_some hnn']
        refine h_no (by simp; omega) ?_
        (repeat ((first | ((with_reducible show holds _ _ _ _ (.sem (Instr.alloc 24 _ _) _ _) _); refine h_alloc zb_Prefix fun _ _ _ => ?_) | ((with_reducible show holds _ _ _ _ (.rd (Instr.loadAt _ (.pointer _)) _ _) _); first | refine ldI (by repeat (first | exact mq0 | apply mq1 | apply mq2)) (by rfl) (by kernel_rfl) ?_ | refine la0 (by repeat (first | exact mq0 | apply mq1 | apply mq2)) (by rfl) (by kernel_rfl) ?_) | ((with_reducible show holds _ _ _ _ (.rd (loadVar _ _) _ _) _); refine lv0 (by repeat (first | exact mq0 | apply mq1 | apply mq2)) (by rfl) (by kernel_rfl) ?_) | ((with_reducible show holds _ _ _ _ (.unit (Instr.storeAt _ _ _) _) _); refine stU (by repeat (first | exact Upd.here | apply Upd.there | apply Upd.right)) (by kernel_rfl) (by rfl) (by simp [Value.cells]) ?_)); try dsimp only [getL]))
        refine h_call0 (v := resV (lenP (acc * 256 + x) z s)) (getL [{ i := (((lenP (acc * 256 + x) z s).getD (0, 0)).1 : Nat) }, { i := ((lenP (acc * 256 + x) z s).getD (0, 0)).2 }, { i := if (lenP (acc * 256 + x) z s).isSome then 0 else 2 }]) ca_prefix_length (fun hl => length_spec (hg.plus hl) (by omega) (by omega)) (by cases lenP (acc * 256 + x) z s <;> rfl) ?_
        dsimp only [getL]
        (repeat ((first | ((with_reducible show holds _ _ _ _ (.sem (Instr.alloc 24 _ _) _ _) _); refine h_alloc zb_Prefix fun _ _ _ => ?_) | ((with_reducible show holds _ _ _ _ (.rd (Instr.loadAt _ (.pointer _)) _ _) _); first | refine ldI (by repeat (first | exact mq0 | apply mq1 | apply mq2)) (by rfl) (by kernel_rfl) ?_ | refine la0 (by repeat (first | exact mq0 | apply mq1 | apply mq2)) (by rfl) (by kernel_rfl) ?_) | ((with_reducible show holds _ _ _ _ (.rd (loadVar _ _) _ _) _); refine lv0 (by repeat (first | exact mq0 | apply mq1 | apply mq2)) (by rfl) (by kernel_rfl) ?_) | ((with_reducible show holds _ _ _ _ (.unit (Instr.storeAt _ _ _) _) _); refine stU (by repeat (first | exact Upd.here | apply Upd.there | apply Upd.right)) (by kernel_rfl) (by rfl) (by simp [Value.cells]) ?_)); try dsimp only [getL]))
        exact h_end0 ⟨by rw [restP_zero]; cases lenP (acc * 256 + x) z s <;> rfl, rfl⟩
    · have hi : i ≠ 3 := by intro e; rw [e] at t0; simp at t0
      refine h_call [] _ ca_prefix_number (List.Perm.refl _) (fun hl => number_spec (hg.plus hl) (sg := 46) hr) ?_
      rintro v m1 ⟨hv, rfl⟩
      have hq0 : ¬ q = 0 := by omega
      cases hnn : numP r 46 with
      | none =>
        have hnn' : numP r (if q = 0 then 47 else 46) = none := by rw [if_neg hq0]; exact hnn
        rw [hnn] at hv
        obtain ⟨x, z, rfl⟩ := hv
        refine ⟨getL [{ i := x }, { s := z }, { b := false }], rfl, ?_⟩
        dsimp only [getL]
        refine h_yes rfl ?_
        rw [restP_none hnn']
        (repeat ((first | ((with_reducible show holds _ _ _ _ (.sem (Instr.alloc 24 _ _) _ _) _); refine h_alloc zb_Prefix fun _ _ _ => ?_) | ((with_reducible show holds _ _ _ _ (.rd (Instr.loadAt _ (.pointer _)) _ _) _); first | refine ldI (by repeat (first | exact mq0 | apply mq1 | apply mq2)) (by rfl) (by kernel_rfl) ?_ | refine la0 (by repeat (first | exact mq0 | apply mq1 | apply mq2)) (by rfl) (by kernel_rfl) ?_) | ((with_reducible show holds _ _ _ _ (.rd (loadVar _ _) _ _) _); refine lv0 (by repeat (first | exact mq0 | apply mq1 | apply mq2)) (by rfl) (by kernel_rfl) ?_) | ((with_reducible show holds _ _ _ _ (.unit (Instr.storeAt _ _ _) _) _); refine stU (by repeat (first | exact Upd.here | apply Upd.there | apply Upd.right)) (by kernel_rfl) (by rfl) (by simp [Value.cells]) ?_)); try dsimp only [getL]))
        exact h_end0 ⟨rfl, rfl⟩
      | some p =>
        have hnn' : numP r (if q = 0 then 47 else 46) = some p := by rw [if_neg hq0]; exact hnn
        obtain ⟨x, z⟩ := p
        have hx := numP_lt hnn
        have hz := numP_rest hnn
        rw [hnn] at hv
        obtain rfl := hv
        refine ⟨getL [{ i := (x : Nat) }, { s := bS z }, { b := true }], rfl, ?_⟩
        dsimp only [getL]
        refine h_no rfl ?_
        ((first | ((with_reducible show holds _ _ _ _ (.sem (Instr.alloc 24 _ _) _ _) _); refine h_alloc zb_Prefix fun _ _ _ => ?_) | ((with_reducible show holds _ _ _ _ (.rd (Instr.loadAt _ (.pointer _)) _ _) _); first | refine ldI (by repeat (first | exact mq0 | apply mq1 | apply mq2)) (by rfl) (by kernel_rfl) ?_ | refine la0 (by repeat (first | exact mq0 | apply mq1 | apply mq2)) (by rfl) (by kernel_rfl) ?_) | ((with_reducible show holds _ _ _ _ (.rd (loadVar _ _) _ _) _); refine lv0 (by repeat (first | exact mq0 | apply mq1 | apply mq2)) (by rfl) (by kernel_rfl) ?_) | ((with_reducible show holds _ _ _ _ (.unit (Instr.storeAt _ _ _) _) _); refine stU (by repeat (first | exact Upd.here | apply Upd.there | apply Upd.right)) (by kernel_rfl) (by rfl) (by simp [Value.cells]) ?_)); try dsimp only [getL])
        rw [or_part (by omega) hx]
        ((first | ((with_reducible show holds _ _ _ _ (.sem (Instr.alloc 24 _ _) _ _) _); refine h_alloc zb_Prefix fun _ _ _ => ?_) | ((with_reducible show holds _ _ _ _ (.rd (Instr.loadAt _ (.pointer _)) _ _) _); first | refine ldI (by repeat (first | exact mq0 | apply mq1 | apply mq2)) (by rfl) (by kernel_rfl) ?_ | refine la0 (by repeat (first | exact mq0 | apply mq1 | apply mq2)) (by rfl) (by kernel_rfl) ?_) | ((with_reducible show holds _ _ _ _ (.rd (loadVar _ _) _ _) _); refine lv0 (by repeat (first | exact mq0 | apply mq1 | apply mq2)) (by rfl) (by kernel_rfl) ?_) | ((with_reducible show holds _ _ _ _ (.unit (Instr.storeAt _ _ _) _) _); refine stU (by repeat (first | exact Upd.here | apply Upd.there | apply Upd.right)) (by kernel_rfl) (by rfl) (by simp [Value.cells]) ?_)); try dsimp only [getL])
        rw [restP_some hnn']
        refine h_yes (by simp; omega) ?_
        refine h_stop fun hl2 => ?_
        exact ih' (i + 1) (acc * 256 + x) z _ _ _ (by omega) (by omega) (hlt x hx hi) (by omega) (by repeat (first | exact Pick.here | exact Pick.one | exact Pick.all | apply Pick.two | apply Pick.cons | apply Pick.app))
set_option maxRecDepth 20000 in
set_option maxHeartbeats 2000000 in
theorem parse_first {I : Ctx} (hg : Glob I) {s : List UInt8} {y2 y4 : Nat} (q i acc : Nat) (r : List UInt8) (u : Nat → Value) (h hr' : Mem) 
    (hq : i + (q + 1) = 4) (hacc : acc < 16777216 ∧ acc < 256 ^ i) (hr : r.length ≤ 4000000000) (hp : Pick h ([bpf y4 acc, bpf y2 0]) hr') :
    Wp Tryd.prog 12 k_prefix_Parse_1 (t_prefix_Parse_1 (bS s) y2 y4 (bS r) i (bS [46]) u) I h (cl_ fun v h' => v = resV (restP (q + 1) acc r s) ∧ h' = []) := by
  have ih' := fun i acc r u h hr' a b c d e => parse_loop (I := I) (s := s) (y2 := y2) (y4 := y4) hg q i acc r u h hr' a b c d e
  have hlt : ∀ x, x < 256 → i ≠ 3 → acc * 256 + x < 16777216 ∧ acc * 256 + x < 256 ^ (i + 1) := fun x hx hi => by
    rw [Nat.pow_succ]
    have : i = 0 ∨ i = 1 ∨ i = 2 := by omega
    rcases this with rfl | rfl | rfl <;> omega
  refine r_prefix_Parse_1 _ _ _ _ _ _ _ ?_
  refine holds_perm (cl_.aff _) (g := bpf y4 acc :: bpf y2 0 :: hr') hp ?_
  have hw : IntKind.wrap .i64 ((i : Int) + 1) = ((i + 1 : Nat) : Int) := by rw [wrap64 (by omega)]; omega
  simp only [hw]
  refine h_ite (fun t0 => ?_) (fun t0 => ?_)
  · have hi : i = 3 := by simp at t0; omega
    obtain rfl : q = 0 := by omega
    refine h_call [] _ ca_prefix_number (List.Perm.refl _) (fun hl => number_spec (hg.plus hl) (sg := 47) hr) ?_
    rintro v m1 ⟨hv, rfl⟩
    cases hnn : numP r 47 with
    | none =>
      have hnn' : numP r (if 0 = 0 then 47 else 46) = none := hnn
      rw [hnn] at hv
      obtain ⟨x, z, rfl⟩ := hv
      refine ⟨getL [{ i := x }, { s := z }, { b := false }], rfl, ?_⟩
      dsimp only [getL]
      refine h_yes rfl ?_
      rw [restP_none hnn']
      (repeat ((first | ((with_reducible show holds _ _ _ _ (.sem (Instr.alloc 24 _ _) _ _) _); refine h_alloc zb_Prefix fun _ _ _ => ?_) | ((with_reducible show holds _ _ _ _ (.rd (Instr.loadAt _ (.pointer _)) _ _) _); first | refine ldI (by repeat (first | exact mq0 | apply mq1 | apply mq2)) (by rfl) (by kernel_rfl) ?_ | refine la0 (by repeat (first | exact mq0 | apply mq1 | apply mq2)) (by rfl) (by kernel_rfl) ?_) | ((with_reducible show holds _ _ _ _ (.rd (loadVar _ _) _ _) _); refine lv0 (by repeat (first | exact mq0 | apply mq1 | apply mq2)) (by rfl) (by kernel_rfl) ?_) | ((with_reducible show holds _ _ _ _ (.unit (Instr.storeAt _ _ _) _) _); refine stU (by repeat (first | exact Upd.here | apply Upd.there | apply Upd.right)) (by kernel_rfl) (by rfl) (by simp [Value.cells]) ?_)); try dsimp only [getL]))
      exact h_end0 ⟨rfl, rfl⟩
    | some p =>
      have hnn' : numP r (if 0 = 0 then 47 else 46) = some p := hnn
      obtain ⟨x, z⟩ := p
      have hx := numP_lt hnn
      have hz := numP_rest hnn
      rw [hnn] at hv
      obtain rfl := hv
      refine ⟨getL [{ i := (x : Nat) }, { s := bS z }, { b := true }], rfl, ?_⟩
      dsimp only [getL]
      refine h_no rfl ?_
      ((first | ((with_reducible show holds _ _ _ _ (.sem (Instr.alloc 24 _ _) _ _) _); refine h_alloc zb_Prefix fun _ _ _ => ?_) | ((with_reducible show holds _ _ _ _ (.rd (Instr.loadAt _ (.pointer _)) _ _) _); first | refine ldI (by repeat (first | exact mq0 | apply mq1 | apply mq2)) (by rfl) (by kernel_rfl) ?_ | refine la0 (by repeat (first | exact mq0 | apply mq1 | apply mq2)) (by rfl) (by kernel_rfl) ?_) | ((with_reducible show holds _ _ _ _ (.rd (loadVar _ _) _ _) _); refine lv0 (by repeat (first | exact mq0 | apply mq1 | apply mq2)) (by rfl) (by kernel_rfl) ?_) | ((with_reducible show holds _ _ _ _ (.unit (Instr.storeAt _ _ _) _) _); refine stU (by repeat (first | exact Upd.here | apply Upd.there | apply Upd.right)) (by kernel_rfl) (by rfl) (by simp [Value.cells]) ?_)); try dsimp only [getL])
      rw [or_part (by omega) hx]
      ((first | ((with_reducible show holds _ _ _ _ (.sem (Instr.alloc 24 _ _) _ _) _); refine h_alloc zb_Prefix fun _ _ _ => ?_) | ((with_reducible show holds _ _ _ _ (.rd (Instr.loadAt _ (.pointer _)) _ _) _); first | refine ldI (by repeat (first | exact mq0 | apply mq1 | apply mq2)) (by rfl) (by kernel_rfl) ?_ | refine la0 (by repeat (first | exact mq0 | apply mq1 | apply mq2)) (by rfl) (by kernel_rfl) ?_) | ((with_reducible show holds _ _ _ _ (.rd (loadVar _ _) _ _) _); refine lv0 (by repeat (first | exact mq0 | apply mq1 | apply mq2)) (by rfl) (by kernel_rfl) ?_) | ((with_reducible show holds _ _ _ _ (.unit (Instr.storeAt _ _ _) _) _); refine stU (by repeat (first | exact Upd.here | apply Upd.there | apply Upd.right)) (by kernel_rfl) (by rfl) (by simp [Value.cells]) ?_)); try dsimp only [getL])
      rw [restP_some hnn']
      refine h_no (by simp; omega) ?_
      (repeat ((first | ((with_reducible show holds _ _ _ _ (.sem (Instr.alloc 24 _ _) _ _) _); refine h_alloc zb_Prefix fun _ _ _ => ?_) | ((with_reducible show holds _ _ _ _ (.rd (Instr.loadAt _ (.pointer _)) _ _) _); first | refine ldI (by repeat (first | exact mq0 | apply mq1 | apply mq2)) (by rfl) (by kernel_rfl) ?_ | refine la0 (by repeat (first | exact mq0 | apply mq1 | apply mq2)) (by rfl) (by kernel_rfl) ?_) | ((with_reducible show holds _ _ _ _ (.rd (loadVar _ _) _ _) _); refine lv0 (by repeat (first | exact mq0 | apply mq1 | apply mq2)) (by rfl) (by kernel_rfl) ?_) | ((with_reducible show holds _ _ _ _ (.unit (Instr.storeAt _ _ _) _) _); refine stU (by repeat (first | exact Upd.here | apply Upd.there | apply Upd.right)) (by kernel_rfl) (by rfl) (by simp [Value.cells]) ?_)); try dsimp only [getL]))
      refine h_call0 (v := resV (lenP (acc * 256 + x) z s)) (getL [{ i := (((lenP (acc * 256 + x) z s).getD (0, 0)).1 : Nat) }, { i := ((lenP (acc * 256 + x) z s).getD (0, 0)).2 }, { i := if (lenP (acc * 256 + x) z s).isSome then 0 else 2 }]) ca_prefix_length (fun hl => length_spec (hg.plus hl) (by omega) (by omega)) (by cases lenP (acc * 256 + x) z s <;> rfl) ?_
      dsimp only [getL]
      (repeat ((first | ((with_reducible show holds _ _ _ _ (.sem (Instr.alloc 24 _ _) _ _) _); refine h_alloc zb_Prefix fun _ _ _ => ?_) | ((with_reducible show holds _ _ _ _ (.rd (Instr.loadAt _ (.pointer _)) _ _) _); first | refine ldI (by repeat (first | exact mq0 | apply mq1 | apply mq2)) (by rfl) (by kernel_rfl) ?_ | refine la0 (by repeat (first | exact mq0 | apply mq1 | apply mq2)) (by rfl) (by kernel_rfl) ?_) | ((with_reducible show holds _ _ _ _ (.rd (loadVar _ _) _ _) _); refine lv0 (by repeat (first | exact mq0 | apply mq1 | apply mq2)) (by rfl) (by kernel_rfl) ?_) | ((with_reducible show holds _ _ _ _ (.unit (Instr.storeAt _ _ _) _) _); refine stU (by repeat (first | exact Upd.here | apply Upd.there | apply Upd.right)) (by kernel_rfl) (by rfl) (by simp [Value.cells]) ?_)); try dsimp only [getL]))
      exact h_end0 ⟨by rw [restP_zero]; cases lenP (acc * 256 + x) z s <;> rfl, rfl⟩
  · have hi : i ≠ 3 := by intro e; rw [e] at t0; simp at t0
    refine h_call [] _ ca_prefix_number (List.Perm.refl _) (fun hl => number_spec (hg.plus hl) (sg := 46) hr) ?_
    rintro v m1 ⟨hv, rfl⟩
    have hq0 : ¬ q = 0 := by omega
    cases hnn : numP r 46 with
    | none =>
      have hnn' : numP r (if q = 0 then 47 else 46) = none := by rw [if_neg hq0]; exact hnn
      rw [hnn] at hv
      obtain ⟨x, z, rfl⟩ := hv
      refine ⟨getL [{ i := x }, { s := z }, { b := false }], rfl, ?_⟩
      dsimp only [getL]
      refine h_yes rfl ?_
      rw [restP_none hnn']
      (repeat ((first | ((with_reducible show holds _ _ _ _ (.sem (Instr.alloc 24 _ _) _ _) _); refine h_alloc zb_Prefix fun _ _ _ => ?_) | ((with_reducible show holds _ _ _ _ (.rd (Instr.loadAt _ (.pointer _)) _ _) _); first | refine ldI (by repeat (first | exact mq0 | apply mq1 | apply mq2)) (by rfl) (by kernel_rfl) ?_ | refine la0 (by repeat (first | exact mq0 | apply mq1 | apply mq2)) (by rfl) (by kernel_rfl) ?_) | ((with_reducible show holds _ _ _ _ (.rd (loadVar _ _) _ _) _); refine lv0 (by repeat (first | exact mq0 | apply mq1 | apply mq2)) (by rfl) (by kernel_rfl) ?_) | ((with_reducible show holds _ _ _ _ (.unit (Instr.storeAt _ _ _) _) _); refine stU (by repeat (first | exact Upd.here | apply Upd.there | apply Upd.right)) (by kernel_rfl) (by rfl) (by simp [Value.cells]) ?_)); try dsimp only [getL]))
      exact h_end0 ⟨rfl, rfl⟩
    | some p =>
      have hnn' : numP r (if q = 0 then 47 else 46) = some p := by rw [if_neg hq0]; exact hnn
      obtain ⟨x, z⟩ := p
      have hx := numP_lt hnn
      have hz := numP_rest hnn
      rw [hnn] at hv
      obtain rfl := hv
      refine ⟨getL [{ i := (x : Nat) }, { s := bS z }, { b := true }], rfl, ?_⟩
      dsimp only [getL]
      refine h_no rfl ?_
      ((first | ((with_reducible show holds _ _ _ _ (.sem (Instr.alloc 24 _ _) _ _) _); refine h_alloc zb_Prefix fun _ _ _ => ?_) | ((with_reducible show holds _ _ _ _ (.rd (Instr.loadAt _ (.pointer _)) _ _) _); first | refine ldI (by repeat (first | exact mq0 | apply mq1 | apply mq2)) (by rfl) (by kernel_rfl) ?_ | refine la0 (by repeat (first | exact mq0 | apply mq1 | apply mq2)) (by rfl) (by kernel_rfl) ?_) | ((with_reducible show holds _ _ _ _ (.rd (loadVar _ _) _ _) _); refine lv0 (by repeat (first | exact mq0 | apply mq1 | apply mq2)) (by rfl) (by kernel_rfl) ?_) | ((with_reducible show holds _ _ _ _ (.unit (Instr.storeAt _ _ _) _) _); refine stU (by repeat (first | exact Upd.here | apply Upd.there | apply Upd.right)) (by kernel_rfl) (by rfl) (by simp [Value.cells]) ?_)); try dsimp only [getL])
      rw [or_part (by omega) hx]
      ((first | ((with_reducible show holds _ _ _ _ (.sem (Instr.alloc 24 _ _) _ _) _); refine h_alloc zb_Prefix fun _ _ _ => ?_) | ((with_reducible show holds _ _ _ _ (.rd (Instr.loadAt _ (.pointer _)) _ _) _); first | refine ldI (by repeat (first | exact mq0 | apply mq1 | apply mq2)) (by rfl) (by kernel_rfl) ?_ | refine la0 (by repeat (first | exact mq0 | apply mq1 | apply mq2)) (by rfl) (by kernel_rfl) ?_) | ((with_reducible show holds _ _ _ _ (.rd (loadVar _ _) _ _) _); refine lv0 (by repeat (first | exact mq0 | apply mq1 | apply mq2)) (by rfl) (by kernel_rfl) ?_) | ((with_reducible show holds _ _ _ _ (.unit (Instr.storeAt _ _ _) _) _); refine stU (by repeat (first | exact Upd.here | apply Upd.there | apply Upd.right)) (by kernel_rfl) (by rfl) (by simp [Value.cells]) ?_)); try dsimp only [getL])
      rw [restP_some hnn']
      refine h_yes (by simp; omega) ?_
      refine h_stop fun hl2 => ?_
      exact ih' (i + 1) (acc * 256 + x) z _ _ _ (by omega) (by omega) (hlt x hx hi) (by omega) (by repeat (first | exact Pick.here | exact Pick.one | exact Pick.all | apply Pick.two | apply Pick.cons | apply Pick.app))
theorem parse_spec {I : Ctx} (hg : Glob I) {s : List UInt8} (hs : s.length ≤ 4000000000) :
    Fn Tryd.prog 12 #[.string (bS s)] I [] (fun v h' => v = resV (parseP s) ∧ h' = []) := by
  refine r_prefix_Parse _ ?_
  (repeat ((first | ((with_reducible show holds _ _ _ _ (.sem (Instr.alloc 24 _ _) _ _) _); refine h_alloc zb_Prefix fun _ _ _ => ?_) | ((with_reducible show holds _ _ _ _ (.rd (Instr.loadAt _ (.pointer _)) _ _) _); first | refine ldI (by repeat (first | exact mq0 | apply mq1 | apply mq2)) (by rfl) (by kernel_rfl) ?_ | refine la0 (by repeat (first | exact mq0 | apply mq1 | apply mq2)) (by rfl) (by kernel_rfl) ?_) | ((with_reducible show holds _ _ _ _ (.rd (loadVar _ _) _ _) _); refine lv0 (by repeat (first | exact mq0 | apply mq1 | apply mq2)) (by rfl) (by kernel_rfl) ?_) | ((with_reducible show holds _ _ _ _ (.unit (Instr.storeAt _ _ _) _) _); refine stU (by repeat (first | exact Upd.here | apply Upd.there | apply Upd.right)) (by kernel_rfl) (by rfl) (by simp [Value.cells]) ?_)); try dsimp only [getL]))
  refine h_stop fun hl => ?_
  exact parse_first hg 3 0 0 s _ _ _ (by omega) (by omega) hs (by repeat (first | exact Pick.here | exact Pick.one | exact Pick.all | apply Pick.two | apply Pick.cons | apply Pick.app))
end Go.Proofs.YtenlioajflbegaaDoorS
