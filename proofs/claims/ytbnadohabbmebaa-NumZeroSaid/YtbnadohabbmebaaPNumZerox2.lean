-- written by this session's own program, over the kit's print
import Derived.Test.YtbnadohabbmebaaPNumZerox0
import Derived.Test.YtbnadohabbmebaaPNumZerox1
namespace Go.Proofs.Ytbnadohabbmebaa.PNumZero
open Go.RowKit Go.Proofs.YtbnadohabbmebaaW.PrintWords Go.Proofs.YtbnadohabbmebaaW.PrintLast Go.Proofs.YtbnadohabbmebaaW.PrintMore Go.Proofs.YtbnadohabbmebaaW.Goto
attribute [local go_sem] max2_int min2_int max_two min_two max_three min_three max_four min_four   -- for this text's walks alone
set_option linter.unusedVariables false
set_option linter.unusedSimpArgs false

/-! ### octroilaw01_NumZero: function 6 -/
mutual
def octroilaw01_NumZero.j0 : Nat → List Int → Int → Int → Bool → Bool → Option (Bool)
  | 0, _, _, _, _, _ => none
  | k + 1, x0, x1, x2, x7, x19 => if x19 = true then (some x7) else (if ([] : List Int).length + x0.length < 140737488355328 then ((some (([] : List Int) ++ x0 : List Int)).bind fun y119 => ((num_Sum.f k x0).bind fun t122 => ((num_Put16.f k t122).bind fun t123 => (if y119.length + t123.length < 140737488355328 then ((num_Sum.f k (y119 ++ t123)).bind fun t129 => (if t129 = 0 then (if x1 < 0 then (octroilaw01_NumZero.j1 k x0 x1 x2 x7 true) else (if x2 < 0 then (octroilaw01_NumZero.j1 k x0 x1 x2 x7 true) else (if x1 ≥ (wrap64 ((x0.length : Int) / 2)) then (octroilaw01_NumZero.j1 k x0 x1 x2 x7 true) else (octroilaw01_NumZero.j1 k x0 x1 x2 x7 (decide (x2 ≥ (wrap64 ((x0.length : Int) / 2)))))))) else (some false))) else (none))))) else (none))
def octroilaw01_NumZero.j1 : Nat → List Int → Int → Int → Bool → Bool → Option (Bool)
  | 0, _, _, _, _, _ => none
  | k + 1, x0, x1, x2, x7, x49 => if x49 = true then (some x7) else (if ([] : List Int).length + x0.length < 140737488355328 then ((some (([] : List Int) ++ x0 : List Int)).bind fun y130 => (if 0 ≤ (wrap64 (2 * x2)) then (if (wrap64 (2 * x2)) < (x0.length : Int) then (if 0 ≤ (wrap64 (2 * x1)) then (if (wrap64 (2 * x1)) < (y130.length : Int) then (if 0 ≤ (wrap64 ((wrap64 (2 * x2)) + 1)) then (if (wrap64 ((wrap64 (2 * x2)) + 1)) < (x0.length : Int) then (if 0 ≤ (wrap64 ((wrap64 (2 * x1)) + 1)) then (if (wrap64 ((wrap64 (2 * x1)) + 1)) < (y130.length : Int) then (if (wrap64 (2 * x1)) < (x0.length : Int) then (if (wrap64 (2 * x2)) < (y130.length : Int) then (if (wrap64 ((wrap64 (2 * x1)) + 1)) < (x0.length : Int) then (if (wrap64 ((wrap64 (2 * x2)) + 1)) < (y130.length : Int) then (if x7 = true then ((num_Sum.f k ((((y130.set ((wrap64 (2 * x1)) : Int).toNat (rd x0 (wrap64 (2 * x2)))).set ((wrap64 ((wrap64 (2 * x1)) + 1)) : Int).toNat (rd x0 (wrap64 ((wrap64 (2 * x2)) + 1)))).set ((wrap64 (2 * x2)) : Int).toNat (rd x0 (wrap64 (2 * x1)))).set ((wrap64 ((wrap64 (2 * x2)) + 1)) : Int).toNat (rd x0 (wrap64 ((wrap64 (2 * x1)) + 1))))).bind fun t141 => ((num_Sum.f k x0).bind fun t142 => (some (t141 == t142)))) else (some false)) else (none)) else (none)) else (none)) else (none)) else (none)) else (none)) else (none)) else (none)) else (none)) else (none)) else (none)) else (none))) else (none))
end
def octroilaw01_NumZero.f (k : Nat) (l0 : List Int) (a1 : Int) (a2 : Int) : Option (Bool) := (octroilaw01_awake.f k).bind fun t118 => (if (l0.length : Int) > 3000 then (octroilaw01_NumZero.j0 k l0 a1 a2 t118 true) else (octroilaw01_NumZero.j0 k l0 a1 a2 t118 (((l0.length : Int) % 2) != 0)))
theorem octroilaw01_NumZero.mono_l : ∀ k, (∀ y0 y1 y2 y3 y4, LeO (octroilaw01_NumZero.j0 k y0 y1 y2 y3 y4) (octroilaw01_NumZero.j0 (k + 1) y0 y1 y2 y3 y4)) ∧ (∀ y0 y1 y2 y3 y4, LeO (octroilaw01_NumZero.j1 k y0 y1 y2 y3 y4) (octroilaw01_NumZero.j1 (k + 1) y0 y1 y2 y3 y4))
  | 0 => ⟨fun _ _ _ _ _ r h => by simp [octroilaw01_NumZero.j0] at h, fun _ _ _ _ _ r h => by simp [octroilaw01_NumZero.j1] at h⟩
  | k + 1 => by
    obtain ⟨ih0, ih1⟩ := octroilaw01_NumZero.mono_l k
    refine ⟨?_, ?_⟩
    · intro y0 y1 y2 y3 y4
      unfold octroilaw01_NumZero.j0
      repeat' first
      | (with_reducible exact ih0 _ _ _ _ _)
      | (with_reducible exact ih1 _ _ _ _ _)
      | (with_reducible exact num_Put16.mono _ _)
      | (with_reducible exact num_Sum.mono _ _)
      | (with_reducible exact octroilaw01_awake.mono _)
      | (with_reducible exact LeO.refl _)
      | (with_reducible exact LeO.none _)
      | (with_reducible refine LeO.ite ?_ ?_)
      | (with_reducible refine LeO.bind ?_ (fun _ => ?_))
      | exact ih0 _ _ _ _ _
      | exact ih1 _ _ _ _ _
      | exact num_Put16.mono _ _
      | exact num_Sum.mono _ _
      | exact octroilaw01_awake.mono _
      | exact LeO.none _
      | refine LeO.ite ?_ ?_
      | refine LeO.bind ?_ (fun _ => ?_)
    · intro y0 y1 y2 y3 y4
      unfold octroilaw01_NumZero.j1
      repeat' first
      | (with_reducible exact ih0 _ _ _ _ _)
      | (with_reducible exact ih1 _ _ _ _ _)
      | (with_reducible exact num_Put16.mono _ _)
      | (with_reducible exact num_Sum.mono _ _)
      | (with_reducible exact octroilaw01_awake.mono _)
      | (with_reducible exact LeO.refl _)
      | (with_reducible exact LeO.none _)
      | (with_reducible refine LeO.ite ?_ ?_)
      | (with_reducible refine LeO.bind ?_ (fun _ => ?_))
      | exact ih0 _ _ _ _ _
      | exact ih1 _ _ _ _ _
      | exact num_Put16.mono _ _
      | exact num_Sum.mono _ _
      | exact octroilaw01_awake.mono _
      | exact LeO.none _
      | refine LeO.ite ?_ ?_
      | refine LeO.bind ?_ (fun _ => ?_)
theorem octroilaw01_NumZero.mono : ∀ a0 a1 a2 k, LeO (octroilaw01_NumZero.f k a0 a1 a2) (octroilaw01_NumZero.f (k + 1) a0 a1 a2) := by
  intro a0 a1 a2 k
  obtain ⟨ih0, ih1⟩ := octroilaw01_NumZero.mono_l k
  unfold octroilaw01_NumZero.f
  repeat' first
      | (with_reducible exact ih0 _ _ _ _ _)
      | (with_reducible exact ih1 _ _ _ _ _)
      | (with_reducible exact num_Put16.mono _ _)
      | (with_reducible exact num_Sum.mono _ _)
      | (with_reducible exact octroilaw01_awake.mono _)
      | (with_reducible exact LeO.refl _)
      | (with_reducible exact LeO.none _)
      | (with_reducible refine LeO.ite ?_ ?_)
      | (with_reducible refine LeO.bind ?_ (fun _ => ?_))
      | exact ih0 _ _ _ _ _
      | exact ih1 _ _ _ _ _
      | exact num_Put16.mono _ _
      | exact num_Sum.mono _ _
      | exact octroilaw01_awake.mono _
      | exact LeO.none _
      | refine LeO.ite ?_ ?_
      | refine LeO.bind ?_ (fun _ => ?_)
set_option maxHeartbeats 8000000 in
set_option maxRecDepth 100000 in
theorem octroilaw01_NumZero.calls (k : Nat) (A0 : Option Addr) (c0 : Nat) (l0 : List Int) (a1 : Int) (a2 : Int) (r : Bool) (w : World) (hr0 : Kd.C (Kd.int .u8) w A0 l0.length l0) (hc0 : l0.length ≤ c0) (h : octroilaw01_NumZero.f k l0 a1 a2 = some r) :
    Calls Try.prog 6 #[.slice A0 l0.length c0, .int .i64 a1, .int .i64 a2] w fun e w' => e = .returned (.bool r) ∧ Below w.heap.size w w' := by
  have HR0 := Aside0.mk hr0
  have HC0 := Aside0.mk hc0
  clear hr0 hc0
  have HB := Aside0.mk (Below.refl w.heap.size w)
  have H : ((octroilaw01_awake.f k).bind fun t118 => (if (l0.length : Int) > 3000 then (octroilaw01_NumZero.j0 k l0 a1 a2 t118 true) else (octroilaw01_NumZero.j0 k l0 a1 a2 t118 (((l0.length : Int) % 2) != 0)))) = some r := h
  clear h
  replace H := Option.bind_eq_some_iff.mp H
  obtain ⟨t118, A40, H⟩ := H
  replace H : (if (l0.length : Int) > 3000 then (octroilaw01_NumZero.j0 k l0 a1 a2 t118 true) else (octroilaw01_NumZero.j0 k l0 a1 a2 t118 (((l0.length : Int) % 2) != 0))) = some r := H
  have A4 := Aside0.mk A40
  clear A40
  have HC5 := Aside0.mk H
  clear H
  go_enter Try.func6, Try.ntmps6
  go_upto_region 2 with (first | ((with_reducible refine gate_callee (f := 12) rfl ?_); refine goesL_ (some 10) rfl rfl Try.func12 (by kernel_rfl) rfl #[] rfl (by (try simp only [List.map_toArray, List.map_cons, List.map_nil]); first | done | rfl | (simp only [List.length_drop, List.length_take]; rfl)) ?_; (with_reducible refine (octroilaw01_awake.calls k  t118 _ A4.out).mono ?_); rintro e w6 ⟨rfl, hb⟩; refine ⟨_, rfl, ?_⟩; have n0_ := Aside0.mk (below_step (by repeat (first | (with_reducible first | exact HB.out | apply below_alloc | apply pw_below_drewN | apply below_drew1) | exact HB.out)) hb); clear HB; have HB := n0_; clear n0_; (try clear hb); (try clear hb2); (try clear hk); (try clear hi)))
  (try simp only [Act.put, List.setIfInBounds_toArray, List.set_cons_zero, List.set_cons_succ])
  go_cut [19] (fun v19 wc => ∃ (kq : Nat) (x19_4 : Bool), v19 = .bool x19_4 ∧ Aside0 (octroilaw01_NumZero.j0 kq l0 a1 a2 t118 x19_4 = some r) ∧ Aside0 (kq ≤ k) ∧ Aside0 (Below w.heap.size w wc))
  case first =>
    have H := HC5.out
    clear HC5
    by_cases c7 : (l0.length : Int) > 3000
    · rw [if_pos c7] at H
      have c7b0 : decide (3000 < (l0.length : Int)) = true := decide_eq_true c7
      have c7b1 : decide (3000 < l0.length) = true := decide_eq_true (by omega)
      clear c7
      (first | rw [c7b0] | (simp only [i64_w, i32_w]; rw [c7b0]) | skip)
      have H' := Aside0.mk H
      clear H
      go_wp2
      go_meet
      case rel => exact ⟨_, (true), (by first | rfl | (simp; done) | (simp [*]; done)), H', ⟨by first | omega | exact Nat.le_refl _⟩, ⟨by repeat (first | (with_reducible first | exact HB.out | apply below_alloc | apply pw_below_drewN | apply below_drew1) | exact HB.out)⟩⟩
    · rw [if_neg c7] at H
      have c7b0 : decide (3000 < (l0.length : Int)) = false := decide_eq_false c7
      have c7b1 : decide (3000 < l0.length) = false := decide_eq_false (by omega)
      clear c7
      (first | rw [c7b0] | (simp only [i64_w, i32_w]; rw [c7b0]) | skip)
      have H' := Aside0.mk H
      clear H
      go_wp2
      go_meet
      case rel => exact ⟨_, ((((l0.length : Int) % 2) != 0)), (by first | rfl | (simp; done) | (simp [*]; done)), H', ⟨by first | omega | exact Nat.le_refl _⟩, ⟨by repeat (first | (with_reducible first | exact HB.out | apply below_alloc | apply pw_below_drewN | apply below_drew1) | exact HB.out)⟩⟩
  case rest =>
    clear HC5
    try clear c1
    try clear p2
    try clear c6
    try clear c7
    try clear c7b0
    try clear c7b1
    obtain ⟨kq, x19_4, rfl, HA, HJ4, HB⟩ := hcut
    cases kq with
    | zero => exact absurd HA.out (by simp [octroilaw01_NumZero.j0])
    | succ kj4 =>
      have H := HA.out
      clear HA
      simp only [octroilaw01_NumZero.j0] at H
      by_cases c8 : x19_4 = true
      · subst c8
        have H1 : (some t118) = some r := by rw [if_pos rfl] at H; exact H
        clear H
        have H := H1
        clear H1
        obtain rfl := Option.some.inj H
        go_wp2
        go_ret
        exact ⟨by first | rfl | (simp [errW_none, errW_some] <;> rfl) | (simp [*, errW_none, errW_some] <;> rfl), by repeat (first | (with_reducible first | exact HB.out | apply below_alloc | apply pw_below_drewN | apply below_drew1) | exact HB.out)⟩
      · replace c8 := Bool.eq_false_iff.mpr c8
        subst c8
        have H1 : (if ([] : List Int).length + l0.length < 140737488355328 then ((some (([] : List Int) ++ l0 : List Int)).bind fun y119 => ((num_Sum.f kj4 l0).bind fun t122 => ((num_Put16.f kj4 t122).bind fun t123 => (if y119.length + t123.length < 140737488355328 then ((num_Sum.f kj4 (y119 ++ t123)).bind fun t129 => (if t129 = 0 then (if a1 < 0 then (octroilaw01_NumZero.j1 kj4 l0 a1 a2 t118 true) else (if a2 < 0 then (octroilaw01_NumZero.j1 kj4 l0 a1 a2 t118 true) else (if a1 ≥ (wrap64 ((l0.length : Int) / 2)) then (octroilaw01_NumZero.j1 kj4 l0 a1 a2 t118 true) else (octroilaw01_NumZero.j1 kj4 l0 a1 a2 t118 (decide (a2 ≥ (wrap64 ((l0.length : Int) / 2)))))))) else (some false))) else (none))))) else (none)) = some r := by rw [if_neg (show ¬ (false = true) by decide)] at H; exact H
        clear H
        have H := H1
        clear H1
        by_cases c9 : ([] : List Int).length + l0.length < 140737488355328
        · rw [if_pos c9] at H
          have LMc9 := Aside0.mk c9
          clear c9
          obtain ⟨y119, hy119⟩ : ∃ y_ : List Int, y_ = (([] : List Int) ++ l0) := ⟨_, rfl⟩
          replace H : ((num_Sum.f kj4 l0).bind fun t122 => ((num_Put16.f kj4 t122).bind fun t123 => (if y119.length + t123.length < 140737488355328 then ((num_Sum.f kj4 (y119 ++ t123)).bind fun t129 => (if t129 = 0 then (if a1 < 0 then (octroilaw01_NumZero.j1 kj4 l0 a1 a2 t118 true) else (if a2 < 0 then (octroilaw01_NumZero.j1 kj4 l0 a1 a2 t118 true) else (if a1 ≥ (wrap64 ((l0.length : Int) / 2)) then (octroilaw01_NumZero.j1 kj4 l0 a1 a2 t118 true) else (octroilaw01_NumZero.j1 kj4 l0 a1 a2 t118 (decide (a2 ≥ (wrap64 ((l0.length : Int) / 2)))))))) else (some false))) else (none)))) = some r := by first | (rw [hy119]; with_reducible exact H) | (have H2_ := (Option.bind_some _ _).symm.trans H; rw [hy119]; with_reducible exact H2_) | (have H2_ := (Option.bind_some _ _).symm.trans H; with_reducible exact H2_) | with_reducible exact H | (rw [hy119]; exact H) | exact H
          have Ny119 := Aside0.mk hy119
          clear hy119
          replace H := Option.bind_eq_some_iff.mp H
          obtain ⟨t122, A100, H⟩ := H
          replace H : ((num_Put16.f kj4 t122).bind fun t123 => (if y119.length + t123.length < 140737488355328 then ((num_Sum.f kj4 (y119 ++ t123)).bind fun t129 => (if t129 = 0 then (if a1 < 0 then (octroilaw01_NumZero.j1 kj4 l0 a1 a2 t118 true) else (if a2 < 0 then (octroilaw01_NumZero.j1 kj4 l0 a1 a2 t118 true) else (if a1 ≥ (wrap64 ((l0.length : Int) / 2)) then (octroilaw01_NumZero.j1 kj4 l0 a1 a2 t118 true) else (octroilaw01_NumZero.j1 kj4 l0 a1 a2 t118 (decide (a2 ≥ (wrap64 ((l0.length : Int) / 2)))))))) else (some false))) else (none))) = some r := H
          have A10 := Aside0.mk A100
          clear A100
          replace H := Option.bind_eq_some_iff.mp H
          obtain ⟨t123, A110, H⟩ := H
          replace H : (if y119.length + t123.length < 140737488355328 then ((num_Sum.f kj4 (y119 ++ t123)).bind fun t129 => (if t129 = 0 then (if a1 < 0 then (octroilaw01_NumZero.j1 kj4 l0 a1 a2 t118 true) else (if a2 < 0 then (octroilaw01_NumZero.j1 kj4 l0 a1 a2 t118 true) else (if a1 ≥ (wrap64 ((l0.length : Int) / 2)) then (octroilaw01_NumZero.j1 kj4 l0 a1 a2 t118 true) else (octroilaw01_NumZero.j1 kj4 l0 a1 a2 t118 (decide (a2 ≥ (wrap64 ((l0.length : Int) / 2)))))))) else (some false))) else (none)) = some r := H
          have A11 := Aside0.mk A110
          clear A110
          by_cases c12 : y119.length + t123.length < 140737488355328
          · rw [if_pos c12] at H
            have LMc12 := Aside0.mk c12
            clear c12
            obtain ⟨y126, hy126⟩ : ∃ y_ : List Int, y_ = (y119 ++ t123) := ⟨_, rfl⟩
            replace H : ((num_Sum.f kj4 y126).bind fun t129 => (if t129 = 0 then (if a1 < 0 then (octroilaw01_NumZero.j1 kj4 l0 a1 a2 t118 true) else (if a2 < 0 then (octroilaw01_NumZero.j1 kj4 l0 a1 a2 t118 true) else (if a1 ≥ (wrap64 ((l0.length : Int) / 2)) then (octroilaw01_NumZero.j1 kj4 l0 a1 a2 t118 true) else (octroilaw01_NumZero.j1 kj4 l0 a1 a2 t118 (decide (a2 ≥ (wrap64 ((l0.length : Int) / 2)))))))) else (some false))) = some r := by first | (rw [hy126]; with_reducible exact H) | (have H2_ := (Option.bind_some _ _).symm.trans H; rw [hy126]; with_reducible exact H2_) | (have H2_ := (Option.bind_some _ _).symm.trans H; with_reducible exact H2_) | with_reducible exact H | (rw [hy126]; exact H) | exact H
            have Ny126 := Aside0.mk hy126
            clear hy126
            replace H := Option.bind_eq_some_iff.mp H
            obtain ⟨t129, A130, H⟩ := H
            replace H : (if t129 = 0 then (if a1 < 0 then (octroilaw01_NumZero.j1 kj4 l0 a1 a2 t118 true) else (if a2 < 0 then (octroilaw01_NumZero.j1 kj4 l0 a1 a2 t118 true) else (if a1 ≥ (wrap64 ((l0.length : Int) / 2)) then (octroilaw01_NumZero.j1 kj4 l0 a1 a2 t118 true) else (octroilaw01_NumZero.j1 kj4 l0 a1 a2 t118 (decide (a2 ≥ (wrap64 ((l0.length : Int) / 2)))))))) else (some false)) = some r := H
            have A13 := Aside0.mk A130
            clear A130
            by_cases c14 : t129 = 0
            · rw [if_pos c14] at H
              have c14b0 : (t129 == 0) = true := beq_iff_eq.mpr c14
              have c14b1 : (t129 != 0) = false := bne_eq_false_iff_eq.mpr c14
              clear c14
              have HC15 := Aside0.mk H
              clear H
              go_upto_region 7 with (first | ((with_reducible refine gate_builtin (b := .append) (xs := #[.const (.slice none 0 0), .tmp 21]) rfl ?_); (try (refine gate_guard (by rfl) ?_; dsimp only)); at_builtin; refine Kd.R_append_rows (Kd.int .u8) (w0 := w) w.heap.size rfl (.const (.slice none 0 0)) (.tmp 21) 27 5 (.int .u8 0) 1 rfl Try.underlying27 info5 rfl (by decide) (by omega) (.slice none 0 0) ([] : List Int) l0 _ _ _ (fun _ => True) (fun _ => False) rfl rfl ?aO ?aR (fun _ _ h => h) (fun _ h => h.elim) ?aF ?aB ?aS ?aL ?_; (case aR => repeat (first | exact (Kd.C_below HR0.out HB.out) | (with_reducible refine Kd.C_alloc ?_ _) | (with_reducible refine Kd.C_drewN ?_ _) | (with_reducible refine Kd.C_drew ?_))); (case aB => exact (by repeat (first | (with_reducible first | exact HB.out | apply below_alloc | apply pw_below_drewN | apply below_drew1) | exact HB.out))); (case aF => exact (fun _ _ => trivial)); (case aO => exact ((Kd.R_nil _ _ _ _ (fun _ => True)))); (case aS => exact (below_size (by repeat (first | (with_reducible first | exact HB.out | apply below_alloc | apply pw_below_drewN | apply below_drew1) | exact HB.out)))); (case aL => have := LMc9.out; omega); intro v120 w16 ho hb hg hat; rw [← Ny119.out] at ho; have n0_ := Aside0.mk (hb); have n1_ := Aside0.mk (ho); clear HB; have HB := n0_; have HO121 := n1_; clear n0_ n1_; clear ho hb hg hat) | ((with_reducible refine gate_callee (f := 17) rfl ?_); refine goesL_ (some 24) rfl rfl Try.func17 (by kernel_rfl) rfl #[.slice A0 l0.length c0] rfl (by (try simp only [List.map_toArray, List.map_cons, List.map_nil]); first | done | rfl | (simp only [List.length_drop, List.length_take]; rfl)) ?_; (with_reducible refine (num_Sum.calls kj4 _ _ l0 t122 _ ?side1 ?side2 A10.out).mono ?_); (case side1 => repeat (first | exact (Kd.C_below HR0.out HB.out) | (with_reducible refine Kd.C_alloc ?_ _) | (with_reducible refine Kd.C_drewN ?_ _) | (with_reducible refine Kd.C_drew ?_))); (case side2 => exact HC0.out); rintro e w' ⟨rfl, ⟨nd, rfl⟩⟩; refine ⟨_, rfl, ?_⟩) | ((with_reducible refine gate_callee (f := 19) rfl ?_); refine goesL_ (some 25) rfl rfl Try.func19 (by kernel_rfl) rfl #[.int .u16 t122] rfl (by (try simp only [List.map_toArray, List.map_cons, List.map_nil]); first | done | rfl | (simp only [List.length_drop, List.length_take]; rfl)) ?_; (with_reducible refine (num_Put16.calls kj4 t122 t123 _ A11.out).mono ?_); rintro e w17 ⟨v124, rfl, ho0, hb⟩; refine ⟨_, rfl, ?_⟩; have n0_ := Aside0.mk (Kd.R_elder' (by (with_reducible repeat (first | apply Kd.R_alloc | apply Kd.R_drewN | apply Kd.R_drew)); exact HO121.out) (Kd.R_base ho0) hb); have n1_ := Aside0.mk (Kd.R_lower (Kd.R_new' ho0 (Kd.R_lt (by (with_reducible repeat (first | apply Kd.R_alloc | apply Kd.R_drewN | apply Kd.R_drew)); exact HO121.out))) (below_size (by repeat (first | (with_reducible first | exact HB.out | apply below_alloc | apply pw_below_drewN | apply below_drew1) | exact HB.out)))); have n2_ := Aside0.mk (below_step (by repeat (first | (with_reducible first | exact HB.out | apply below_alloc | apply pw_below_drewN | apply below_drew1) | exact HB.out)) hb); clear HO121; clear HB; have HO121 := n0_; have HO125 := n1_; have HB := n2_; clear n0_ n1_ n2_; (try clear hb); (try clear hb2); (try clear hk); (try clear hi); (try clear ho0); obtain ⟨Ao19, co19, eo19⟩ := Kd.R_slice HO125.out; subst eo19) | ((with_reducible refine gate_builtin (b := .append) (xs := #[.tmp 22, .tmp 25]) rfl ?_); (try (refine gate_guard (by rfl) ?_; dsimp only)); at_builtin; refine Kd.R_append_rows (Kd.int .u8) (w0 := w) w.heap.size rfl (.tmp 22) (.tmp 25) 27 5 (.int .u8 0) 1 rfl Try.underlying27 info5 rfl (by decide) (by omega) v120 y119 t123 _ _ _ (fun k_ => some k_ ≠ (.slice Ao19 t123.length co19 : Value).ownBlock) (fun _ => False) rfl rfl ?aO ?aR (fun _ _ h => h) (fun _ h => h.elim) ?aF ?aB ?aS ?aL ?_; (case aR => repeat (first | exact (Kd.R_reads' HO125.out).2.2 | (with_reducible refine Kd.C_alloc ?_ _) | (with_reducible refine Kd.C_drewN ?_ _) | (with_reducible refine Kd.C_drew ?_))); (case aB => exact (by repeat (first | (with_reducible first | exact HB.out | apply below_alloc | apply pw_below_drewN | apply below_drew1) | exact HB.out))); (case aF => exact (fun k_ hk => Kd.fresh' (Kd.R_lt (by (with_reducible repeat (first | apply Kd.R_alloc | apply Kd.R_drewN | apply Kd.R_drew)); exact HO125.out)) k_ hk)); (case aO => exact (by (with_reducible repeat (first | apply Kd.R_alloc | apply Kd.R_drewN | apply Kd.R_drew)); exact Kd.R_mono HO121.out (fun _ hk => hk.2))); (case aS => exact (below_size (by repeat (first | (with_reducible first | exact HB.out | apply below_alloc | apply pw_below_drewN | apply below_drew1) | exact HB.out)))); (case aL => have := LMc12.out; omega); intro v127 w18 ho hb hg hat; rw [← Ny126.out] at ho; have n0_ := Aside0.mk (Kd.R_after (ok := (fun _ => True)) (by (with_reducible repeat (first | apply Kd.R_alloc | apply Kd.R_drewN | apply Kd.R_drew)); exact HO125.out) hg hat); have n1_ := Aside0.mk (hb); have n2_ := Aside0.mk (ho); clear HO125; clear HB; clear HO121; have HO125 := n0_; have HB := n1_; have HO128 := n2_; clear n0_ n1_ n2_; clear ho hb hg hat; obtain ⟨Ao20, co20, eo20⟩ := Kd.R_slice HO128.out; subst eo20) | ((with_reducible refine gate_callee (f := 17) rfl ?_); refine goesL_ (some 28) rfl rfl Try.func17 (by kernel_rfl) rfl #[.slice Ao20 y126.length co20] rfl (by (try simp only [List.map_toArray, List.map_cons, List.map_nil]); first | done | rfl | (simp only [List.length_drop, List.length_take]; rfl)) ?_; (with_reducible refine (num_Sum.calls kj4 _ _ y126 t129 _ ?side1 ?side2 A13.out).mono ?_); (case side1 => repeat (first | exact (Kd.R_reads' HO128.out).2.2 | (with_reducible refine Kd.C_alloc ?_ _) | (with_reducible refine Kd.C_drewN ?_ _) | (with_reducible refine Kd.C_drew ?_))); (case side2 => exact (Kd.R_reads' HO128.out).2.1); rintro e w' ⟨rfl, ⟨nd, rfl⟩⟩; refine ⟨_, rfl, ?_⟩))
              (try simp only [Act.put, List.setIfInBounds_toArray, List.set_cons_zero, List.set_cons_succ])
              go_cut [49] (fun v49 wc => ∃ (kq : Nat) (x49_14 : Bool), v49 = .bool x49_14 ∧ Aside0 (octroilaw01_NumZero.j1 kq l0 a1 a2 t118 x49_14 = some r) ∧ Aside0 (kq ≤ kj4) ∧ Aside0 (Below w.heap.size w wc))
              case first =>
                have H := HC15.out
                clear HC15
                by_cases c21 : a1 < 0
                · rw [if_pos c21] at H
                  have c21b0 : decide (a1 < 0) = true := decide_eq_true c21
                  clear c21
                  (first | rw [c21b0] | (simp only [i64_w, i32_w]; rw [c21b0]) | skip)
                  have H' := Aside0.mk H
                  clear H
                  go_wp2
                  go_meet
                  case rel => exact ⟨_, (true), (by first | rfl | (simp; done) | (simp [*]; done)), H', ⟨by have := HJ4.out; first | omega | exact Nat.le_refl _⟩, ⟨by repeat (first | (with_reducible first | exact HB.out | apply below_alloc | apply pw_below_drewN | apply below_drew1) | exact HB.out)⟩⟩
                · rw [if_neg c21] at H
                  have c21b0 : decide (a1 < 0) = false := decide_eq_false c21
                  clear c21
                  (first | rw [c21b0] | (simp only [i64_w, i32_w]; rw [c21b0]) | skip)
                  by_cases c22 : a2 < 0
                  · rw [if_pos c22] at H
                    have c22b0 : decide (a2 < 0) = true := decide_eq_true c22
                    clear c22
                    have H' := Aside0.mk H
                    clear H
                    go_wp2
                    go_meet
                    case rel => exact ⟨_, (true), (by first | rfl | (simp; done) | (simp [*]; done)), H', ⟨by have := HJ4.out; first | omega | exact Nat.le_refl _⟩, ⟨by repeat (first | (with_reducible first | exact HB.out | apply below_alloc | apply pw_below_drewN | apply below_drew1) | exact HB.out)⟩⟩
                  · rw [if_neg c22] at H
                    have c22b0 : decide (a2 < 0) = false := decide_eq_false c22
                    clear c22
                    by_cases c23 : a1 ≥ (wrap64 ((l0.length : Int) / 2))
                    · rw [if_pos c23] at H
                      have c23b0 : decide ((wrap64 ((l0.length : Int) / 2)) ≤ a1) = true := decide_eq_true c23
                      clear c23
                      have H' := Aside0.mk H
                      clear H
                      go_wp2
                      go_meet
                      case rel => exact ⟨_, (true), (by first | rfl | (simp; done) | (simp [*]; done)), H', ⟨by have := HJ4.out; first | omega | exact Nat.le_refl _⟩, ⟨by repeat (first | (with_reducible first | exact HB.out | apply below_alloc | apply pw_below_drewN | apply below_drew1) | exact HB.out)⟩⟩
                    · rw [if_neg c23] at H
                      have c23b0 : decide ((wrap64 ((l0.length : Int) / 2)) ≤ a1) = false := decide_eq_false c23
                      clear c23
                      have H' := Aside0.mk H
                      clear H
                      go_wp2
                      go_meet
                      case rel => exact ⟨_, (decide (a2 ≥ (wrap64 ((l0.length : Int) / 2)))), (by first | rfl | (simp; done) | (simp [*]; done)), H', ⟨by have := HJ4.out; first | omega | exact Nat.le_refl _⟩, ⟨by repeat (first | (with_reducible first | exact HB.out | apply below_alloc | apply pw_below_drewN | apply below_drew1) | exact HB.out)⟩⟩
              case rest =>
                clear HC15
                try clear c1
                try clear c2
                try clear p2
                try clear c6
                try clear p6
                try clear c7
                try clear c7b0
                try clear c7b1
                try clear c8
                try clear c9
                try clear c12
                try clear c14
                try clear c14b0
                try clear c14b1
                try clear c17
                try clear c19
                try clear c21
                try clear c21b0
                try clear c22
                try clear c22b0
                try clear c23
                try clear c23b0
                try clear p2
                obtain ⟨kq, x49_14, rfl, HA, HJ14, HB⟩ := hcut
                cases kq with
                | zero => exact absurd HA.out (by simp [octroilaw01_NumZero.j1])
                | succ kj14 =>
                  have H := HA.out
                  clear HA
                  simp only [octroilaw01_NumZero.j1] at H
                  by_cases c24 : x49_14 = true
                  · subst c24
                    have H1 : (some t118) = some r := by rw [if_pos rfl] at H; exact H
                    clear H
                    have H := H1
                    clear H1
                    obtain rfl := Option.some.inj H
                    go_wp2
                    go_ret
                    exact ⟨by first | rfl | (simp [errW_none, errW_some] <;> rfl) | (simp [*, errW_none, errW_some] <;> rfl), by repeat (first | (with_reducible first | exact HB.out | apply below_alloc | apply pw_below_drewN | apply below_drew1) | exact HB.out)⟩
                  · replace c24 := Bool.eq_false_iff.mpr c24
                    subst c24
                    have H1 : (if ([] : List Int).length + l0.length < 140737488355328 then ((some (([] : List Int) ++ l0 : List Int)).bind fun y130 => (if 0 ≤ (wrap64 (2 * a2)) then (if (wrap64 (2 * a2)) < (l0.length : Int) then (if 0 ≤ (wrap64 (2 * a1)) then (if (wrap64 (2 * a1)) < (y130.length : Int) then (if 0 ≤ (wrap64 ((wrap64 (2 * a2)) + 1)) then (if (wrap64 ((wrap64 (2 * a2)) + 1)) < (l0.length : Int) then (if 0 ≤ (wrap64 ((wrap64 (2 * a1)) + 1)) then (if (wrap64 ((wrap64 (2 * a1)) + 1)) < (y130.length : Int) then (if (wrap64 (2 * a1)) < (l0.length : Int) then (if (wrap64 (2 * a2)) < (y130.length : Int) then (if (wrap64 ((wrap64 (2 * a1)) + 1)) < (l0.length : Int) then (if (wrap64 ((wrap64 (2 * a2)) + 1)) < (y130.length : Int) then (if t118 = true then ((num_Sum.f kj14 ((((y130.set ((wrap64 (2 * a1)) : Int).toNat (rd l0 (wrap64 (2 * a2)))).set ((wrap64 ((wrap64 (2 * a1)) + 1)) : Int).toNat (rd l0 (wrap64 ((wrap64 (2 * a2)) + 1)))).set ((wrap64 (2 * a2)) : Int).toNat (rd l0 (wrap64 (2 * a1)))).set ((wrap64 ((wrap64 (2 * a2)) + 1)) : Int).toNat (rd l0 (wrap64 ((wrap64 (2 * a1)) + 1))))).bind fun t141 => ((num_Sum.f kj14 l0).bind fun t142 => (some (t141 == t142)))) else (some false)) else (none)) else (none)) else (none)) else (none)) else (none)) else (none)) else (none)) else (none)) else (none)) else (none)) else (none)) else (none))) else (none)) = some r := by rw [if_neg (show ¬ (false = true) by decide)] at H; exact H
                    clear H
                    have H := H1
                    clear H1
                    by_cases c25 : ([] : List Int).length + l0.length < 140737488355328
                    · rw [if_pos c25] at H
                      have LMc25 := Aside0.mk c25
                      clear c25
                      obtain ⟨y130, hy130⟩ : ∃ y_ : List Int, y_ = (([] : List Int) ++ l0) := ⟨_, rfl⟩
                      replace H : (if 0 ≤ (wrap64 (2 * a2)) then (if (wrap64 (2 * a2)) < (l0.length : Int) then (if 0 ≤ (wrap64 (2 * a1)) then (if (wrap64 (2 * a1)) < (y130.length : Int) then (if 0 ≤ (wrap64 ((wrap64 (2 * a2)) + 1)) then (if (wrap64 ((wrap64 (2 * a2)) + 1)) < (l0.length : Int) then (if 0 ≤ (wrap64 ((wrap64 (2 * a1)) + 1)) then (if (wrap64 ((wrap64 (2 * a1)) + 1)) < (y130.length : Int) then (if (wrap64 (2 * a1)) < (l0.length : Int) then (if (wrap64 (2 * a2)) < (y130.length : Int) then (if (wrap64 ((wrap64 (2 * a1)) + 1)) < (l0.length : Int) then (if (wrap64 ((wrap64 (2 * a2)) + 1)) < (y130.length : Int) then (if t118 = true then ((num_Sum.f kj14 ((((y130.set ((wrap64 (2 * a1)) : Int).toNat (rd l0 (wrap64 (2 * a2)))).set ((wrap64 ((wrap64 (2 * a1)) + 1)) : Int).toNat (rd l0 (wrap64 ((wrap64 (2 * a2)) + 1)))).set ((wrap64 (2 * a2)) : Int).toNat (rd l0 (wrap64 (2 * a1)))).set ((wrap64 ((wrap64 (2 * a2)) + 1)) : Int).toNat (rd l0 (wrap64 ((wrap64 (2 * a1)) + 1))))).bind fun t141 => ((num_Sum.f kj14 l0).bind fun t142 => (some (t141 == t142)))) else (some false)) else (none)) else (none)) else (none)) else (none)) else (none)) else (none)) else (none)) else (none)) else (none)) else (none)) else (none)) else (none)) = some r := by first | (rw [hy130]; with_reducible exact H) | (have H2_ := (Option.bind_some _ _).symm.trans H; rw [hy130]; with_reducible exact H2_) | (have H2_ := (Option.bind_some _ _).symm.trans H; with_reducible exact H2_) | with_reducible exact H | (rw [hy130]; exact H) | exact H
                      have Ny130 := Aside0.mk hy130
                      clear hy130
                      obtain ⟨ji26, hji26⟩ : ∃ j_ : Int, (wrap64 (2 * a2)) = j_ := ⟨_, rfl⟩
                      replace H : (if 0 ≤ (ji26) then (if (ji26) < (l0.length : Int) then (if 0 ≤ (wrap64 (2 * a1)) then (if (wrap64 (2 * a1)) < (y130.length : Int) then (if 0 ≤ (wrap64 ((ji26) + 1)) then (if (wrap64 ((ji26) + 1)) < (l0.length : Int) then (if 0 ≤ (wrap64 ((wrap64 (2 * a1)) + 1)) then (if (wrap64 ((wrap64 (2 * a1)) + 1)) < (y130.length : Int) then (if (wrap64 (2 * a1)) < (l0.length : Int) then (if (ji26) < (y130.length : Int) then (if (wrap64 ((wrap64 (2 * a1)) + 1)) < (l0.length : Int) then (if (wrap64 ((ji26) + 1)) < (y130.length : Int) then (if t118 = true then ((num_Sum.f kj14 ((((y130.set ((wrap64 (2 * a1)) : Int).toNat (rd l0 (ji26))).set ((wrap64 ((wrap64 (2 * a1)) + 1)) : Int).toNat (rd l0 (wrap64 ((ji26) + 1)))).set ((ji26) : Int).toNat (rd l0 (wrap64 (2 * a1)))).set ((wrap64 ((ji26) + 1)) : Int).toNat (rd l0 (wrap64 ((wrap64 (2 * a1)) + 1))))).bind fun t141 => ((num_Sum.f kj14 l0).bind fun t142 => (some (t141 == t142)))) else (some false)) else (none)) else (none)) else (none)) else (none)) else (none)) else (none)) else (none)) else (none)) else (none)) else (none)) else (none)) else (none)) = some r := by first | (rw [hji26] at H; exact H) | (simp only [hji26] at H ⊢; exact H)
                      have hji26w : (IntKind.i64.wrap (2 * a2)) = ji26 := (i64_w _).trans hji26
                      by_cases c27 : 0 ≤ (ji26)
                      · rw [if_pos c27] at H
                        have c27b0 : decide (0 ≤ (ji26)) = true := decide_eq_true c27
                        clear c27
                        by_cases c28 : (ji26) < (l0.length : Int)
                        · rw [if_pos c28] at H
                          have c28b0 : decide ((ji26) < (l0.length : Int)) = true := decide_eq_true c28
                          clear c28
                          obtain ⟨ji29, hji29⟩ : ∃ j_ : Int, (wrap64 (2 * a1)) = j_ := ⟨_, rfl⟩
                          replace H : (if 0 ≤ (ji29) then (if (ji29) < (y130.length : Int) then (if 0 ≤ (wrap64 ((ji26) + 1)) then (if (wrap64 ((ji26) + 1)) < (l0.length : Int) then (if 0 ≤ (wrap64 ((ji29) + 1)) then (if (wrap64 ((ji29) + 1)) < (y130.length : Int) then (if (ji29) < (l0.length : Int) then (if (ji26) < (y130.length : Int) then (if (wrap64 ((ji29) + 1)) < (l0.length : Int) then (if (wrap64 ((ji26) + 1)) < (y130.length : Int) then (if t118 = true then ((num_Sum.f kj14 ((((y130.set ((ji29) : Int).toNat (rd l0 (ji26))).set ((wrap64 ((ji29) + 1)) : Int).toNat (rd l0 (wrap64 ((ji26) + 1)))).set ((ji26) : Int).toNat (rd l0 (ji29))).set ((wrap64 ((ji26) + 1)) : Int).toNat (rd l0 (wrap64 ((ji29) + 1))))).bind fun t141 => ((num_Sum.f kj14 l0).bind fun t142 => (some (t141 == t142)))) else (some false)) else (none)) else (none)) else (none)) else (none)) else (none)) else (none)) else (none)) else (none)) else (none)) else (none)) = some r := by first | (rw [hji29] at H; exact H) | (simp only [hji29] at H ⊢; exact H)
                          have hji29w : (IntKind.i64.wrap (2 * a1)) = ji29 := (i64_w _).trans hji29
                          by_cases c30 : 0 ≤ (ji29)
                          · rw [if_pos c30] at H
                            have c30b0 : decide (0 ≤ (ji29)) = true := decide_eq_true c30
                            clear c30
                            by_cases c31 : (ji29) < (y130.length : Int)
                            · rw [if_pos c31] at H
                              have c31b0 : decide ((ji29) < (y130.length : Int)) = true := decide_eq_true c31
                              clear c31
                              obtain ⟨y134, hy134⟩ : ∃ y_ : List Int, y_ = (y130.set ((ji29) : Int).toNat (rd l0 (ji26))) := ⟨_, rfl⟩
                              replace H : (if 0 ≤ (wrap64 ((ji26) + 1)) then (if (wrap64 ((ji26) + 1)) < (l0.length : Int) then (if 0 ≤ (wrap64 ((ji29) + 1)) then (if (wrap64 ((ji29) + 1)) < (y130.length : Int) then (if (ji29) < (l0.length : Int) then (if (ji26) < (y130.length : Int) then (if (wrap64 ((ji29) + 1)) < (l0.length : Int) then (if (wrap64 ((ji26) + 1)) < (y130.length : Int) then (if t118 = true then ((num_Sum.f kj14 (((y134.set ((wrap64 ((ji29) + 1)) : Int).toNat (rd l0 (wrap64 ((ji26) + 1)))).set ((ji26) : Int).toNat (rd l0 (ji29))).set ((wrap64 ((ji26) + 1)) : Int).toNat (rd l0 (wrap64 ((ji29) + 1))))).bind fun t141 => ((num_Sum.f kj14 l0).bind fun t142 => (some (t141 == t142)))) else (some false)) else (none)) else (none)) else (none)) else (none)) else (none)) else (none)) else (none)) else (none)) = some r := by first | (rw [hy134]; with_reducible exact H) | (have H2_ := (Option.bind_some _ _).symm.trans H; rw [hy134]; with_reducible exact H2_) | (have H2_ := (Option.bind_some _ _).symm.trans H; with_reducible exact H2_) | with_reducible exact H | (rw [hy134]; exact H) | exact H
                              have Ny134 := Aside0.mk hy134
                              clear hy134
                              obtain ⟨ji33, hji33⟩ : ∃ j_ : Int, (wrap64 ((ji26) + 1)) = j_ := ⟨_, rfl⟩
                              replace H : (if 0 ≤ (ji33) then (if (ji33) < (l0.length : Int) then (if 0 ≤ (wrap64 ((ji29) + 1)) then (if (wrap64 ((ji29) + 1)) < (y130.length : Int) then (if (ji29) < (l0.length : Int) then (if (ji26) < (y130.length : Int) then (if (wrap64 ((ji29) + 1)) < (l0.length : Int) then (if (ji33) < (y130.length : Int) then (if t118 = true then ((num_Sum.f kj14 (((y134.set ((wrap64 ((ji29) + 1)) : Int).toNat (rd l0 (ji33))).set ((ji26) : Int).toNat (rd l0 (ji29))).set ((ji33) : Int).toNat (rd l0 (wrap64 ((ji29) + 1))))).bind fun t141 => ((num_Sum.f kj14 l0).bind fun t142 => (some (t141 == t142)))) else (some false)) else (none)) else (none)) else (none)) else (none)) else (none)) else (none)) else (none)) else (none)) = some r := by first | (rw [hji33] at H; exact H) | (simp only [hji33] at H ⊢; exact H)
                              have hji33w : (IntKind.i64.wrap ((ji26) + 1)) = ji33 := (i64_w _).trans hji33
                              by_cases c34 : 0 ≤ (ji33)
                              · rw [if_pos c34] at H
                                have c34b0 : decide (0 ≤ (ji33)) = true := decide_eq_true c34
                                clear c34
                                by_cases c35 : (ji33) < (l0.length : Int)
                                · rw [if_pos c35] at H
                                  have c35b0 : decide ((ji33) < (l0.length : Int)) = true := decide_eq_true c35
                                  clear c35
                                  obtain ⟨ji36, hji36⟩ : ∃ j_ : Int, (wrap64 ((ji29) + 1)) = j_ := ⟨_, rfl⟩
                                  replace H : (if 0 ≤ (ji36) then (if (ji36) < (y130.length : Int) then (if (ji29) < (l0.length : Int) then (if (ji26) < (y130.length : Int) then (if (ji36) < (l0.length : Int) then (if (ji33) < (y130.length : Int) then (if t118 = true then ((num_Sum.f kj14 (((y134.set ((ji36) : Int).toNat (rd l0 (ji33))).set ((ji26) : Int).toNat (rd l0 (ji29))).set ((ji33) : Int).toNat (rd l0 (ji36)))).bind fun t141 => ((num_Sum.f kj14 l0).bind fun t142 => (some (t141 == t142)))) else (some false)) else (none)) else (none)) else (none)) else (none)) else (none)) else (none)) = some r := by first | (rw [hji36] at H; exact H) | (simp only [hji36] at H ⊢; exact H)
                                  have hji36w : (IntKind.i64.wrap ((ji29) + 1)) = ji36 := (i64_w _).trans hji36
                                  by_cases c37 : 0 ≤ (ji36)
                                  · rw [if_pos c37] at H
                                    have c37b0 : decide (0 ≤ (ji36)) = true := decide_eq_true c37
                                    clear c37
                                    by_cases c38 : (ji36) < (y130.length : Int)
                                    · rw [if_pos c38] at H
                                      have c38b0 : decide ((ji36) < (y130.length : Int)) = true := decide_eq_true c38
                                      clear c38
                                      obtain ⟨y136, hy136⟩ : ∃ y_ : List Int, y_ = (y134.set ((ji36) : Int).toNat (rd l0 (ji33))) := ⟨_, rfl⟩
                                      replace H : (if (ji29) < (l0.length : Int) then (if (ji26) < (y130.length : Int) then (if (ji36) < (l0.length : Int) then (if (ji33) < (y130.length : Int) then (if t118 = true then ((num_Sum.f kj14 ((y136.set ((ji26) : Int).toNat (rd l0 (ji29))).set ((ji33) : Int).toNat (rd l0 (ji36)))).bind fun t141 => ((num_Sum.f kj14 l0).bind fun t142 => (some (t141 == t142)))) else (some false)) else (none)) else (none)) else (none)) else (none)) = some r := by first | (rw [hy136]; with_reducible exact H) | (have H2_ := (Option.bind_some _ _).symm.trans H; rw [hy136]; with_reducible exact H2_) | (have H2_ := (Option.bind_some _ _).symm.trans H; with_reducible exact H2_) | with_reducible exact H | (rw [hy136]; exact H) | exact H
                                      have Ny136 := Aside0.mk hy136
                                      clear hy136
                                      by_cases c40 : (ji29) < (l0.length : Int)
                                      · rw [if_pos c40] at H
                                        have c40b0 : decide ((ji29) < (l0.length : Int)) = true := decide_eq_true c40
                                        clear c40
                                        by_cases c41 : (ji26) < (y130.length : Int)
                                        · rw [if_pos c41] at H
                                          have c41b0 : decide ((ji26) < (y130.length : Int)) = true := decide_eq_true c41
                                          clear c41
                                          obtain ⟨y138, hy138⟩ : ∃ y_ : List Int, y_ = (y136.set ((ji26) : Int).toNat (rd l0 (ji29))) := ⟨_, rfl⟩
                                          replace H : (if (ji36) < (l0.length : Int) then (if (ji33) < (y130.length : Int) then (if t118 = true then ((num_Sum.f kj14 (y138.set ((ji33) : Int).toNat (rd l0 (ji36)))).bind fun t141 => ((num_Sum.f kj14 l0).bind fun t142 => (some (t141 == t142)))) else (some false)) else (none)) else (none)) = some r := by first | (rw [hy138]; with_reducible exact H) | (have H2_ := (Option.bind_some _ _).symm.trans H; rw [hy138]; with_reducible exact H2_) | (have H2_ := (Option.bind_some _ _).symm.trans H; with_reducible exact H2_) | with_reducible exact H | (rw [hy138]; exact H) | exact H
                                          have Ny138 := Aside0.mk hy138
                                          clear hy138
                                          by_cases c43 : (ji36) < (l0.length : Int)
                                          · rw [if_pos c43] at H
                                            have c43b0 : decide ((ji36) < (l0.length : Int)) = true := decide_eq_true c43
                                            clear c43
                                            by_cases c44 : (ji33) < (y130.length : Int)
                                            · rw [if_pos c44] at H
                                              have c44b0 : decide ((ji33) < (y130.length : Int)) = true := decide_eq_true c44
                                              clear c44
                                              obtain ⟨y140, hy140⟩ : ∃ y_ : List Int, y_ = (y138.set ((ji33) : Int).toNat (rd l0 (ji36))) := ⟨_, rfl⟩
                                              replace H : (if t118 = true then ((num_Sum.f kj14 y140).bind fun t141 => ((num_Sum.f kj14 l0).bind fun t142 => (some (t141 == t142)))) else (some false)) = some r := by first | (rw [hy140]; with_reducible exact H) | (have H2_ := (Option.bind_some _ _).symm.trans H; rw [hy140]; with_reducible exact H2_) | (have H2_ := (Option.bind_some _ _).symm.trans H; with_reducible exact H2_) | with_reducible exact H | (rw [hy140]; exact H) | exact H
                                              have Ny140 := Aside0.mk hy140
                                              clear hy140
                                              by_cases c46 : t118 = true
                                              · subst c46
                                                have H1 : ((num_Sum.f kj14 y140).bind fun t141 => ((num_Sum.f kj14 l0).bind fun t142 => (some (t141 == t142)))) = some r := by rw [if_pos rfl] at H; exact H
                                                clear H
                                                have H := H1
                                                clear H1
                                                replace H := Option.bind_eq_some_iff.mp H
                                                obtain ⟨t141, A470, H⟩ := H
                                                replace H : ((num_Sum.f kj14 l0).bind fun t142 => (some (t141 == t142))) = some r := H
                                                have A47 := Aside0.mk A470
                                                clear A470
                                                replace H := Option.bind_eq_some_iff.mp H
                                                obtain ⟨t142, A480, H⟩ := H
                                                replace H : (some (t141 == t142)) = some r := H
                                                have A48 := Aside0.mk A480
                                                clear A480
                                                obtain rfl := Option.some.inj H
                                                go_wp2_with (first | ((with_reducible refine gate_builtin (b := .append) (xs := #[.const (.slice none 0 0), .tmp 51]) rfl ?_); (try (refine gate_guard (by rfl) ?_; dsimp only)); at_builtin; refine Kd.R_append_rows (Kd.int .u8) (w0 := w) w.heap.size rfl (.const (.slice none 0 0)) (.tmp 51) 27 5 (.int .u8 0) 1 rfl Try.underlying27 info5 rfl (by decide) (by omega) (.slice none 0 0) ([] : List Int) l0 _ _ _ (fun _ => True) (fun _ => False) rfl rfl ?aO ?aR (fun _ _ h => h) (fun _ h => h.elim) ?aF ?aB ?aS ?aL ?_; (case aR => repeat (first | exact (Kd.C_below HR0.out HB.out) | (with_reducible refine Kd.C_alloc ?_ _) | (with_reducible refine Kd.C_drewN ?_ _) | (with_reducible refine Kd.C_drew ?_))); (case aB => exact (by repeat (first | (with_reducible first | exact HB.out | apply below_alloc | apply pw_below_drewN | apply below_drew1) | exact HB.out))); (case aF => exact (fun _ _ => trivial)); (case aO => exact ((Kd.R_nil _ _ _ _ (fun _ => True)))); (case aS => exact (below_size (by repeat (first | (with_reducible first | exact HB.out | apply below_alloc | apply pw_below_drewN | apply below_drew1) | exact HB.out)))); (case aL => have := LMc25.out; omega); intro v131 w49 ho hb hg hat; rw [← Ny130.out] at ho; have n0_ := Aside0.mk (hb); have n1_ := Aside0.mk (ho); clear HB; have HB := n0_; have HO132 := n1_; clear n0_ n1_; clear ho hb hg hat; have p133 : 0 ≤ ((ji26) : Int) := of_decide_eq_true (by first | (with_reducible assumption) | assumption); have q133 : (ji26) < (l0.length : Int) := of_decide_eq_true (by first | (with_reducible assumption) | assumption); obtain ⟨ad133, e133, hx133_0⟩ := Kd.at_int HR0.out (ji26) p133 q133; cases e133; replace hx133_0 := (HB.out.cell (World.block_lt_of_cell? w _ hx133_0)).trans hx133_0; replace p133 := eq_true p133; replace q133 := eq_true q133; have p32 : 0 ≤ ((ji29) : Int) := of_decide_eq_true (by first | (with_reducible assumption) | assumption); have q32 : ((ji29) : Int) < ((y130.length : Int) : Int) := of_decide_eq_true (by first | (with_reducible assumption) | assumption); obtain ⟨go32, co32, eo32, gb32, gl32, cl32, HG32⟩ := Kd.R_form HO132.out (by omega); (first | cases eo32 | (injection eo32 with ea_ en_ ec_; (first | subst ea_ | (injection ea_ with ea_; subst ea_)); subst ec_; clear en_)); have GB32 := Aside0.mk gb32; have GG32 := Aside0.mk HG32; clear gb32 gl32 HG32; obtain ⟨hx32_0, hf32_0⟩ := Kd.R_celln 0 HO132.out ((ji29) : Int) p32 q32; replace p32 := eq_true p32; replace q32 := eq_true q32; obtain ⟨hy50_, hz50_⟩ := Kd.R_celln 0 HO132.out ((ji29) : Int) (of_decide_eq_true (by first | (with_reducible assumption) | assumption)) (of_decide_eq_true (by first | (with_reducible assumption) | assumption)); have HP50 := Kd.R_putg HO132.out ((ji29) : Int) (rd l0 (ji26))) | ((with_reducible refine gate_store (t := 5) (p := 61) rfl ?_); refine store_event (t := 5) (p := 61) (v := ?vo_w51) (w1 := (w49.setCell ⟨go32, ((ji29) : Int).toNat, none⟩ (.int .u8 (rd l0 (ji26))))) ?hg ?ho ?hn ?hr ?_; (case ho => rfl); (case hg => rfl); (case hn => rfl); (case hr => first | (go_simp; done) | (go_simp; rfl)); intro w51 hw; have hg : w49.grownBy w51 (some go32) := (by rw [hw]; exact HP50.2); have hp_ : Kd.R (Kd.int .u8) 5 w51 w.heap.size (fun _ => True) (.slice (some ⟨go32, 0, none⟩) y130.length co32) y134 := (by rw [hw, Ny134.out]; exact HP50.1); clear HP50; have n0_ := Aside0.mk (hp_); have n1_ := Aside0.mk ((by rw [hw]; exact below_set (HB.out) GB32.out : Below w.heap.size w w51)); clear HO132; clear HB; have HO132 := n0_; have HB := n1_; clear n0_ n1_; clear hg hw hp_; have p135 : 0 ≤ ((ji33) : Int) := of_decide_eq_true (by first | (with_reducible assumption) | assumption); have q135 : (ji33) < (l0.length : Int) := of_decide_eq_true (by first | (with_reducible assumption) | assumption); obtain ⟨ad135, e135, hx135_0⟩ := Kd.at_int HR0.out (ji33) p135 q135; obtain rfl : ad133 = ad135 := (by injection e135); replace hx135_0 := (HB.out.cell (World.block_lt_of_cell? w _ hx135_0)).trans hx135_0; replace p135 := eq_true p135; replace q135 := eq_true q135; have p39 : 0 ≤ ((ji36) : Int) := of_decide_eq_true (by first | (with_reducible assumption) | assumption); have q39 : ((ji36) : Int) < ((y130.length : Int) : Int) := of_decide_eq_true (by first | (with_reducible assumption) | assumption); obtain ⟨hx39_0, hf39_0⟩ := Kd.R_celln 0 HO132.out ((ji36) : Int) p39 q39; replace p39 := eq_true p39; replace q39 := eq_true q39; obtain ⟨hy52_, hz52_⟩ := Kd.R_celln 0 HO132.out ((ji36) : Int) (of_decide_eq_true (by first | (with_reducible assumption) | assumption)) (of_decide_eq_true (by first | (with_reducible assumption) | assumption)); have HP52 := Kd.R_putg HO132.out ((ji36) : Int) (rd l0 (ji33))) | ((with_reducible refine gate_store (t := 5) (p := 72) rfl ?_); refine store_event (t := 5) (p := 72) (v := ?vo_w53) (w1 := (w51.setCell ⟨go32, ((ji36) : Int).toNat, none⟩ (.int .u8 (rd l0 (ji33))))) ?hg ?ho ?hn ?hr ?_; (case ho => rfl); (case hg => rfl); (case hn => rfl); (case hr => first | (go_simp; done) | (go_simp; rfl)); intro w53 hw; have hg : w51.grownBy w53 (some go32) := (by rw [hw]; exact HP52.2); have hp_ : Kd.R (Kd.int .u8) 5 w53 w.heap.size (fun _ => True) (.slice (some ⟨go32, 0, none⟩) y130.length co32) y136 := (by rw [hw, Ny136.out]; exact HP52.1); clear HP52; have n0_ := Aside0.mk (hp_); have n1_ := Aside0.mk ((by rw [hw]; exact below_set (HB.out) GB32.out : Below w.heap.size w w53)); clear HO132; clear HB; have HO132 := n0_; have HB := n1_; clear n0_ n1_; clear hg hw hp_; have p137 : 0 ≤ ((ji29) : Int) := of_decide_eq_true (by first | (with_reducible assumption) | assumption); have q137 : (ji29) < (l0.length : Int) := of_decide_eq_true (by first | (with_reducible assumption) | assumption); obtain ⟨ad137, e137, hx137_0⟩ := Kd.at_int HR0.out (ji29) p137 q137; obtain rfl : ad133 = ad137 := (by injection e137); replace hx137_0 := (HB.out.cell (World.block_lt_of_cell? w _ hx137_0)).trans hx137_0; replace p137 := eq_true p137; replace q137 := eq_true q137; have p42 : 0 ≤ ((ji26) : Int) := of_decide_eq_true (by first | (with_reducible assumption) | assumption); have q42 : ((ji26) : Int) < ((y130.length : Int) : Int) := of_decide_eq_true (by first | (with_reducible assumption) | assumption); obtain ⟨hx42_0, hf42_0⟩ := Kd.R_celln 0 HO132.out ((ji26) : Int) p42 q42; replace p42 := eq_true p42; replace q42 := eq_true q42; obtain ⟨hy54_, hz54_⟩ := Kd.R_celln 0 HO132.out ((ji26) : Int) (of_decide_eq_true (by first | (with_reducible assumption) | assumption)) (of_decide_eq_true (by first | (with_reducible assumption) | assumption)); have HP54 := Kd.R_putg HO132.out ((ji26) : Int) (rd l0 (ji29))) | ((with_reducible refine gate_store (t := 5) (p := 81) rfl ?_); refine store_event (t := 5) (p := 81) (v := ?vo_w55) (w1 := (w53.setCell ⟨go32, ((ji26) : Int).toNat, none⟩ (.int .u8 (rd l0 (ji29))))) ?hg ?ho ?hn ?hr ?_; (case ho => rfl); (case hg => rfl); (case hn => rfl); (case hr => first | (go_simp; done) | (go_simp; rfl)); intro w55 hw; have hg : w53.grownBy w55 (some go32) := (by rw [hw]; exact HP54.2); have hp_ : Kd.R (Kd.int .u8) 5 w55 w.heap.size (fun _ => True) (.slice (some ⟨go32, 0, none⟩) y130.length co32) y138 := (by rw [hw, Ny138.out]; exact HP54.1); clear HP54; have n0_ := Aside0.mk (hp_); have n1_ := Aside0.mk ((by rw [hw]; exact below_set (HB.out) GB32.out : Below w.heap.size w w55)); clear HO132; clear HB; have HO132 := n0_; have HB := n1_; clear n0_ n1_; clear hg hw hp_; have p139 : 0 ≤ ((ji36) : Int) := of_decide_eq_true (by first | (with_reducible assumption) | assumption); have q139 : (ji36) < (l0.length : Int) := of_decide_eq_true (by first | (with_reducible assumption) | assumption); obtain ⟨ad139, e139, hx139_0⟩ := Kd.at_int HR0.out (ji36) p139 q139; obtain rfl : ad133 = ad139 := (by injection e139); replace hx139_0 := (HB.out.cell (World.block_lt_of_cell? w _ hx139_0)).trans hx139_0; replace p139 := eq_true p139; replace q139 := eq_true q139; have p45 : 0 ≤ ((ji33) : Int) := of_decide_eq_true (by first | (with_reducible assumption) | assumption); have q45 : ((ji33) : Int) < ((y130.length : Int) : Int) := of_decide_eq_true (by first | (with_reducible assumption) | assumption); obtain ⟨hx45_0, hf45_0⟩ := Kd.R_celln 0 HO132.out ((ji33) : Int) p45 q45; replace p45 := eq_true p45; replace q45 := eq_true q45; obtain ⟨hy56_, hz56_⟩ := Kd.R_celln 0 HO132.out ((ji33) : Int) (of_decide_eq_true (by first | (with_reducible assumption) | assumption)) (of_decide_eq_true (by first | (with_reducible assumption) | assumption)); have HP56 := Kd.R_putg HO132.out ((ji33) : Int) (rd l0 (ji36))) | ((with_reducible refine gate_store (t := 5) (p := 92) rfl ?_); refine store_event (t := 5) (p := 92) (v := ?vo_w57) (w1 := (w55.setCell ⟨go32, ((ji33) : Int).toNat, none⟩ (.int .u8 (rd l0 (ji36))))) ?hg ?ho ?hn ?hr ?_; (case ho => rfl); (case hg => rfl); (case hn => rfl); (case hr => first | (go_simp; done) | (go_simp; rfl)); intro w57 hw; have hg : w55.grownBy w57 (some go32) := (by rw [hw]; exact HP56.2); have hp_ : Kd.R (Kd.int .u8) 5 w57 w.heap.size (fun _ => True) (.slice (some ⟨go32, 0, none⟩) y130.length co32) y140 := (by rw [hw, Ny140.out]; exact HP56.1); clear HP56; have n0_ := Aside0.mk (hp_); have n1_ := Aside0.mk ((by rw [hw]; exact below_set (HB.out) GB32.out : Below w.heap.size w w57)); clear HO132; clear HB; have HO132 := n0_; have HB := n1_; clear n0_ n1_; clear hg hw hp_) | (go_at_call 17; refine calls_of_args (args' := #[.slice (some ⟨go32, 0, none⟩) y140.length co32]) (by first | (rw [show y140.length = y130.length from (Kd.R_reads' HO132.out).1.symm] <;> rfl) | rfl) ?_; (with_reducible refine (num_Sum.calls kj14 _ _ y140 t141 _ ?side1 ?side2 A47.out).mono ?_); (case side1 => repeat (first | exact (Kd.R_reads' HO132.out).2.2 | (with_reducible refine Kd.C_alloc ?_ _) | (with_reducible refine Kd.C_drewN ?_ _) | (with_reducible refine Kd.C_drew ?_))); (case side2 => rw [show y140.length = y130.length from (Kd.R_reads' HO132.out).1.symm]; exact (Kd.R_reads' HO132.out).2.1); rintro e w' ⟨rfl, ⟨nd, rfl⟩⟩) | (go_at_call 17; (with_reducible refine (num_Sum.calls kj14 _ _ l0 t142 _ ?side1 ?side2 A48.out).mono ?_); (case side1 => repeat (first | exact (Kd.C_below HR0.out (by repeat (first | (with_reducible first | exact HB.out | apply below_alloc | apply pw_below_drewN | apply below_drew1) | exact HB.out))) | (with_reducible refine Kd.C_alloc ?_ _) | (with_reducible refine Kd.C_drewN ?_ _) | (with_reducible refine Kd.C_drew ?_))); (case side2 => exact HC0.out); rintro e w' ⟨rfl, ⟨nd, rfl⟩⟩))
                                                go_ret
                                                exact ⟨by first | rfl | (simp [errW_none, errW_some] <;> rfl) | (simp only [← hji26, ← hji29, ← hji33, ← hji36]; first | rfl | (simp [errW_none, errW_some] <;> rfl)) | (simp [*, errW_none, errW_some] <;> rfl), by repeat (first | (with_reducible first | exact HB.out | apply below_alloc | apply pw_below_drewN | apply below_drew1) | exact HB.out)⟩
                                              · replace c46 := Bool.eq_false_iff.mpr c46
                                                subst c46
                                                have H1 : (some false) = some r := by rw [if_neg (show ¬ (false = true) by decide)] at H; exact H
                                                clear H
                                                have H := H1
                                                clear H1
                                                obtain rfl := Option.some.inj H
                                                go_wp2_with (first | ((with_reducible refine gate_builtin (b := .append) (xs := #[.const (.slice none 0 0), .tmp 51]) rfl ?_); (try (refine gate_guard (by rfl) ?_; dsimp only)); at_builtin; refine Kd.R_append_rows (Kd.int .u8) (w0 := w) w.heap.size rfl (.const (.slice none 0 0)) (.tmp 51) 27 5 (.int .u8 0) 1 rfl Try.underlying27 info5 rfl (by decide) (by omega) (.slice none 0 0) ([] : List Int) l0 _ _ _ (fun _ => True) (fun _ => False) rfl rfl ?aO ?aR (fun _ _ h => h) (fun _ h => h.elim) ?aF ?aB ?aS ?aL ?_; (case aR => repeat (first | exact (Kd.C_below HR0.out HB.out) | (with_reducible refine Kd.C_alloc ?_ _) | (with_reducible refine Kd.C_drewN ?_ _) | (with_reducible refine Kd.C_drew ?_))); (case aB => exact (by repeat (first | (with_reducible first | exact HB.out | apply below_alloc | apply pw_below_drewN | apply below_drew1) | exact HB.out))); (case aF => exact (fun _ _ => trivial)); (case aO => exact ((Kd.R_nil _ _ _ _ (fun _ => True)))); (case aS => exact (below_size (by repeat (first | (with_reducible first | exact HB.out | apply below_alloc | apply pw_below_drewN | apply below_drew1) | exact HB.out)))); (case aL => have := LMc25.out; omega); intro v131 w58 ho hb hg hat; rw [← Ny130.out] at ho; have n0_ := Aside0.mk (hb); have n1_ := Aside0.mk (ho); clear HB; have HB := n0_; have HO132 := n1_; clear n0_ n1_; clear ho hb hg hat; have p133 : 0 ≤ ((ji26) : Int) := of_decide_eq_true (by first | (with_reducible assumption) | assumption); have q133 : (ji26) < (l0.length : Int) := of_decide_eq_true (by first | (with_reducible assumption) | assumption); obtain ⟨ad133, e133, hx133_0⟩ := Kd.at_int HR0.out (ji26) p133 q133; cases e133; replace hx133_0 := (HB.out.cell (World.block_lt_of_cell? w _ hx133_0)).trans hx133_0; replace p133 := eq_true p133; replace q133 := eq_true q133; have p32 : 0 ≤ ((ji29) : Int) := of_decide_eq_true (by first | (with_reducible assumption) | assumption); have q32 : ((ji29) : Int) < ((y130.length : Int) : Int) := of_decide_eq_true (by first | (with_reducible assumption) | assumption); obtain ⟨go32, co32, eo32, gb32, gl32, cl32, HG32⟩ := Kd.R_form HO132.out (by omega); (first | cases eo32 | (injection eo32 with ea_ en_ ec_; (first | subst ea_ | (injection ea_ with ea_; subst ea_)); subst ec_; clear en_)); have GB32 := Aside0.mk gb32; have GG32 := Aside0.mk HG32; clear gb32 gl32 HG32; obtain ⟨hx32_0, hf32_0⟩ := Kd.R_celln 0 HO132.out ((ji29) : Int) p32 q32; replace p32 := eq_true p32; replace q32 := eq_true q32; obtain ⟨hy59_, hz59_⟩ := Kd.R_celln 0 HO132.out ((ji29) : Int) (of_decide_eq_true (by first | (with_reducible assumption) | assumption)) (of_decide_eq_true (by first | (with_reducible assumption) | assumption)); have HP59 := Kd.R_putg HO132.out ((ji29) : Int) (rd l0 (ji26))) | ((with_reducible refine gate_store (t := 5) (p := 61) rfl ?_); refine store_event (t := 5) (p := 61) (v := ?vo_w60) (w1 := (w58.setCell ⟨go32, ((ji29) : Int).toNat, none⟩ (.int .u8 (rd l0 (ji26))))) ?hg ?ho ?hn ?hr ?_; (case ho => rfl); (case hg => rfl); (case hn => rfl); (case hr => first | (go_simp; done) | (go_simp; rfl)); intro w60 hw; have hg : w58.grownBy w60 (some go32) := (by rw [hw]; exact HP59.2); have hp_ : Kd.R (Kd.int .u8) 5 w60 w.heap.size (fun _ => True) (.slice (some ⟨go32, 0, none⟩) y130.length co32) y134 := (by rw [hw, Ny134.out]; exact HP59.1); clear HP59; have n0_ := Aside0.mk (hp_); have n1_ := Aside0.mk ((by rw [hw]; exact below_set (HB.out) GB32.out : Below w.heap.size w w60)); clear HO132; clear HB; have HO132 := n0_; have HB := n1_; clear n0_ n1_; clear hg hw hp_; have p135 : 0 ≤ ((ji33) : Int) := of_decide_eq_true (by first | (with_reducible assumption) | assumption); have q135 : (ji33) < (l0.length : Int) := of_decide_eq_true (by first | (with_reducible assumption) | assumption); obtain ⟨ad135, e135, hx135_0⟩ := Kd.at_int HR0.out (ji33) p135 q135; obtain rfl : ad133 = ad135 := (by injection e135); replace hx135_0 := (HB.out.cell (World.block_lt_of_cell? w _ hx135_0)).trans hx135_0; replace p135 := eq_true p135; replace q135 := eq_true q135; have p39 : 0 ≤ ((ji36) : Int) := of_decide_eq_true (by first | (with_reducible assumption) | assumption); have q39 : ((ji36) : Int) < ((y130.length : Int) : Int) := of_decide_eq_true (by first | (with_reducible assumption) | assumption); obtain ⟨hx39_0, hf39_0⟩ := Kd.R_celln 0 HO132.out ((ji36) : Int) p39 q39; replace p39 := eq_true p39; replace q39 := eq_true q39; obtain ⟨hy61_, hz61_⟩ := Kd.R_celln 0 HO132.out ((ji36) : Int) (of_decide_eq_true (by first | (with_reducible assumption) | assumption)) (of_decide_eq_true (by first | (with_reducible assumption) | assumption)); have HP61 := Kd.R_putg HO132.out ((ji36) : Int) (rd l0 (ji33))) | ((with_reducible refine gate_store (t := 5) (p := 72) rfl ?_); refine store_event (t := 5) (p := 72) (v := ?vo_w62) (w1 := (w60.setCell ⟨go32, ((ji36) : Int).toNat, none⟩ (.int .u8 (rd l0 (ji33))))) ?hg ?ho ?hn ?hr ?_; (case ho => rfl); (case hg => rfl); (case hn => rfl); (case hr => first | (go_simp; done) | (go_simp; rfl)); intro w62 hw; have hg : w60.grownBy w62 (some go32) := (by rw [hw]; exact HP61.2); have hp_ : Kd.R (Kd.int .u8) 5 w62 w.heap.size (fun _ => True) (.slice (some ⟨go32, 0, none⟩) y130.length co32) y136 := (by rw [hw, Ny136.out]; exact HP61.1); clear HP61; have n0_ := Aside0.mk (hp_); have n1_ := Aside0.mk ((by rw [hw]; exact below_set (HB.out) GB32.out : Below w.heap.size w w62)); clear HO132; clear HB; have HO132 := n0_; have HB := n1_; clear n0_ n1_; clear hg hw hp_; have p137 : 0 ≤ ((ji29) : Int) := of_decide_eq_true (by first | (with_reducible assumption) | assumption); have q137 : (ji29) < (l0.length : Int) := of_decide_eq_true (by first | (with_reducible assumption) | assumption); obtain ⟨ad137, e137, hx137_0⟩ := Kd.at_int HR0.out (ji29) p137 q137; obtain rfl : ad133 = ad137 := (by injection e137); replace hx137_0 := (HB.out.cell (World.block_lt_of_cell? w _ hx137_0)).trans hx137_0; replace p137 := eq_true p137; replace q137 := eq_true q137; have p42 : 0 ≤ ((ji26) : Int) := of_decide_eq_true (by first | (with_reducible assumption) | assumption); have q42 : ((ji26) : Int) < ((y130.length : Int) : Int) := of_decide_eq_true (by first | (with_reducible assumption) | assumption); obtain ⟨hx42_0, hf42_0⟩ := Kd.R_celln 0 HO132.out ((ji26) : Int) p42 q42; replace p42 := eq_true p42; replace q42 := eq_true q42; obtain ⟨hy63_, hz63_⟩ := Kd.R_celln 0 HO132.out ((ji26) : Int) (of_decide_eq_true (by first | (with_reducible assumption) | assumption)) (of_decide_eq_true (by first | (with_reducible assumption) | assumption)); have HP63 := Kd.R_putg HO132.out ((ji26) : Int) (rd l0 (ji29))) | ((with_reducible refine gate_store (t := 5) (p := 81) rfl ?_); refine store_event (t := 5) (p := 81) (v := ?vo_w64) (w1 := (w62.setCell ⟨go32, ((ji26) : Int).toNat, none⟩ (.int .u8 (rd l0 (ji29))))) ?hg ?ho ?hn ?hr ?_; (case ho => rfl); (case hg => rfl); (case hn => rfl); (case hr => first | (go_simp; done) | (go_simp; rfl)); intro w64 hw; have hg : w62.grownBy w64 (some go32) := (by rw [hw]; exact HP63.2); have hp_ : Kd.R (Kd.int .u8) 5 w64 w.heap.size (fun _ => True) (.slice (some ⟨go32, 0, none⟩) y130.length co32) y138 := (by rw [hw, Ny138.out]; exact HP63.1); clear HP63; have n0_ := Aside0.mk (hp_); have n1_ := Aside0.mk ((by rw [hw]; exact below_set (HB.out) GB32.out : Below w.heap.size w w64)); clear HO132; clear HB; have HO132 := n0_; have HB := n1_; clear n0_ n1_; clear hg hw hp_; have p139 : 0 ≤ ((ji36) : Int) := of_decide_eq_true (by first | (with_reducible assumption) | assumption); have q139 : (ji36) < (l0.length : Int) := of_decide_eq_true (by first | (with_reducible assumption) | assumption); obtain ⟨ad139, e139, hx139_0⟩ := Kd.at_int HR0.out (ji36) p139 q139; obtain rfl : ad133 = ad139 := (by injection e139); replace hx139_0 := (HB.out.cell (World.block_lt_of_cell? w _ hx139_0)).trans hx139_0; replace p139 := eq_true p139; replace q139 := eq_true q139; have p45 : 0 ≤ ((ji33) : Int) := of_decide_eq_true (by first | (with_reducible assumption) | assumption); have q45 : ((ji33) : Int) < ((y130.length : Int) : Int) := of_decide_eq_true (by first | (with_reducible assumption) | assumption); obtain ⟨hx45_0, hf45_0⟩ := Kd.R_celln 0 HO132.out ((ji33) : Int) p45 q45; replace p45 := eq_true p45; replace q45 := eq_true q45; obtain ⟨hy65_, hz65_⟩ := Kd.R_celln 0 HO132.out ((ji33) : Int) (of_decide_eq_true (by first | (with_reducible assumption) | assumption)) (of_decide_eq_true (by first | (with_reducible assumption) | assumption)); have HP65 := Kd.R_putg HO132.out ((ji33) : Int) (rd l0 (ji36))) | ((with_reducible refine gate_store (t := 5) (p := 92) rfl ?_); refine store_event (t := 5) (p := 92) (v := ?vo_w66) (w1 := (w64.setCell ⟨go32, ((ji33) : Int).toNat, none⟩ (.int .u8 (rd l0 (ji36))))) ?hg ?ho ?hn ?hr ?_; (case ho => rfl); (case hg => rfl); (case hn => rfl); (case hr => first | (go_simp; done) | (go_simp; rfl)); intro w66 hw; have hg : w64.grownBy w66 (some go32) := (by rw [hw]; exact HP65.2); have hp_ : Kd.R (Kd.int .u8) 5 w66 w.heap.size (fun _ => True) (.slice (some ⟨go32, 0, none⟩) y130.length co32) y140 := (by rw [hw, Ny140.out]; exact HP65.1); clear HP65; have n0_ := Aside0.mk (hp_); have n1_ := Aside0.mk ((by rw [hw]; exact below_set (HB.out) GB32.out : Below w.heap.size w w66)); clear HO132; clear HB; have HO132 := n0_; have HB := n1_; clear n0_ n1_; clear hg hw hp_))
                                                go_ret
                                                exact ⟨by first | rfl | (simp [errW_none, errW_some] <;> rfl) | (simp only [← hji26, ← hji29, ← hji33, ← hji36]; first | rfl | (simp [errW_none, errW_some] <;> rfl)) | (simp [*, errW_none, errW_some] <;> rfl), by repeat (first | (with_reducible first | exact HB.out | apply below_alloc | apply pw_below_drewN | apply below_drew1) | exact HB.out)⟩
                                            · rw [if_neg c44] at H
                                              exact absurd H (by simp)
                                          · rw [if_neg c43] at H
                                            exact absurd H (by simp)
                                        · rw [if_neg c41] at H
                                          exact absurd H (by simp)
                                      · rw [if_neg c40] at H
                                        exact absurd H (by simp)
                                    · rw [if_neg c38] at H
                                      exact absurd H (by simp)
                                  · rw [if_neg c37] at H
                                    exact absurd H (by simp)
                                · rw [if_neg c35] at H
                                  exact absurd H (by simp)
                              · rw [if_neg c34] at H
                                exact absurd H (by simp)
                            · rw [if_neg c31] at H
                              exact absurd H (by simp)
                          · rw [if_neg c30] at H
                            exact absurd H (by simp)
                        · rw [if_neg c28] at H
                          exact absurd H (by simp)
                      · rw [if_neg c27] at H
                        exact absurd H (by simp)
                    · rw [if_neg c25] at H
                      exact absurd H (by simp)
            · rw [if_neg c14] at H
              have c14b0 : (t129 == 0) = false := beq_eq_false_iff_ne.mpr c14
              have c14b1 : (t129 != 0) = true := bne_iff_ne.mpr c14
              obtain rfl := Option.some.inj H
              go_wp2_with (first | ((with_reducible refine gate_builtin (b := .append) (xs := #[.const (.slice none 0 0), .tmp 21]) rfl ?_); (try (refine gate_guard (by rfl) ?_; dsimp only)); at_builtin; refine Kd.R_append_rows (Kd.int .u8) (w0 := w) w.heap.size rfl (.const (.slice none 0 0)) (.tmp 21) 27 5 (.int .u8 0) 1 rfl Try.underlying27 info5 rfl (by decide) (by omega) (.slice none 0 0) ([] : List Int) l0 _ _ _ (fun _ => True) (fun _ => False) rfl rfl ?aO ?aR (fun _ _ h => h) (fun _ h => h.elim) ?aF ?aB ?aS ?aL ?_; (case aR => repeat (first | exact (Kd.C_below HR0.out HB.out) | (with_reducible refine Kd.C_alloc ?_ _) | (with_reducible refine Kd.C_drewN ?_ _) | (with_reducible refine Kd.C_drew ?_))); (case aB => exact (by repeat (first | (with_reducible first | exact HB.out | apply below_alloc | apply pw_below_drewN | apply below_drew1) | exact HB.out))); (case aF => exact (fun _ _ => trivial)); (case aO => exact ((Kd.R_nil _ _ _ _ (fun _ => True)))); (case aS => exact (below_size (by repeat (first | (with_reducible first | exact HB.out | apply below_alloc | apply pw_below_drewN | apply below_drew1) | exact HB.out)))); (case aL => have := LMc9.out; omega); intro v120 w67 ho hb hg hat; rw [← Ny119.out] at ho; have n0_ := Aside0.mk (hb); have n1_ := Aside0.mk (ho); clear HB; have HB := n0_; have HO121 := n1_; clear n0_ n1_; clear ho hb hg hat) | ((with_reducible refine gate_callee (f := 17) rfl ?_); refine goesL_ (some 24) rfl rfl Try.func17 (by kernel_rfl) rfl #[.slice A0 l0.length c0] rfl (by (try simp only [List.map_toArray, List.map_cons, List.map_nil]); first | done | rfl | (simp only [List.length_drop, List.length_take]; rfl)) ?_; (with_reducible refine (num_Sum.calls kj4 _ _ l0 t122 _ ?side1 ?side2 A10.out).mono ?_); (case side1 => repeat (first | exact (Kd.C_below HR0.out HB.out) | (with_reducible refine Kd.C_alloc ?_ _) | (with_reducible refine Kd.C_drewN ?_ _) | (with_reducible refine Kd.C_drew ?_))); (case side2 => exact HC0.out); rintro e w' ⟨rfl, ⟨nd, rfl⟩⟩; refine ⟨_, rfl, ?_⟩) | ((with_reducible refine gate_callee (f := 19) rfl ?_); refine goesL_ (some 25) rfl rfl Try.func19 (by kernel_rfl) rfl #[.int .u16 t122] rfl (by (try simp only [List.map_toArray, List.map_cons, List.map_nil]); first | done | rfl | (simp only [List.length_drop, List.length_take]; rfl)) ?_; (with_reducible refine (num_Put16.calls kj4 t122 t123 _ A11.out).mono ?_); rintro e w68 ⟨v124, rfl, ho0, hb⟩; refine ⟨_, rfl, ?_⟩; have n0_ := Aside0.mk (Kd.R_elder' (by (with_reducible repeat (first | apply Kd.R_alloc | apply Kd.R_drewN | apply Kd.R_drew)); exact HO121.out) (Kd.R_base ho0) hb); have n1_ := Aside0.mk (Kd.R_lower (Kd.R_new' ho0 (Kd.R_lt (by (with_reducible repeat (first | apply Kd.R_alloc | apply Kd.R_drewN | apply Kd.R_drew)); exact HO121.out))) (below_size (by repeat (first | (with_reducible first | exact HB.out | apply below_alloc | apply pw_below_drewN | apply below_drew1) | exact HB.out)))); have n2_ := Aside0.mk (below_step (by repeat (first | (with_reducible first | exact HB.out | apply below_alloc | apply pw_below_drewN | apply below_drew1) | exact HB.out)) hb); clear HO121; clear HB; have HO121 := n0_; have HO125 := n1_; have HB := n2_; clear n0_ n1_ n2_; (try clear hb); (try clear hb2); (try clear hk); (try clear hi); (try clear ho0); obtain ⟨Ao70, co70, eo70⟩ := Kd.R_slice HO125.out; subst eo70) | ((with_reducible refine gate_builtin (b := .append) (xs := #[.tmp 22, .tmp 25]) rfl ?_); (try (refine gate_guard (by rfl) ?_; dsimp only)); at_builtin; refine Kd.R_append_rows (Kd.int .u8) (w0 := w) w.heap.size rfl (.tmp 22) (.tmp 25) 27 5 (.int .u8 0) 1 rfl Try.underlying27 info5 rfl (by decide) (by omega) v120 y119 t123 _ _ _ (fun k_ => some k_ ≠ (.slice Ao70 t123.length co70 : Value).ownBlock) (fun _ => False) rfl rfl ?aO ?aR (fun _ _ h => h) (fun _ h => h.elim) ?aF ?aB ?aS ?aL ?_; (case aR => repeat (first | exact (Kd.R_reads' HO125.out).2.2 | (with_reducible refine Kd.C_alloc ?_ _) | (with_reducible refine Kd.C_drewN ?_ _) | (with_reducible refine Kd.C_drew ?_))); (case aB => exact (by repeat (first | (with_reducible first | exact HB.out | apply below_alloc | apply pw_below_drewN | apply below_drew1) | exact HB.out))); (case aF => exact (fun k_ hk => Kd.fresh' (Kd.R_lt (by (with_reducible repeat (first | apply Kd.R_alloc | apply Kd.R_drewN | apply Kd.R_drew)); exact HO125.out)) k_ hk)); (case aO => exact (by (with_reducible repeat (first | apply Kd.R_alloc | apply Kd.R_drewN | apply Kd.R_drew)); exact Kd.R_mono HO121.out (fun _ hk => hk.2))); (case aS => exact (below_size (by repeat (first | (with_reducible first | exact HB.out | apply below_alloc | apply pw_below_drewN | apply below_drew1) | exact HB.out)))); (case aL => have := LMc12.out; omega); intro v127 w69 ho hb hg hat; rw [← Ny126.out] at ho; have n0_ := Aside0.mk (Kd.R_after (ok := (fun _ => True)) (by (with_reducible repeat (first | apply Kd.R_alloc | apply Kd.R_drewN | apply Kd.R_drew)); exact HO125.out) hg hat); have n1_ := Aside0.mk (hb); have n2_ := Aside0.mk (ho); clear HO125; clear HB; clear HO121; have HO125 := n0_; have HB := n1_; have HO128 := n2_; clear n0_ n1_ n2_; clear ho hb hg hat; obtain ⟨Ao71, co71, eo71⟩ := Kd.R_slice HO128.out; subst eo71) | ((with_reducible refine gate_callee (f := 17) rfl ?_); refine goesL_ (some 28) rfl rfl Try.func17 (by kernel_rfl) rfl #[.slice Ao71 y126.length co71] rfl (by (try simp only [List.map_toArray, List.map_cons, List.map_nil]); first | done | rfl | (simp only [List.length_drop, List.length_take]; rfl)) ?_; (with_reducible refine (num_Sum.calls kj4 _ _ y126 t129 _ ?side1 ?side2 A13.out).mono ?_); (case side1 => repeat (first | exact (Kd.R_reads' HO128.out).2.2 | (with_reducible refine Kd.C_alloc ?_ _) | (with_reducible refine Kd.C_drewN ?_ _) | (with_reducible refine Kd.C_drew ?_))); (case side2 => exact (Kd.R_reads' HO128.out).2.1); rintro e w' ⟨rfl, ⟨nd, rfl⟩⟩; refine ⟨_, rfl, ?_⟩))
              go_ret
              exact ⟨by first | rfl | (simp [errW_none, errW_some] <;> rfl) | (simp [*, errW_none, errW_some] <;> rfl), by repeat (first | (with_reducible first | exact HB.out | apply below_alloc | apply pw_below_drewN | apply below_drew1) | exact HB.out)⟩
          · rw [if_neg c12] at H
            exact absurd H (by simp)
        · rw [if_neg c9] at H
          exact absurd H (by simp)

/-- THE ONE PURE STATEMENT of octroilaw01_NumZero: yours. -/
def octroilaw01_NumZero.Pure : Prop := ∀ (l0 : List Int) (a1 : Int) (a2 : Int), l0.length ≤ maxLen → l0.length * 1 ≤ 140737488351232 → (∀ x ∈ l0, (Lit.int .u8 x).wf = true) → (Lit.int .i64 a1).wf = true → (Lit.int .i64 a2).wf = true → ∃ k, octroilaw01_NumZero.f k l0 a1 a2 = some true
theorem octroilaw01_NumZero.walk (P : octroilaw01_NumZero.Pure) (a0 : Option Addr) (len0 cap0 : Nat) (z0 : List Int) (a1 : Int) (a2 : Int) (w : World) (w0 : (a0 = none ∧ len0 = 0 ∧ cap0 = 0 ∧ z0 = []) ∨ ∃ x, a0 = some x ∧ len0 ≤ cap0 ∧ cap0 ≤ maxLen ∧ z0.length = cap0 ∧ (∀ i, i < z0.length → w.cell? (x.add i) = some (.int .u8 (z0.getD i 0))) ∧ ∀ n ∈ z0, (Lit.int .u8 n).wf = true) (y0 : len0 * 1 ≤ 140737488351232) (w1 : (Lit.int .i64 a1).wf = true) (w2 : (Lit.int .i64 a2).wf = true) :
    Calls Try.prog 6 #[.slice a0 len0 cap0, .int .i64 a1, .int .i64 a2] w fun e w' => e = .returned (.bool true) ∧ Below w.heap.size w w' := by
  obtain ⟨l0, rfl, hr0, hm0, hw0, hc0⟩ := ReadsInt.ofRowC w0
  obtain ⟨k, h⟩ := P l0 a1 a2 hm0 y0 hw0 w1 w2
  refine (octroilaw01_NumZero.calls k _ _ l0 a1 a2 true w (Kd.C_of_reads (d := (0 : Int)) (h1 := fun _ => rfl) hr0) hc0 h).mono ?_
  rintro e w' ⟨rfl, hd⟩
  exact ⟨rfl, hd⟩

end Go.Proofs.Ytbnadohabbmebaa.PNumZero
