-- written by this session's own program, over the kit's print
import Derived.Test.YtghlhdjngihkoaaPMetricHopsx0
import Derived.Test.YtghlhdjngihkoaaPMetricHopsx2
namespace Go.Proofs.Ytghlhdjngihkoaa.PMetricHops
open Go.RowKit Go.Proofs.YtghlhdjngihkoaaW.PrintWords Go.Proofs.YtghlhdjngihkoaaW.PrintLast Go.Proofs.YtghlhdjngihkoaaW.PrintMore Go.Proofs.YtghlhdjngihkoaaW.Goto Go.Proofs.YtghlhdjngihkoaaW.Fl
attribute [local go_sem] max2_int min2_int max_two min_two max_three min_three max_four min_four   -- for this text's walks alone
set_option linter.unusedVariables false
set_option linter.unusedSimpArgs false

/-! ### metric_Cost: function 18 -/
def metric_Cost.f (a0 : Int) (a1 : Int) : Option (Int) := (num_Add.f a0 a1 65535).bind fun t123 => (some t123)
set_option maxHeartbeats 8000000 in
set_option maxRecDepth 100000 in
theorem metric_Cost.calls (a0 : Int) (a1 : Int) (r : Int) (w : World) (h : metric_Cost.f a0 a1 = some r) :
    Calls Try.prog 18 #[.int .i64 a0, .int .i64 a1] w fun e w' => e = .returned (.int .i64 r) ∧ Below w.heap.size w w' := by
  have HB := Aside0.mk (Below.refl w.heap.size w)
  have H : ((num_Add.f a0 a1 65535).bind fun t123 => (some t123)) = some r := h
  clear h
  replace H := Option.bind_eq_some_iff.mp H
  obtain ⟨t123, A30, H⟩ := H
  replace H : (some t123) = some r := H
  have A3 := Aside0.mk A30
  clear A30
  obtain rfl := Option.some.inj H
  go_enter Try.func18, Try.ntmps18
  go_wp2_with (first | ((with_reducible refine gate_callee (f := 27) rfl ?_); refine goesL_ (some 7) rfl rfl Try.func27 (by kernel_rfl) rfl #[.int .i64 a0, .int .i64 a1, .int .i64 65535] rfl (by (try simp only [List.map_toArray, List.map_cons, List.map_nil]); first | done | rfl | (simp only [List.length_drop, List.length_take]; rfl)) ?_; (with_reducible refine (num_Add.calls a0 a1 65535 t123 _ A3.out).mono ?_); rintro e w4 ⟨rfl, hb⟩; refine ⟨_, rfl, ?_⟩; have n0_ := Aside0.mk (below_step (by repeat (first | (with_reducible first | exact HB.out | apply below_alloc | apply pw_below_drewN | apply below_drew1) | exact HB.out)) hb); clear HB; have HB := n0_; clear n0_; (try clear hb); (try clear hb2); (try clear hk); (try clear hi)))
  go_ret
  exact ⟨by first | rfl | (simp [errW_none, errW_some] <;> rfl) | (simp [*, errW_none, errW_some] <;> rfl), by repeat (first | (with_reducible first | exact HB.out | apply below_alloc | apply pw_below_drewN | apply below_drew1) | exact HB.out)⟩

/-! ### octroilaw04_MetricHops: function 7 -/
def octroilaw04_MetricHops.j0 : Nat → Int → Int → Bool → Bool → Option (Bool)
  | 0, _, _, _, _ => none
  | k + 1, x0, x1, x5, x18 => if x18 = true then (some x5) else ((metric_Hops.f x0 x1).bind fun t125 => ((metric_Cost.f x0 x1).bind fun t126 => (if x5 = true then (if t125 ≤ 16 then (if t126 ≤ 65535 then ((metric_Hops.f x0 (wrap64 (x1 + 1))).bind fun t127 => (if t125 ≤ t127 then ((metric_Cost.f x0 (wrap64 (x1 + 1))).bind fun t128 => (if t126 ≤ t128 then (some (decide (t125 ≤ t126))) else (some false))) else (some false))) else (some false)) else (some false)) else (some false))))
def octroilaw04_MetricHops.f (k : Nat) (a0 : Int) (a1 : Int) : Option (Bool) := (octroilaw04_awake.f).bind fun t124 => (if a0 < 0 then (octroilaw04_MetricHops.j0 k a0 a1 t124 true) else (if a1 < 0 then (octroilaw04_MetricHops.j0 k a0 a1 t124 true) else (octroilaw04_MetricHops.j0 k a0 a1 t124 (decide (a1 > 1000000)))))
theorem octroilaw04_MetricHops.mono_l : ∀ k, (∀ y0 y1 y2 y3, LeO (octroilaw04_MetricHops.j0 k y0 y1 y2 y3) (octroilaw04_MetricHops.j0 (k + 1) y0 y1 y2 y3))
  | 0 => fun _ _ _ _ r h => by simp [octroilaw04_MetricHops.j0] at h
  | k + 1 => by
    have ih0 := octroilaw04_MetricHops.mono_l k
    · intro y0 y1 y2 y3
      unfold octroilaw04_MetricHops.j0
      repeat' first
      | (with_reducible exact ih0 _ _ _ _)
      | (with_reducible exact LeO.refl _)
      | (with_reducible exact LeO.none _)
      | (with_reducible refine LeO.ite ?_ ?_)
      | (with_reducible refine LeO.bind ?_ (fun _ => ?_))
      | exact ih0 _ _ _ _
      | exact LeO.none _
      | refine LeO.ite ?_ ?_
      | refine LeO.bind ?_ (fun _ => ?_)
theorem octroilaw04_MetricHops.mono : ∀ a0 a1 k, LeO (octroilaw04_MetricHops.f k a0 a1) (octroilaw04_MetricHops.f (k + 1) a0 a1) := by
  intro a0 a1 k
  have ih0 := octroilaw04_MetricHops.mono_l k
  unfold octroilaw04_MetricHops.f
  repeat' first
      | (with_reducible exact ih0 _ _ _ _)
      | (with_reducible exact LeO.refl _)
      | (with_reducible exact LeO.none _)
      | (with_reducible refine LeO.ite ?_ ?_)
      | (with_reducible refine LeO.bind ?_ (fun _ => ?_))
      | exact ih0 _ _ _ _
      | exact LeO.none _
      | refine LeO.ite ?_ ?_
      | refine LeO.bind ?_ (fun _ => ?_)
set_option maxHeartbeats 8000000 in
set_option maxRecDepth 100000 in
theorem octroilaw04_MetricHops.calls (k : Nat) (a0 : Int) (a1 : Int) (r : Bool) (w : World) (hr_ : Aside0 (r = true)) (h : octroilaw04_MetricHops.f k a0 a1 = some r) :
    Calls Try.prog 7 #[.int .i64 a0, .int .i64 a1] w fun e w' => e = .returned (.bool r) ∧ Below w.heap.size w w' := by
  have HB := Aside0.mk (Below.refl w.heap.size w)
  have H : ((octroilaw04_awake.f).bind fun t124 => (if a0 < 0 then (octroilaw04_MetricHops.j0 k a0 a1 t124 true) else (if a1 < 0 then (octroilaw04_MetricHops.j0 k a0 a1 t124 true) else (octroilaw04_MetricHops.j0 k a0 a1 t124 (decide (a1 > 1000000)))))) = some r := h
  clear h
  replace H := Option.bind_eq_some_iff.mp H
  obtain ⟨t124, A30, H⟩ := H
  replace H : (if a0 < 0 then (octroilaw04_MetricHops.j0 k a0 a1 t124 true) else (if a1 < 0 then (octroilaw04_MetricHops.j0 k a0 a1 t124 true) else (octroilaw04_MetricHops.j0 k a0 a1 t124 (decide (a1 > 1000000))))) = some r := H
  have A3 := Aside0.mk A30
  clear A30
  have HC4 := Aside0.mk H
  clear H
  go_enter Try.func7, Try.ntmps7
  go_upto_region 2 with (first | ((with_reducible refine gate_callee (f := 11) rfl ?_); refine goesL_ (some 8) rfl rfl Try.func11 (by kernel_rfl) rfl #[] rfl (by (try simp only [List.map_toArray, List.map_cons, List.map_nil]); first | done | rfl | (simp only [List.length_drop, List.length_take]; rfl)) ?_; (with_reducible refine (octroilaw04_awake.calls  t124 _ A3.out).mono ?_); rintro e w5 ⟨rfl, hb⟩; refine ⟨_, rfl, ?_⟩; have n0_ := Aside0.mk (below_step (by repeat (first | (with_reducible first | exact HB.out | apply below_alloc | apply pw_below_drewN | apply below_drew1) | exact HB.out)) hb); clear HB; have HB := n0_; clear n0_; (try clear hb); (try clear hb2); (try clear hk); (try clear hi)))
  (try simp only [Act.put, List.setIfInBounds_toArray, List.set_cons_zero, List.set_cons_succ])
  go_cut [18] (fun v18 wc => ∃ (kq : Nat) (x18_3 : Bool), v18 = .bool x18_3 ∧ Aside0 (octroilaw04_MetricHops.j0 kq a0 a1 t124 x18_3 = some r) ∧ Aside0 (kq ≤ k) ∧ Aside0 (Below w.heap.size w wc))
  case first =>
    have H := HC4.out
    clear HC4
    by_cases c6 : a0 < 0
    · rw [if_pos c6] at H
      have c6b0 : decide (a0 < 0) = true := decide_eq_true c6
      clear c6
      (first | rw [c6b0] | (simp only [i64_w, i32_w]; rw [c6b0]) | skip)
      have H' := Aside0.mk H
      clear H
      go_wp2
      go_meet
      case rel => exact ⟨_, (true), (by first | rfl | (simp; done) | (simp [*]; done)), H', ⟨by first | omega | exact Nat.le_refl _⟩, ⟨by repeat (first | (with_reducible first | exact HB.out | apply below_alloc | apply pw_below_drewN | apply below_drew1) | exact HB.out)⟩⟩
    · rw [if_neg c6] at H
      have c6b0 : decide (a0 < 0) = false := decide_eq_false c6
      clear c6
      (first | rw [c6b0] | (simp only [i64_w, i32_w]; rw [c6b0]) | skip)
      by_cases c7 : a1 < 0
      · rw [if_pos c7] at H
        have c7b0 : decide (a1 < 0) = true := decide_eq_true c7
        clear c7
        have H' := Aside0.mk H
        clear H
        go_wp2
        go_meet
        case rel => exact ⟨_, (true), (by first | rfl | (simp; done) | (simp [*]; done)), H', ⟨by first | omega | exact Nat.le_refl _⟩, ⟨by repeat (first | (with_reducible first | exact HB.out | apply below_alloc | apply pw_below_drewN | apply below_drew1) | exact HB.out)⟩⟩
      · rw [if_neg c7] at H
        have c7b0 : decide (a1 < 0) = false := decide_eq_false c7
        clear c7
        have H' := Aside0.mk H
        clear H
        go_wp2
        go_meet
        case rel => exact ⟨_, (decide (a1 > 1000000)), (by first | rfl | (simp; done) | (simp [*]; done)), H', ⟨by first | omega | exact Nat.le_refl _⟩, ⟨by repeat (first | (with_reducible first | exact HB.out | apply below_alloc | apply pw_below_drewN | apply below_drew1) | exact HB.out)⟩⟩
  case rest =>
    clear HC4
    try clear c1
    try clear p2
    try clear c6
    try clear c6b0
    try clear c7
    try clear c7b0
    obtain ⟨kq, x18_3, rfl, HA, HJ3, HB⟩ := hcut
    cases kq with
    | zero => exact absurd HA.out (by simp [octroilaw04_MetricHops.j0])
    | succ kj3 =>
      have H := HA.out
      clear HA
      simp only [octroilaw04_MetricHops.j0] at H
      by_cases c8 : x18_3 = true
      · subst c8
        have H1 : (some t124) = some r := by rw [if_pos rfl] at H; exact H
        clear H
        have H := H1
        clear H1
        obtain rfl := Option.some.inj H
        go_wp2
        go_ret
        exact ⟨by first | rfl | (simp [errW_none, errW_some] <;> rfl) | (simp [*, errW_none, errW_some] <;> rfl), by repeat (first | (with_reducible first | exact HB.out | apply below_alloc | apply pw_below_drewN | apply below_drew1) | exact HB.out)⟩
      · replace c8 := Bool.eq_false_iff.mpr c8
        subst c8
        have H1 : ((metric_Hops.f a0 a1).bind fun t125 => ((metric_Cost.f a0 a1).bind fun t126 => (if t124 = true then (if t125 ≤ 16 then (if t126 ≤ 65535 then ((metric_Hops.f a0 (wrap64 (a1 + 1))).bind fun t127 => (if t125 ≤ t127 then ((metric_Cost.f a0 (wrap64 (a1 + 1))).bind fun t128 => (if t126 ≤ t128 then (some (decide (t125 ≤ t126))) else (some false))) else (some false))) else (some false)) else (some false)) else (some false)))) = some r := by rw [if_neg (show ¬ (false = true) by decide)] at H; exact H
        clear H
        have H := H1
        clear H1
        replace H := Option.bind_eq_some_iff.mp H
        obtain ⟨t125, A90, H⟩ := H
        replace H : ((metric_Cost.f a0 a1).bind fun t126 => (if t124 = true then (if t125 ≤ 16 then (if t126 ≤ 65535 then ((metric_Hops.f a0 (wrap64 (a1 + 1))).bind fun t127 => (if t125 ≤ t127 then ((metric_Cost.f a0 (wrap64 (a1 + 1))).bind fun t128 => (if t126 ≤ t128 then (some (decide (t125 ≤ t126))) else (some false))) else (some false))) else (some false)) else (some false)) else (some false))) = some r := H
        have A9 := Aside0.mk A90
        clear A90
        replace H := Option.bind_eq_some_iff.mp H
        obtain ⟨t126, A100, H⟩ := H
        replace H : (if t124 = true then (if t125 ≤ 16 then (if t126 ≤ 65535 then ((metric_Hops.f a0 (wrap64 (a1 + 1))).bind fun t127 => (if t125 ≤ t127 then ((metric_Cost.f a0 (wrap64 (a1 + 1))).bind fun t128 => (if t126 ≤ t128 then (some (decide (t125 ≤ t126))) else (some false))) else (some false))) else (some false)) else (some false)) else (some false)) = some r := H
        have A10 := Aside0.mk A100
        clear A100
        by_cases c11 : t124 = true
        · subst c11
          have H1 : (if t125 ≤ 16 then (if t126 ≤ 65535 then ((metric_Hops.f a0 (wrap64 (a1 + 1))).bind fun t127 => (if t125 ≤ t127 then ((metric_Cost.f a0 (wrap64 (a1 + 1))).bind fun t128 => (if t126 ≤ t128 then (some (decide (t125 ≤ t126))) else (some false))) else (some false))) else (some false)) else (some false)) = some r := by rw [if_pos rfl] at H; exact H
          clear H
          have H := H1
          clear H1
          by_cases c12 : t125 ≤ 16
          · rw [if_pos c12] at H
            have c12b0 : decide (t125 ≤ 16) = true := decide_eq_true c12
            clear c12
            by_cases c13 : t126 ≤ 65535
            · rw [if_pos c13] at H
              have c13b0 : decide (t126 ≤ 65535) = true := decide_eq_true c13
              clear c13
              replace H := Option.bind_eq_some_iff.mp H
              obtain ⟨t127, A140, H⟩ := H
              replace H : (if t125 ≤ t127 then ((metric_Cost.f a0 (wrap64 (a1 + 1))).bind fun t128 => (if t126 ≤ t128 then (some (decide (t125 ≤ t126))) else (some false))) else (some false)) = some r := H
              have A14 := Aside0.mk A140
              clear A140
              by_cases c15 : t125 ≤ t127
              · rw [if_pos c15] at H
                have c15b0 : decide (t125 ≤ t127) = true := decide_eq_true c15
                clear c15
                replace H := Option.bind_eq_some_iff.mp H
                obtain ⟨t128, A160, H⟩ := H
                replace H : (if t126 ≤ t128 then (some (decide (t125 ≤ t126))) else (some false)) = some r := H
                have A16 := Aside0.mk A160
                clear A160
                by_cases c17 : t126 ≤ t128
                · rw [if_pos c17] at H
                  have c17b0 : decide (t126 ≤ t128) = true := decide_eq_true c17
                  clear c17
                  obtain rfl := Option.some.inj H
                  go_wp2_with (first | ((with_reducible refine gate_callee (f := 16) rfl ?_); refine goesL_ (some 22) rfl rfl Try.func16 (by kernel_rfl) rfl #[.int .i64 a0, .int .i64 a1] rfl (by (try simp only [List.map_toArray, List.map_cons, List.map_nil]); first | done | rfl | (simp only [List.length_drop, List.length_take]; rfl)) ?_; (with_reducible refine (metric_Hops.calls a0 a1 t125 _ A9.out).mono ?_); rintro e w18 ⟨rfl, hb⟩; refine ⟨_, rfl, ?_⟩; have n0_ := Aside0.mk (below_step (by repeat (first | (with_reducible first | exact HB.out | apply below_alloc | apply pw_below_drewN | apply below_drew1) | exact HB.out)) hb); clear HB; have HB := n0_; clear n0_; (try clear hb); (try clear hb2); (try clear hk); (try clear hi)) | ((with_reducible refine gate_callee (f := 18) rfl ?_); refine goesL_ (some 25) rfl rfl Try.func18 (by kernel_rfl) rfl #[.int .i64 a0, .int .i64 a1] rfl (by (try simp only [List.map_toArray, List.map_cons, List.map_nil]); first | done | rfl | (simp only [List.length_drop, List.length_take]; rfl)) ?_; (with_reducible refine (metric_Cost.calls a0 a1 t126 _ A10.out).mono ?_); rintro e w19 ⟨rfl, hb⟩; refine ⟨_, rfl, ?_⟩; have n0_ := Aside0.mk (below_step (by repeat (first | (with_reducible first | exact HB.out | apply below_alloc | apply pw_below_drewN | apply below_drew1) | exact HB.out)) hb); clear HB; have HB := n0_; clear n0_; (try clear hb); (try clear hb2); (try clear hk); (try clear hi)) | (go_at_call 16; (with_reducible refine (metric_Hops.calls a0 (wrap64 (a1 + 1)) t127 _ A14.out).mono ?_); rintro e w20 ⟨rfl, hb⟩; have n0_ := Aside0.mk (below_step (by repeat (first | (with_reducible first | exact HB.out | apply below_alloc | apply pw_below_drewN | apply below_drew1) | exact HB.out)) hb); clear HB; have HB := n0_; clear n0_; (try clear hb); (try clear hb2); (try clear hk); (try clear hi)) | (go_at_call 18; (with_reducible refine (metric_Cost.calls a0 (wrap64 (a1 + 1)) t128 _ A16.out).mono ?_); rintro e w21 ⟨rfl, hb⟩; have n0_ := Aside0.mk (below_step (by repeat (first | (with_reducible first | exact HB.out | apply below_alloc | apply pw_below_drewN | apply below_drew1) | exact HB.out)) hb); clear HB; have HB := n0_; clear n0_; (try clear hb); (try clear hb2); (try clear hk); (try clear hi)))
                  go_ret
                  exact ⟨by first | rfl | (simp [errW_none, errW_some] <;> rfl) | (simp [*, errW_none, errW_some] <;> rfl), by repeat (first | (with_reducible first | exact HB.out | apply below_alloc | apply pw_below_drewN | apply below_drew1) | exact HB.out)⟩
                · rw [if_neg c17] at H
                  have c17b0 : decide (t126 ≤ t128) = false := decide_eq_false c17
                  clear c17
                  obtain rfl := Option.some.inj H
                  exact absurd hr_.out (by simp)
              · rw [if_neg c15] at H
                have c15b0 : decide (t125 ≤ t127) = false := decide_eq_false c15
                clear c15
                obtain rfl := Option.some.inj H
                exact absurd hr_.out (by simp)
            · rw [if_neg c13] at H
              have c13b0 : decide (t126 ≤ 65535) = false := decide_eq_false c13
              clear c13
              obtain rfl := Option.some.inj H
              exact absurd hr_.out (by simp)
          · rw [if_neg c12] at H
            have c12b0 : decide (t125 ≤ 16) = false := decide_eq_false c12
            clear c12
            obtain rfl := Option.some.inj H
            exact absurd hr_.out (by simp)
        · replace c11 := Bool.eq_false_iff.mpr c11
          subst c11
          have H1 : (some false) = some r := by rw [if_neg (show ¬ (false = true) by decide)] at H; exact H
          clear H
          have H := H1
          clear H1
          obtain rfl := Option.some.inj H
          exact absurd hr_.out (by simp)

/-- THE ONE PURE STATEMENT of octroilaw04_MetricHops: yours. -/
def octroilaw04_MetricHops.Pure : Prop := ∀ (a0 : Int) (a1 : Int), (Lit.int .i64 a0).wf = true → (Lit.int .i64 a1).wf = true → ∃ k, octroilaw04_MetricHops.f k a0 a1 = some true
theorem octroilaw04_MetricHops.walk (P : octroilaw04_MetricHops.Pure) (a0 : Int) (a1 : Int) (w : World) (w0 : (Lit.int .i64 a0).wf = true) (w1 : (Lit.int .i64 a1).wf = true) :
    Calls Try.prog 7 #[.int .i64 a0, .int .i64 a1] w fun e w' => e = .returned (.bool true) ∧ Below w.heap.size w w' := by
  obtain ⟨k, h⟩ := P a0 a1 w0 w1
  refine (octroilaw04_MetricHops.calls k a0 a1 true w ⟨rfl⟩ h).mono ?_
  rintro e w' ⟨rfl, hd⟩
  exact ⟨rfl, hd⟩

end Go.Proofs.Ytghlhdjngihkoaa.PMetricHops
