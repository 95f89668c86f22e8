-- written by this session's own program, over the kit's print
import Derived.Test.YtahllmihgpaaeaaPRippktEncodesx0
import Derived.Test.YtahllmihgpaaeaaPRippktEncodesx4
import Derived.Test.YtahllmihgpaaeaaPRippktEncodesx5
namespace Go.Proofs.Ytahllmihgpaaeaa.PRippktEncodes
open Go.RowKit Go.Proofs.YtahllmihgpaaeaaW.PrintWords Go.Proofs.YtahllmihgpaaeaaW.PrintLast Go.Proofs.YtahllmihgpaaeaaW.PrintMore Go.Proofs.YtahllmihgpaaeaaW.Goto Go.Proofs.YtahllmihgpaaeaaW.More2
attribute [local go_sem] max2_int min2_int max_two min_two max_three min_three max_four min_four   -- for this text's walks alone
set_option linter.unusedVariables false
set_option linter.unusedSimpArgs false

/-! ### octroilaw05_RippktEncodes: function 3 -/
def octroilaw05_RippktEncodes.f (k : Nat) (a0_0 : Int) (a0_1 : Bool) (l0_2 : List (S41)) : Option (Bool) := (octroilaw05_awake.f k).bind fun t258 => (if (l0_2.length : Int) > 100 then (some t258) else ((rippkt_Encode.f k a0_0 a0_1 l0_2).bind fun bt259 => ((octroiref05_Encode.f k a0_0 a0_1 l0_2).bind fun bt263 => (if t258 = true then (if (strOfNums bt259.1).toList = (strOfNums bt263.1).toList then (some (bt259.2 == bt263.2)) else (some false)) else (some false)))))
theorem octroilaw05_RippktEncodes.mono : ∀ a0 a1 a2 k, LeO (octroilaw05_RippktEncodes.f k a0 a1 a2) (octroilaw05_RippktEncodes.f (k + 1) a0 a1 a2) := by
  intro a0 a1 a2 k
  unfold octroilaw05_RippktEncodes.f
  repeat' first
      | (with_reducible exact octroilaw05_awake.mono _)
      | (with_reducible exact octroiref05_Encode.mono _ _ _ _)
      | (with_reducible exact rippkt_Encode.mono _ _ _ _)
      | (with_reducible exact LeO.refl _)
      | (with_reducible exact LeO.none _)
      | (with_reducible refine LeO.ite ?_ ?_)
      | (with_reducible refine LeO.bind ?_ (fun _ => ?_))
      | exact octroilaw05_awake.mono _
      | exact octroiref05_Encode.mono _ _ _ _
      | exact rippkt_Encode.mono _ _ _ _
      | exact LeO.none _
      | refine LeO.ite ?_ ?_
      | refine LeO.bind ?_ (fun _ => ?_)
set_option maxHeartbeats 8000000 in
set_option maxRecDepth 100000 in
theorem octroilaw05_RippktEncodes.calls (k : Nat) (a0_0 : Int) (a0_1 : Bool) (A0_2 : Option Addr) (c0_2 : Nat) (l0_2 : List (S41)) (r : Bool) (w : World) (hr0_2 : Kd.C k41 w A0_2 l0_2.length l0_2) (hc0_2 : l0_2.length ≤ c0_2) (hr_ : Aside0 (r = true)) (h : octroilaw05_RippktEncodes.f k a0_0 a0_1 l0_2 = some r) :
    Calls Try.prog 3 #[.agg #[.int .i64 a0_0, .bool a0_1, .slice A0_2 l0_2.length c0_2]] w fun e w' => e = .returned (.bool r) ∧ Below w.heap.size w w' := by
  have hu24 := Try.underlying24
  have HR0_2 := Aside0.mk hr0_2
  have HC0_2 := Aside0.mk hc0_2
  clear hr0_2 hc0_2
  have HB := Aside0.mk (Below.refl w.heap.size w)
  have H : ((octroilaw05_awake.f k).bind fun t258 => (if (l0_2.length : Int) > 100 then (some t258) else ((rippkt_Encode.f k a0_0 a0_1 l0_2).bind fun bt259 => ((octroiref05_Encode.f k a0_0 a0_1 l0_2).bind fun bt263 => (if t258 = true then (if (strOfNums bt259.1).toList = (strOfNums bt263.1).toList then (some (bt259.2 == bt263.2)) else (some false)) else (some false)))))) = some r := h
  clear h
  replace H := Option.bind_eq_some_iff.mp H
  obtain ⟨t258, A20, H⟩ := H
  replace H : (if (l0_2.length : Int) > 100 then (some t258) else ((rippkt_Encode.f k a0_0 a0_1 l0_2).bind fun bt259 => ((octroiref05_Encode.f k a0_0 a0_1 l0_2).bind fun bt263 => (if t258 = true then (if (strOfNums bt259.1).toList = (strOfNums bt263.1).toList then (some (bt259.2 == bt263.2)) else (some false)) else (some false))))) = some r := H
  have A2 := Aside0.mk A20
  clear A20
  by_cases c3 : (l0_2.length : Int) > 100
  · rw [if_pos c3] at H
    have c3b0 : decide (100 < (l0_2.length : Int)) = true := decide_eq_true c3
    have c3b1 : decide (100 < l0_2.length) = true := decide_eq_true (by omega)
    clear c3
    obtain rfl := Option.some.inj H
    go_enter Try.func3, Try.ntmps3
    go_wp2_with (first | ((with_reducible refine gate_dst (N := 1) rfl ?_); refine box_event ?hg (N := 1) ?hd (cs := #[.int .i64 a0_0, .bool a0_1, .slice A0_2 l0_2.length c0_2]) (t := 24) ?hr ?_; (case hd => rfl); (case hg => rfl); (case hr => first | (go_simp; done) | (go_simp; rfl)); intro gb257 hg w4 hbox hb; have n0_ := Aside0.mk (below_step (by repeat (first | (with_reducible first | exact HB.out | apply below_alloc | apply pw_below_drewN | apply below_drew1) | exact HB.out)) hb); have n1_ := Aside0.mk (hbox); have n2_ := Aside0.mk ((by rw [hg]; exact (below_size (by repeat (first | (with_reducible first | exact HB.out | apply below_alloc | apply pw_below_drewN | apply below_drew1) | exact HB.out))) : w.heap.size ≤ gb257)); have n3_ := Aside0.mk ((by rw [hg]; exact (below_size (by repeat (first | (with_reducible first | exact HB.out | apply below_alloc | apply pw_below_drewN | apply below_drew1) | exact HB.out))) : w.heap.size ≤ gb257)); clear HB; have HB := n0_; have BK257 := n1_; have GW257 := n2_; have GE257 := n3_; clear n0_ n1_ n2_ n3_; clear hb hbox hg) | ((with_reducible refine gate_callee (f := 10) rfl ?_); refine goesL_ (some 8) rfl rfl Try.func10 (by kernel_rfl) rfl #[] rfl (by (try simp only [List.map_toArray, List.map_cons, List.map_nil]); first | done | rfl | (simp only [List.length_drop, List.length_take]; rfl)) ?_; (with_reducible refine (octroilaw05_awake.calls k  t258 _ A2.out).mono ?_); rintro e w5 ⟨rfl, hb⟩; refine ⟨_, rfl, ?_⟩; have n0_ := Aside0.mk (blk_below (g := gb257) (o := .cells #[.int .i64 a0_0, .bool a0_1, .slice A0_2 l0_2.length c0_2] 24 (0, 0)) (by (with_reducible repeat (first | refine blk_drewN ?_ _ | refine blk_drew ?_ | refine blk_alloc ?_ _)); exact BK257.out) hb); have n1_ := Aside0.mk (below_step (by repeat (first | (with_reducible first | exact HB.out | apply below_alloc | apply pw_below_drewN | apply below_drew1 | refine below_set ?_ GE257.out) | exact HB.out)) hb); clear BK257; clear HB; have BK257 := n0_; have HB := n1_; clear n0_ n1_; (try clear hb); (try clear hb2); (try clear hk); (try clear hi); have hcz6_0 : w5.cell? ⟨gb257, 0, none⟩ = some (.int .i64 a0_0) := (blk_cell BK257.out 0).trans rfl; have hcz6_1 : w5.cell? ⟨gb257, 1, none⟩ = some (.bool a0_1) := (blk_cell BK257.out 1).trans rfl; have hcz6_2 : w5.cell? ⟨gb257, 2, none⟩ = some (.slice A0_2 l0_2.length c0_2) := (blk_cell BK257.out 2).trans rfl; have hfz6_0 := blk_frozen BK257.out 0; have hfz6_1 := blk_frozen BK257.out 1; have hfz6_2 := blk_frozen BK257.out 2))
    go_ret
    exact ⟨by first | rfl | (simp [errW_none, errW_some] <;> rfl) | (simp [*, errW_none, errW_some] <;> rfl), by repeat (first | (with_reducible first | exact HB.out | apply below_alloc | apply pw_below_drewN | apply below_drew1 | refine below_set ?_ GE257.out) | exact HB.out)⟩
  · rw [if_neg c3] at H
    have c3b0 : decide (100 < (l0_2.length : Int)) = false := decide_eq_false c3
    have c3b1 : decide (100 < l0_2.length) = false := decide_eq_false (by omega)
    clear c3
    replace H := Option.bind_eq_some_iff.mp H
    obtain ⟨⟨t259, t262⟩, A70, H⟩ := H
    replace H : ((octroiref05_Encode.f k a0_0 a0_1 l0_2).bind fun bt263 => (if t258 = true then (if (strOfNums t259).toList = (strOfNums bt263.1).toList then (some (t262 == bt263.2)) else (some false)) else (some false))) = some r := H
    have A7 := Aside0.mk A70
    clear A70
    replace H := Option.bind_eq_some_iff.mp H
    obtain ⟨⟨t263, t266⟩, A80, H⟩ := H
    replace H : (if t258 = true then (if (strOfNums t259).toList = (strOfNums t263).toList then (some (t262 == t266)) else (some false)) else (some false)) = some r := H
    have A8 := Aside0.mk A80
    clear A80
    by_cases c9 : t258 = true
    · subst c9
      have H1 : (if (strOfNums t259).toList = (strOfNums t263).toList then (some (t262 == t266)) else (some false)) = some r := by rw [if_pos rfl] at H; exact H
      clear H
      have H := H1
      clear H1
      by_cases c10 : (strOfNums t259).toList = (strOfNums t263).toList
      · rw [if_pos c10] at H
        have c10b0 : ((strOfNums t259).toList == (strOfNums t263).toList) = true := beq_iff_eq.mpr c10
        have c10b1 : ((strOfNums t259).toList != (strOfNums t263).toList) = false := bne_eq_false_iff_eq.mpr c10
        clear c10
        obtain rfl := Option.some.inj H
        go_enter Try.func3, Try.ntmps3
        go_wp2_with (first | ((with_reducible refine gate_dst (N := 1) rfl ?_); refine box_event ?hg (N := 1) ?hd (cs := #[.int .i64 a0_0, .bool a0_1, .slice A0_2 l0_2.length c0_2]) (t := 24) ?hr ?_; (case hd => rfl); (case hg => rfl); (case hr => first | (go_simp; done) | (go_simp; rfl)); intro gb257 hg w11 hbox hb; have n0_ := Aside0.mk (below_step (by repeat (first | (with_reducible first | exact HB.out | apply below_alloc | apply pw_below_drewN | apply below_drew1) | exact HB.out)) hb); have n1_ := Aside0.mk (hbox); have n2_ := Aside0.mk ((by rw [hg]; exact (below_size (by repeat (first | (with_reducible first | exact HB.out | apply below_alloc | apply pw_below_drewN | apply below_drew1) | exact HB.out))) : w.heap.size ≤ gb257)); have n3_ := Aside0.mk ((by rw [hg]; exact (below_size (by repeat (first | (with_reducible first | exact HB.out | apply below_alloc | apply pw_below_drewN | apply below_drew1) | exact HB.out))) : w.heap.size ≤ gb257)); clear HB; have HB := n0_; have BK257 := n1_; have GW257 := n2_; have GE257 := n3_; clear n0_ n1_ n2_ n3_; clear hb hbox hg) | ((with_reducible refine gate_callee (f := 10) rfl ?_); refine goesL_ (some 8) rfl rfl Try.func10 (by kernel_rfl) rfl #[] rfl (by (try simp only [List.map_toArray, List.map_cons, List.map_nil]); first | done | rfl | (simp only [List.length_drop, List.length_take]; rfl)) ?_; (with_reducible refine (octroilaw05_awake.calls k  true _ A2.out).mono ?_); rintro e w12 ⟨rfl, hb⟩; refine ⟨_, rfl, ?_⟩; have n0_ := Aside0.mk (blk_below (g := gb257) (o := .cells #[.int .i64 a0_0, .bool a0_1, .slice A0_2 l0_2.length c0_2] 24 (0, 0)) (by (with_reducible repeat (first | refine blk_drewN ?_ _ | refine blk_drew ?_ | refine blk_alloc ?_ _)); exact BK257.out) hb); have n1_ := Aside0.mk (below_step (by repeat (first | (with_reducible first | exact HB.out | apply below_alloc | apply pw_below_drewN | apply below_drew1 | refine below_set ?_ GE257.out) | exact HB.out)) hb); clear BK257; clear HB; have BK257 := n0_; have HB := n1_; clear n0_ n1_; (try clear hb); (try clear hb2); (try clear hk); (try clear hi); have hcz13_0 : w12.cell? ⟨gb257, 0, none⟩ = some (.int .i64 a0_0) := (blk_cell BK257.out 0).trans rfl; have hcz13_1 : w12.cell? ⟨gb257, 1, none⟩ = some (.bool a0_1) := (blk_cell BK257.out 1).trans rfl; have hcz13_2 : w12.cell? ⟨gb257, 2, none⟩ = some (.slice A0_2 l0_2.length c0_2) := (blk_cell BK257.out 2).trans rfl; have hfz13_0 := blk_frozen BK257.out 0; have hfz13_1 := blk_frozen BK257.out 1; have hfz13_2 := blk_frozen BK257.out 2) | ((with_reducible refine gate_callee (f := 11) rfl ?_); refine goesL_ (some 16) rfl rfl Try.func11 (by kernel_rfl) rfl #[.agg #[.int .i64 a0_0, .bool a0_1, .slice A0_2 l0_2.length c0_2]] rfl (by (try simp only [List.map_toArray, List.map_cons, List.map_nil]); first | done | rfl | (simp only [List.length_drop, List.length_take]; rfl)) ?_; (with_reducible refine (rippkt_Encode.calls k a0_0 a0_1 _ _ l0_2 t259 t262 _ ?side1 ?side2 A7.out).mono ?_); (case side1 => repeat (first | exact (Kd.C_below HR0_2.out HB.out) | (with_reducible refine Kd.C_alloc ?_ _) | (with_reducible refine Kd.C_drewN ?_ _) | (with_reducible refine Kd.C_drew ?_))); (case side2 => exact HC0_2.out); rintro e w14 ⟨v260, rfl, ho0, hb⟩; refine ⟨_, rfl, ?_⟩; have n0_ := Aside0.mk (Kd.R_lower ho0 (below_size (by repeat (first | (with_reducible first | exact HB.out | apply below_alloc | apply pw_below_drewN | apply below_drew1 | refine below_set ?_ GE257.out) | exact HB.out)))); have n1_ := Aside0.mk (blk_below (g := gb257) (o := .cells #[.int .i64 a0_0, .bool a0_1, .slice A0_2 l0_2.length c0_2] 24 (0, 0)) (by (with_reducible repeat (first | refine blk_drewN ?_ _ | refine blk_drew ?_ | refine blk_alloc ?_ _)); exact BK257.out) hb); have n2_ := Aside0.mk (below_step (by repeat (first | (with_reducible first | exact HB.out | apply below_alloc | apply pw_below_drewN | apply below_drew1 | refine below_set ?_ GE257.out) | exact HB.out)) hb); clear BK257; clear HB; have HO261 := n0_; have BK257 := n1_; have HB := n2_; clear n0_ n1_ n2_; (try clear hb); (try clear hb2); (try clear hk); (try clear hi); (try clear ho0); have hcz15_0 : w14.cell? ⟨gb257, 0, none⟩ = some (.int .i64 a0_0) := (blk_cell BK257.out 0).trans rfl; have hcz15_1 : w14.cell? ⟨gb257, 1, none⟩ = some (.bool a0_1) := (blk_cell BK257.out 1).trans rfl; have hcz15_2 : w14.cell? ⟨gb257, 2, none⟩ = some (.slice A0_2 l0_2.length c0_2) := (blk_cell BK257.out 2).trans rfl; have hfz15_0 := blk_frozen BK257.out 0; have hfz15_1 := blk_frozen BK257.out 1; have hfz15_2 := blk_frozen BK257.out 2) | ((with_reducible refine gate_callee (f := 12) rfl ?_); refine goesL_ (some 21) rfl rfl Try.func12 (by kernel_rfl) rfl #[.agg #[.int .i64 a0_0, .bool a0_1, .slice A0_2 l0_2.length c0_2]] rfl (by (try simp only [List.map_toArray, List.map_cons, List.map_nil]); first | done | rfl | (simp only [List.length_drop, List.length_take]; rfl)) ?_; (with_reducible refine (octroiref05_Encode.calls k a0_0 a0_1 _ _ l0_2 t263 t266 _ ?side1 ?side2 A8.out).mono ?_); (case side1 => repeat (first | exact (Kd.C_below HR0_2.out HB.out) | (with_reducible refine Kd.C_alloc ?_ _) | (with_reducible refine Kd.C_drewN ?_ _) | (with_reducible refine Kd.C_drew ?_))); (case side2 => exact HC0_2.out); rintro e w16 ⟨v264, rfl, ho0, hb⟩; refine ⟨_, rfl, ?_⟩; have n0_ := Aside0.mk (Kd.R_elder' (by (with_reducible repeat (first | apply Kd.R_alloc | apply Kd.R_drewN | apply Kd.R_drew)); exact HO261.out) (Kd.R_base ho0) hb); have n1_ := Aside0.mk (Kd.R_lower (Kd.R_new' ho0 (Kd.R_lt (by (with_reducible repeat (first | apply Kd.R_alloc | apply Kd.R_drewN | apply Kd.R_drew)); exact HO261.out))) (below_size (by repeat (first | (with_reducible first | exact HB.out | apply below_alloc | apply pw_below_drewN | apply below_drew1 | refine below_set ?_ GE257.out) | exact HB.out)))); have n2_ := Aside0.mk (blk_below (g := gb257) (o := .cells #[.int .i64 a0_0, .bool a0_1, .slice A0_2 l0_2.length c0_2] 24 (0, 0)) (by (with_reducible repeat (first | refine blk_drewN ?_ _ | refine blk_drew ?_ | refine blk_alloc ?_ _)); exact BK257.out) hb); have n3_ := Aside0.mk (below_step (by repeat (first | (with_reducible first | exact HB.out | apply below_alloc | apply pw_below_drewN | apply below_drew1 | refine below_set ?_ GE257.out) | exact HB.out)) hb); clear HO261; clear BK257; clear HB; have HO261 := n0_; have HO265 := n1_; have BK257 := n2_; have HB := n3_; clear n0_ n1_ n2_ n3_; (try clear hb); (try clear hb2); (try clear hk); (try clear hi); (try clear ho0); have hcv17 := own_string (P := Try.prog) Try.underlying26 Try.underlying5 Try.underlying9 (Kd.own_of_R HO261.out); have hcv18 := own_string (P := Try.prog) Try.underlying26 Try.underlying5 Try.underlying9 (Kd.own_of_R HO265.out)))
        go_ret
        exact ⟨by first | rfl | (simp [errW_none, errW_some] <;> rfl) | (simp [*, errW_none, errW_some] <;> rfl), by repeat (first | (with_reducible first | exact HB.out | apply below_alloc | apply pw_below_drewN | apply below_drew1 | refine below_set ?_ GE257.out) | exact HB.out)⟩
      · rw [if_neg c10] at H
        have c10b0 : ((strOfNums t259).toList == (strOfNums t263).toList) = false := beq_eq_false_iff_ne.mpr c10
        have c10b1 : ((strOfNums t259).toList != (strOfNums t263).toList) = true := bne_iff_ne.mpr c10
        obtain rfl := Option.some.inj H
        exact absurd hr_.out (by simp)
    · replace c9 := Bool.eq_false_iff.mpr c9
      subst c9
      have H1 : (some false) = some r := by rw [if_neg (show ¬ (false = true) by decide)] at H; exact H
      clear H
      have H := H1
      clear H1
      obtain rfl := Option.some.inj H
      exact absurd hr_.out (by simp)

/-- THE ONE PURE STATEMENT of octroilaw05_RippktEncodes: yours. -/
def octroilaw05_RippktEncodes.Pure : Prop := ∀ (a0_0 : Int) (a0_1 : Bool) (l0_2 : List (S41)), (Lit.int .i64 a0_0).wf = true → l0_2.length ≤ maxLen → (∀ x ∈ l0_2, g41 x) → ∃ k, octroilaw05_RippktEncodes.f k a0_0 a0_1 l0_2 = some true

end Go.Proofs.Ytahllmihgpaaeaa.PRippktEncodes
