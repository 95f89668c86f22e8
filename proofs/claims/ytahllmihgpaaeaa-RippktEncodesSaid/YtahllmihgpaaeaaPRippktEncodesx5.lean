-- written by this session's own program, over the kit's print
import Derived.Test.YtahllmihgpaaeaaPRippktEncodesx0
import Derived.Test.YtahllmihgpaaeaaPRippktEncodesx4
namespace Go.Proofs.Ytahllmihgpaaeaa.PRippktEncodes
open Go.RowKit Go.Proofs.YtahllmihgpaaeaaW.PrintWords Go.Proofs.YtahllmihgpaaeaaW.PrintLast Go.Proofs.YtahllmihgpaaeaaW.PrintMore Go.Proofs.YtahllmihgpaaeaaW.Goto Go.Proofs.YtahllmihgpaaeaaW.More2
attribute [local go_sem] max2_int min2_int max_two min_two max_three min_three max_four min_four   -- for this text's walks alone
set_option linter.unusedVariables false
set_option linter.unusedSimpArgs false

/-! ### octroiref02_May: function 34 -/
def octroiref02_May.f (k : Nat) (a0_0 : Int) (a0_1 : Int) : Option (Bool) := if a0_1 ≥ 0 then (if a0_1 ≤ 32 then ((octroiref02_Mask.f k a0_1).bind fun t200 => (some ((Go.bits .and .u32 a0_0 t200) == a0_0))) else (some false)) else (some false)
theorem octroiref02_May.mono : ∀ a0 a1 k, LeO (octroiref02_May.f k a0 a1) (octroiref02_May.f (k + 1) a0 a1) := by
  intro a0 a1 k
  unfold octroiref02_May.f
  repeat' first
      | (with_reducible exact octroiref02_Mask.mono _ _)
      | (with_reducible exact LeO.refl _)
      | (with_reducible exact LeO.none _)
      | (with_reducible refine LeO.ite ?_ ?_)
      | (with_reducible refine LeO.bind ?_ (fun _ => ?_))
      | exact octroiref02_Mask.mono _ _
      | exact LeO.none _
      | refine LeO.ite ?_ ?_
      | refine LeO.bind ?_ (fun _ => ?_)
set_option maxHeartbeats 8000000 in
set_option maxRecDepth 100000 in
theorem octroiref02_May.calls (k : Nat) (a0_0 : Int) (a0_1 : Int) (r : Bool) (w : World) (h : octroiref02_May.f k a0_0 a0_1 = some r) :
    Calls Try.prog 34 #[.agg #[.int .u32 a0_0, .int .i64 a0_1]] w fun e w' => e = .returned (.bool r) ∧ Below w.heap.size w w' := by
  have hu38 := Try.underlying38
  have HB := Aside0.mk (Below.refl w.heap.size w)
  have H : (if a0_1 ≥ 0 then (if a0_1 ≤ 32 then ((octroiref02_Mask.f k a0_1).bind fun t200 => (some ((Go.bits .and .u32 a0_0 t200) == a0_0))) else (some false)) else (some false)) = some r := h
  clear h
  by_cases c2 : a0_1 ≥ 0
  · rw [if_pos c2] at H
    have c2b0 : decide (0 ≤ a0_1) = true := decide_eq_true c2
    clear c2
    by_cases c3 : a0_1 ≤ 32
    · rw [if_pos c3] at H
      have c3b0 : decide (a0_1 ≤ 32) = true := decide_eq_true c3
      clear c3
      replace H := Option.bind_eq_some_iff.mp H
      obtain ⟨t200, A40, H⟩ := H
      replace H : (some ((Go.bits .and .u32 a0_0 t200) == a0_0)) = some r := H
      have A4 := Aside0.mk A40
      clear A40
      obtain rfl := Option.some.inj H
      go_enter Try.func34, Try.ntmps34
      go_wp2_with (first | ((with_reducible refine gate_dst (N := 1) rfl ?_); refine box_event ?hg (N := 1) ?hd (cs := #[.int .u32 a0_0, .int .i64 a0_1]) (t := 38) ?hr ?_; (case hd => rfl); (case hg => rfl); (case hr => first | (go_simp; done) | (go_simp; rfl)); intro gb199 hg w5 hbox hb; have n0_ := Aside0.mk (below_step (by repeat (first | (with_reducible first | exact HB.out | apply below_alloc | apply pw_below_drewN | apply below_drew1) | exact HB.out)) hb); have n1_ := Aside0.mk (hbox); have n2_ := Aside0.mk ((by rw [hg]; exact (below_size (by repeat (first | (with_reducible first | exact HB.out | apply below_alloc | apply pw_below_drewN | apply below_drew1) | exact HB.out))) : w.heap.size ≤ gb199)); have n3_ := Aside0.mk ((by rw [hg]; exact (below_size (by repeat (first | (with_reducible first | exact HB.out | apply below_alloc | apply pw_below_drewN | apply below_drew1) | exact HB.out))) : w.heap.size ≤ gb199)); clear HB; have HB := n0_; have BK199 := n1_; have GW199 := n2_; have GE199 := n3_; clear n0_ n1_ n2_ n3_; clear hb hbox hg; have hcz6_0 : w5.cell? ⟨gb199, 0, none⟩ = some (.int .u32 a0_0) := (blk_cell BK199.out 0).trans rfl; have hcz6_1 : w5.cell? ⟨gb199, 1, none⟩ = some (.int .i64 a0_1) := (blk_cell BK199.out 1).trans rfl; have hfz6_0 := blk_frozen BK199.out 0; have hfz6_1 := blk_frozen BK199.out 1) | (go_at_call 24; (with_reducible refine (octroiref02_Mask.calls k a0_1 t200 _ A4.out).mono ?_); rintro e w' ⟨rfl, ⟨nd, rfl⟩⟩; (try first | exact ⟨rfl, _, World.drewN_drewN _ _ _⟩ | exact ⟨rfl, _, Eq.trans (World.drewN_drewN _ _ _) (congrArg (World.drewN _) (Nat.add_assoc _ _ _))⟩)))
      repeat (go_quiet (first | ((with_reducible refine gate_dst (N := 1) rfl ?_); refine box_event ?hg (N := 1) ?hd (cs := #[.int .u32 a0_0, .int .i64 a0_1]) (t := 38) ?hr ?_; (case hd => rfl); (case hg => rfl); (case hr => first | (go_simp; done) | (go_simp; rfl)); intro gb199 hg w5 hbox hb; have n0_ := Aside0.mk (below_step (by repeat (first | (with_reducible first | exact HB.out | apply below_alloc | apply pw_below_drewN | apply below_drew1) | exact HB.out)) hb); have n1_ := Aside0.mk (hbox); have n2_ := Aside0.mk ((by rw [hg]; exact (below_size (by repeat (first | (with_reducible first | exact HB.out | apply below_alloc | apply pw_below_drewN | apply below_drew1) | exact HB.out))) : w.heap.size ≤ gb199)); have n3_ := Aside0.mk ((by rw [hg]; exact (below_size (by repeat (first | (with_reducible first | exact HB.out | apply below_alloc | apply pw_below_drewN | apply below_drew1) | exact HB.out))) : w.heap.size ≤ gb199)); clear HB; have HB := n0_; have BK199 := n1_; have GW199 := n2_; have GE199 := n3_; clear n0_ n1_ n2_ n3_; clear hb hbox hg; have hcz6_0 : w5.cell? ⟨gb199, 0, none⟩ = some (.int .u32 a0_0) := (blk_cell BK199.out 0).trans rfl; have hcz6_1 : w5.cell? ⟨gb199, 1, none⟩ = some (.int .i64 a0_1) := (blk_cell BK199.out 1).trans rfl; have hfz6_0 := blk_frozen BK199.out 0; have hfz6_1 := blk_frozen BK199.out 1) | (go_at_call 24; (with_reducible refine (octroiref02_Mask.calls k a0_1 t200 _ A4.out).mono ?_); rintro e w' ⟨rfl, ⟨nd, rfl⟩⟩; (try first | exact ⟨rfl, _, World.drewN_drewN _ _ _⟩ | exact ⟨rfl, _, Eq.trans (World.drewN_drewN _ _ _) (congrArg (World.drewN _) (Nat.add_assoc _ _ _))⟩))); try go_wp2_with (first | ((with_reducible refine gate_dst (N := 1) rfl ?_); refine box_event ?hg (N := 1) ?hd (cs := #[.int .u32 a0_0, .int .i64 a0_1]) (t := 38) ?hr ?_; (case hd => rfl); (case hg => rfl); (case hr => first | (go_simp; done) | (go_simp; rfl)); intro gb199 hg w5 hbox hb; have n0_ := Aside0.mk (below_step (by repeat (first | (with_reducible first | exact HB.out | apply below_alloc | apply pw_below_drewN | apply below_drew1) | exact HB.out)) hb); have n1_ := Aside0.mk (hbox); have n2_ := Aside0.mk ((by rw [hg]; exact (below_size (by repeat (first | (with_reducible first | exact HB.out | apply below_alloc | apply pw_below_drewN | apply below_drew1) | exact HB.out))) : w.heap.size ≤ gb199)); have n3_ := Aside0.mk ((by rw [hg]; exact (below_size (by repeat (first | (with_reducible first | exact HB.out | apply below_alloc | apply pw_below_drewN | apply below_drew1) | exact HB.out))) : w.heap.size ≤ gb199)); clear HB; have HB := n0_; have BK199 := n1_; have GW199 := n2_; have GE199 := n3_; clear n0_ n1_ n2_ n3_; clear hb hbox hg; have hcz6_0 : w5.cell? ⟨gb199, 0, none⟩ = some (.int .u32 a0_0) := (blk_cell BK199.out 0).trans rfl; have hcz6_1 : w5.cell? ⟨gb199, 1, none⟩ = some (.int .i64 a0_1) := (blk_cell BK199.out 1).trans rfl; have hfz6_0 := blk_frozen BK199.out 0; have hfz6_1 := blk_frozen BK199.out 1) | (go_at_call 24; (with_reducible refine (octroiref02_Mask.calls k a0_1 t200 _ A4.out).mono ?_); rintro e w' ⟨rfl, ⟨nd, rfl⟩⟩; (try first | exact ⟨rfl, _, World.drewN_drewN _ _ _⟩ | exact ⟨rfl, _, Eq.trans (World.drewN_drewN _ _ _) (congrArg (World.drewN _) (Nat.add_assoc _ _ _))⟩))))
      go_ret
      exact ⟨by first | rfl | (simp [errW_none, errW_some] <;> rfl) | (simp [*, errW_none, errW_some] <;> rfl), by repeat (first | (with_reducible first | exact HB.out | apply below_alloc | apply pw_below_drewN | apply below_drew1 | refine below_set ?_ GE199.out) | exact HB.out)⟩
    · rw [if_neg c3] at H
      have c3b0 : decide (a0_1 ≤ 32) = false := decide_eq_false c3
      clear c3
      obtain rfl := Option.some.inj H
      go_enter Try.func34, Try.ntmps34
      go_wp2_with (first | ((with_reducible refine gate_dst (N := 1) rfl ?_); refine box_event ?hg (N := 1) ?hd (cs := #[.int .u32 a0_0, .int .i64 a0_1]) (t := 38) ?hr ?_; (case hd => rfl); (case hg => rfl); (case hr => first | (go_simp; done) | (go_simp; rfl)); intro gb199 hg w7 hbox hb; have n0_ := Aside0.mk (below_step (by repeat (first | (with_reducible first | exact HB.out | apply below_alloc | apply pw_below_drewN | apply below_drew1) | exact HB.out)) hb); have n1_ := Aside0.mk (hbox); have n2_ := Aside0.mk ((by rw [hg]; exact (below_size (by repeat (first | (with_reducible first | exact HB.out | apply below_alloc | apply pw_below_drewN | apply below_drew1) | exact HB.out))) : w.heap.size ≤ gb199)); have n3_ := Aside0.mk ((by rw [hg]; exact (below_size (by repeat (first | (with_reducible first | exact HB.out | apply below_alloc | apply pw_below_drewN | apply below_drew1) | exact HB.out))) : w.heap.size ≤ gb199)); clear HB; have HB := n0_; have BK199 := n1_; have GW199 := n2_; have GE199 := n3_; clear n0_ n1_ n2_ n3_; clear hb hbox hg; have hcz8_0 : w7.cell? ⟨gb199, 0, none⟩ = some (.int .u32 a0_0) := (blk_cell BK199.out 0).trans rfl; have hcz8_1 : w7.cell? ⟨gb199, 1, none⟩ = some (.int .i64 a0_1) := (blk_cell BK199.out 1).trans rfl; have hfz8_0 := blk_frozen BK199.out 0; have hfz8_1 := blk_frozen BK199.out 1))
      repeat (go_quiet (first | ((with_reducible refine gate_dst (N := 1) rfl ?_); refine box_event ?hg (N := 1) ?hd (cs := #[.int .u32 a0_0, .int .i64 a0_1]) (t := 38) ?hr ?_; (case hd => rfl); (case hg => rfl); (case hr => first | (go_simp; done) | (go_simp; rfl)); intro gb199 hg w7 hbox hb; have n0_ := Aside0.mk (below_step (by repeat (first | (with_reducible first | exact HB.out | apply below_alloc | apply pw_below_drewN | apply below_drew1) | exact HB.out)) hb); have n1_ := Aside0.mk (hbox); have n2_ := Aside0.mk ((by rw [hg]; exact (below_size (by repeat (first | (with_reducible first | exact HB.out | apply below_alloc | apply pw_below_drewN | apply below_drew1) | exact HB.out))) : w.heap.size ≤ gb199)); have n3_ := Aside0.mk ((by rw [hg]; exact (below_size (by repeat (first | (with_reducible first | exact HB.out | apply below_alloc | apply pw_below_drewN | apply below_drew1) | exact HB.out))) : w.heap.size ≤ gb199)); clear HB; have HB := n0_; have BK199 := n1_; have GW199 := n2_; have GE199 := n3_; clear n0_ n1_ n2_ n3_; clear hb hbox hg; have hcz8_0 : w7.cell? ⟨gb199, 0, none⟩ = some (.int .u32 a0_0) := (blk_cell BK199.out 0).trans rfl; have hcz8_1 : w7.cell? ⟨gb199, 1, none⟩ = some (.int .i64 a0_1) := (blk_cell BK199.out 1).trans rfl; have hfz8_0 := blk_frozen BK199.out 0; have hfz8_1 := blk_frozen BK199.out 1)); try go_wp2_with (first | ((with_reducible refine gate_dst (N := 1) rfl ?_); refine box_event ?hg (N := 1) ?hd (cs := #[.int .u32 a0_0, .int .i64 a0_1]) (t := 38) ?hr ?_; (case hd => rfl); (case hg => rfl); (case hr => first | (go_simp; done) | (go_simp; rfl)); intro gb199 hg w7 hbox hb; have n0_ := Aside0.mk (below_step (by repeat (first | (with_reducible first | exact HB.out | apply below_alloc | apply pw_below_drewN | apply below_drew1) | exact HB.out)) hb); have n1_ := Aside0.mk (hbox); have n2_ := Aside0.mk ((by rw [hg]; exact (below_size (by repeat (first | (with_reducible first | exact HB.out | apply below_alloc | apply pw_below_drewN | apply below_drew1) | exact HB.out))) : w.heap.size ≤ gb199)); have n3_ := Aside0.mk ((by rw [hg]; exact (below_size (by repeat (first | (with_reducible first | exact HB.out | apply below_alloc | apply pw_below_drewN | apply below_drew1) | exact HB.out))) : w.heap.size ≤ gb199)); clear HB; have HB := n0_; have BK199 := n1_; have GW199 := n2_; have GE199 := n3_; clear n0_ n1_ n2_ n3_; clear hb hbox hg; have hcz8_0 : w7.cell? ⟨gb199, 0, none⟩ = some (.int .u32 a0_0) := (blk_cell BK199.out 0).trans rfl; have hcz8_1 : w7.cell? ⟨gb199, 1, none⟩ = some (.int .i64 a0_1) := (blk_cell BK199.out 1).trans rfl; have hfz8_0 := blk_frozen BK199.out 0; have hfz8_1 := blk_frozen BK199.out 1)))
      go_ret
      exact ⟨by first | rfl | (simp [errW_none, errW_some] <;> rfl) | (simp [*, errW_none, errW_some] <;> rfl), by repeat (first | (with_reducible first | exact HB.out | apply below_alloc | apply pw_below_drewN | apply below_drew1 | refine below_set ?_ GE199.out) | exact HB.out)⟩
  · rw [if_neg c2] at H
    have c2b0 : decide (0 ≤ a0_1) = false := decide_eq_false c2
    clear c2
    obtain rfl := Option.some.inj H
    go_enter Try.func34, Try.ntmps34
    go_wp2_with (first | ((with_reducible refine gate_dst (N := 1) rfl ?_); refine box_event ?hg (N := 1) ?hd (cs := #[.int .u32 a0_0, .int .i64 a0_1]) (t := 38) ?hr ?_; (case hd => rfl); (case hg => rfl); (case hr => first | (go_simp; done) | (go_simp; rfl)); intro gb199 hg w9 hbox hb; have n0_ := Aside0.mk (below_step (by repeat (first | (with_reducible first | exact HB.out | apply below_alloc | apply pw_below_drewN | apply below_drew1) | exact HB.out)) hb); have n1_ := Aside0.mk (hbox); have n2_ := Aside0.mk ((by rw [hg]; exact (below_size (by repeat (first | (with_reducible first | exact HB.out | apply below_alloc | apply pw_below_drewN | apply below_drew1) | exact HB.out))) : w.heap.size ≤ gb199)); have n3_ := Aside0.mk ((by rw [hg]; exact (below_size (by repeat (first | (with_reducible first | exact HB.out | apply below_alloc | apply pw_below_drewN | apply below_drew1) | exact HB.out))) : w.heap.size ≤ gb199)); clear HB; have HB := n0_; have BK199 := n1_; have GW199 := n2_; have GE199 := n3_; clear n0_ n1_ n2_ n3_; clear hb hbox hg; have hcz10_0 : w9.cell? ⟨gb199, 0, none⟩ = some (.int .u32 a0_0) := (blk_cell BK199.out 0).trans rfl; have hcz10_1 : w9.cell? ⟨gb199, 1, none⟩ = some (.int .i64 a0_1) := (blk_cell BK199.out 1).trans rfl; have hfz10_0 := blk_frozen BK199.out 0; have hfz10_1 := blk_frozen BK199.out 1))
    repeat (go_quiet (first | ((with_reducible refine gate_dst (N := 1) rfl ?_); refine box_event ?hg (N := 1) ?hd (cs := #[.int .u32 a0_0, .int .i64 a0_1]) (t := 38) ?hr ?_; (case hd => rfl); (case hg => rfl); (case hr => first | (go_simp; done) | (go_simp; rfl)); intro gb199 hg w9 hbox hb; have n0_ := Aside0.mk (below_step (by repeat (first | (with_reducible first | exact HB.out | apply below_alloc | apply pw_below_drewN | apply below_drew1) | exact HB.out)) hb); have n1_ := Aside0.mk (hbox); have n2_ := Aside0.mk ((by rw [hg]; exact (below_size (by repeat (first | (with_reducible first | exact HB.out | apply below_alloc | apply pw_below_drewN | apply below_drew1) | exact HB.out))) : w.heap.size ≤ gb199)); have n3_ := Aside0.mk ((by rw [hg]; exact (below_size (by repeat (first | (with_reducible first | exact HB.out | apply below_alloc | apply pw_below_drewN | apply below_drew1) | exact HB.out))) : w.heap.size ≤ gb199)); clear HB; have HB := n0_; have BK199 := n1_; have GW199 := n2_; have GE199 := n3_; clear n0_ n1_ n2_ n3_; clear hb hbox hg; have hcz10_0 : w9.cell? ⟨gb199, 0, none⟩ = some (.int .u32 a0_0) := (blk_cell BK199.out 0).trans rfl; have hcz10_1 : w9.cell? ⟨gb199, 1, none⟩ = some (.int .i64 a0_1) := (blk_cell BK199.out 1).trans rfl; have hfz10_0 := blk_frozen BK199.out 0; have hfz10_1 := blk_frozen BK199.out 1)); try go_wp2_with (first | ((with_reducible refine gate_dst (N := 1) rfl ?_); refine box_event ?hg (N := 1) ?hd (cs := #[.int .u32 a0_0, .int .i64 a0_1]) (t := 38) ?hr ?_; (case hd => rfl); (case hg => rfl); (case hr => first | (go_simp; done) | (go_simp; rfl)); intro gb199 hg w9 hbox hb; have n0_ := Aside0.mk (below_step (by repeat (first | (with_reducible first | exact HB.out | apply below_alloc | apply pw_below_drewN | apply below_drew1) | exact HB.out)) hb); have n1_ := Aside0.mk (hbox); have n2_ := Aside0.mk ((by rw [hg]; exact (below_size (by repeat (first | (with_reducible first | exact HB.out | apply below_alloc | apply pw_below_drewN | apply below_drew1) | exact HB.out))) : w.heap.size ≤ gb199)); have n3_ := Aside0.mk ((by rw [hg]; exact (below_size (by repeat (first | (with_reducible first | exact HB.out | apply below_alloc | apply pw_below_drewN | apply below_drew1) | exact HB.out))) : w.heap.size ≤ gb199)); clear HB; have HB := n0_; have BK199 := n1_; have GW199 := n2_; have GE199 := n3_; clear n0_ n1_ n2_ n3_; clear hb hbox hg; have hcz10_0 : w9.cell? ⟨gb199, 0, none⟩ = some (.int .u32 a0_0) := (blk_cell BK199.out 0).trans rfl; have hcz10_1 : w9.cell? ⟨gb199, 1, none⟩ = some (.int .i64 a0_1) := (blk_cell BK199.out 1).trans rfl; have hfz10_0 := blk_frozen BK199.out 0; have hfz10_1 := blk_frozen BK199.out 1)))
    go_ret
    exact ⟨by first | rfl | (simp [errW_none, errW_some] <;> rfl) | (simp [*, errW_none, errW_some] <;> rfl), by repeat (first | (with_reducible first | exact HB.out | apply below_alloc | apply pw_below_drewN | apply below_drew1 | refine below_set ?_ GE199.out) | exact HB.out)⟩

/-! ### octroiref05_entry: function 22 -/
def octroiref05_entry.f (k : Nat) (a0_0 : Int) (a0_1 : Int) (a0_2 : Int) (a0_3 : Int) (a0_4 : Int) : Option (Bool) := (octroiref02_May.f k a0_0 a0_1).bind fun t202 => (if t202 = true then (if a0_4 ≥ 1 then (some (decide (a0_4 ≤ 16))) else (some false)) else (some false))
theorem octroiref05_entry.mono : ∀ a0 a1 a2 a3 a4 k, LeO (octroiref05_entry.f k a0 a1 a2 a3 a4) (octroiref05_entry.f (k + 1) a0 a1 a2 a3 a4) := by
  intro a0 a1 a2 a3 a4 k
  unfold octroiref05_entry.f
  repeat' first
      | (with_reducible exact octroiref02_May.mono _ _ _)
      | (with_reducible exact LeO.refl _)
      | (with_reducible exact LeO.none _)
      | (with_reducible refine LeO.ite ?_ ?_)
      | (with_reducible refine LeO.bind ?_ (fun _ => ?_))
      | exact octroiref02_May.mono _ _ _
      | exact LeO.none _
      | refine LeO.ite ?_ ?_
      | refine LeO.bind ?_ (fun _ => ?_)
set_option maxHeartbeats 8000000 in
set_option maxRecDepth 100000 in
theorem octroiref05_entry.calls (k : Nat) (a0_0 : Int) (a0_1 : Int) (a0_2 : Int) (a0_3 : Int) (a0_4 : Int) (r : Bool) (w : World) (h : octroiref05_entry.f k a0_0 a0_1 a0_2 a0_3 a0_4 = some r) :
    Calls Try.prog 22 #[.agg #[.int .u32 a0_0, .int .i64 a0_1, .int .u16 a0_2, .int .u32 a0_3, .int .i64 a0_4]] w fun e w' => e = .returned (.bool r) ∧ Below w.heap.size w w' := by
  have hu41 := Try.underlying41
  have hu38 := Try.underlying38
  have HB := Aside0.mk (Below.refl w.heap.size w)
  have H : ((octroiref02_May.f k a0_0 a0_1).bind fun t202 => (if t202 = true then (if a0_4 ≥ 1 then (some (decide (a0_4 ≤ 16))) else (some false)) else (some false))) = some r := h
  clear h
  replace H := Option.bind_eq_some_iff.mp H
  obtain ⟨t202, A20, H⟩ := H
  replace H : (if t202 = true then (if a0_4 ≥ 1 then (some (decide (a0_4 ≤ 16))) else (some false)) else (some false)) = some r := H
  have A2 := Aside0.mk A20
  clear A20
  by_cases c3 : t202 = true
  · subst c3
    have H1 : (if a0_4 ≥ 1 then (some (decide (a0_4 ≤ 16))) else (some false)) = some r := by rw [if_pos rfl] at H; exact H
    clear H
    have H := H1
    clear H1
    by_cases c4 : a0_4 ≥ 1
    · rw [if_pos c4] at H
      have c4b0 : decide (1 ≤ a0_4) = true := decide_eq_true c4
      clear c4
      obtain rfl := Option.some.inj H
      go_enter Try.func22, Try.ntmps22
      go_wp2_with (first | ((with_reducible refine gate_dst (N := 1) rfl ?_); refine box_event ?hg (N := 1) ?hd (cs := #[.int .u32 a0_0, .int .i64 a0_1, .int .u16 a0_2, .int .u32 a0_3, .int .i64 a0_4]) (t := 41) ?hr ?_; (case hd => rfl); (case hg => rfl); (case hr => first | (go_simp; done) | (go_simp; rfl)); intro gb201 hg w5 hbox hb; have n0_ := Aside0.mk (below_step (by repeat (first | (with_reducible first | exact HB.out | apply below_alloc | apply pw_below_drewN | apply below_drew1) | exact HB.out)) hb); have n1_ := Aside0.mk (hbox); have n2_ := Aside0.mk ((by rw [hg]; exact (below_size (by repeat (first | (with_reducible first | exact HB.out | apply below_alloc | apply pw_below_drewN | apply below_drew1) | exact HB.out))) : w.heap.size ≤ gb201)); have n3_ := Aside0.mk ((by rw [hg]; exact (below_size (by repeat (first | (with_reducible first | exact HB.out | apply below_alloc | apply pw_below_drewN | apply below_drew1) | exact HB.out))) : w.heap.size ≤ gb201)); clear HB; have HB := n0_; have BK201 := n1_; have GW201 := n2_; have GE201 := n3_; clear n0_ n1_ n2_ n3_; clear hb hbox hg; have hcz6_0 : w5.cell? ⟨gb201, 0, none⟩ = some (.int .u32 a0_0) := (blk_cell BK201.out 0).trans rfl; have hcz6_1 : w5.cell? ⟨gb201, 1, none⟩ = some (.int .i64 a0_1) := (blk_cell BK201.out 1).trans rfl; have hcz6_2 : w5.cell? ⟨gb201, 2, none⟩ = some (.int .u16 a0_2) := (blk_cell BK201.out 2).trans rfl; have hcz6_3 : w5.cell? ⟨gb201, 3, none⟩ = some (.int .u32 a0_3) := (blk_cell BK201.out 3).trans rfl; have hcz6_4 : w5.cell? ⟨gb201, 4, none⟩ = some (.int .i64 a0_4) := (blk_cell BK201.out 4).trans rfl; have hfz6_0 := blk_frozen BK201.out 0; have hfz6_1 := blk_frozen BK201.out 1; have hfz6_2 := blk_frozen BK201.out 2; have hfz6_3 := blk_frozen BK201.out 3; have hfz6_4 := blk_frozen BK201.out 4) | ((with_reducible refine gate_callee (f := 34) rfl ?_); refine goesL_ (some 6) rfl rfl Try.func34 (by kernel_rfl) rfl #[.agg #[.int .u32 a0_0, .int .i64 a0_1]] rfl (by (try simp only [List.map_toArray, List.map_cons, List.map_nil]); first | done | rfl | (simp only [List.length_drop, List.length_take]; rfl)) ?_; (with_reducible refine (octroiref02_May.calls k a0_0 a0_1 true _ A2.out).mono ?_); rintro e w7 ⟨rfl, hb⟩; refine ⟨_, rfl, ?_⟩; have n0_ := Aside0.mk (blk_below (g := gb201) (o := .cells #[.int .u32 a0_0, .int .i64 a0_1, .int .u16 a0_2, .int .u32 a0_3, .int .i64 a0_4] 41 (0, 0)) (by (with_reducible repeat (first | refine blk_drewN ?_ _ | refine blk_drew ?_ | refine blk_alloc ?_ _)); exact BK201.out) hb); have n1_ := Aside0.mk (below_step (by repeat (first | (with_reducible first | exact HB.out | apply below_alloc | apply pw_below_drewN | apply below_drew1 | refine below_set ?_ GE201.out) | exact HB.out)) hb); clear BK201; clear HB; have BK201 := n0_; have HB := n1_; clear n0_ n1_; (try clear hb); (try clear hb2); (try clear hk); (try clear hi); have hcz8_0 : w7.cell? ⟨gb201, 0, none⟩ = some (.int .u32 a0_0) := (blk_cell BK201.out 0).trans rfl; have hcz8_1 : w7.cell? ⟨gb201, 1, none⟩ = some (.int .i64 a0_1) := (blk_cell BK201.out 1).trans rfl; have hcz8_2 : w7.cell? ⟨gb201, 2, none⟩ = some (.int .u16 a0_2) := (blk_cell BK201.out 2).trans rfl; have hcz8_3 : w7.cell? ⟨gb201, 3, none⟩ = some (.int .u32 a0_3) := (blk_cell BK201.out 3).trans rfl; have hcz8_4 : w7.cell? ⟨gb201, 4, none⟩ = some (.int .i64 a0_4) := (blk_cell BK201.out 4).trans rfl; have hfz8_0 := blk_frozen BK201.out 0; have hfz8_1 := blk_frozen BK201.out 1; have hfz8_2 := blk_frozen BK201.out 2; have hfz8_3 := blk_frozen BK201.out 3; have hfz8_4 := blk_frozen BK201.out 4))
      go_ret
      exact ⟨by first | rfl | (simp [errW_none, errW_some] <;> rfl) | (simp [*, errW_none, errW_some] <;> rfl), by repeat (first | (with_reducible first | exact HB.out | apply below_alloc | apply pw_below_drewN | apply below_drew1 | refine below_set ?_ GE201.out) | exact HB.out)⟩
    · rw [if_neg c4] at H
      have c4b0 : decide (1 ≤ a0_4) = false := decide_eq_false c4
      clear c4
      obtain rfl := Option.some.inj H
      go_enter Try.func22, Try.ntmps22
      go_wp2_with (first | ((with_reducible refine gate_dst (N := 1) rfl ?_); refine box_event ?hg (N := 1) ?hd (cs := #[.int .u32 a0_0, .int .i64 a0_1, .int .u16 a0_2, .int .u32 a0_3, .int .i64 a0_4]) (t := 41) ?hr ?_; (case hd => rfl); (case hg => rfl); (case hr => first | (go_simp; done) | (go_simp; rfl)); intro gb201 hg w9 hbox hb; have n0_ := Aside0.mk (below_step (by repeat (first | (with_reducible first | exact HB.out | apply below_alloc | apply pw_below_drewN | apply below_drew1) | exact HB.out)) hb); have n1_ := Aside0.mk (hbox); have n2_ := Aside0.mk ((by rw [hg]; exact (below_size (by repeat (first | (with_reducible first | exact HB.out | apply below_alloc | apply pw_below_drewN | apply below_drew1) | exact HB.out))) : w.heap.size ≤ gb201)); have n3_ := Aside0.mk ((by rw [hg]; exact (below_size (by repeat (first | (with_reducible first | exact HB.out | apply below_alloc | apply pw_below_drewN | apply below_drew1) | exact HB.out))) : w.heap.size ≤ gb201)); clear HB; have HB := n0_; have BK201 := n1_; have GW201 := n2_; have GE201 := n3_; clear n0_ n1_ n2_ n3_; clear hb hbox hg; have hcz10_0 : w9.cell? ⟨gb201, 0, none⟩ = some (.int .u32 a0_0) := (blk_cell BK201.out 0).trans rfl; have hcz10_1 : w9.cell? ⟨gb201, 1, none⟩ = some (.int .i64 a0_1) := (blk_cell BK201.out 1).trans rfl; have hcz10_2 : w9.cell? ⟨gb201, 2, none⟩ = some (.int .u16 a0_2) := (blk_cell BK201.out 2).trans rfl; have hcz10_3 : w9.cell? ⟨gb201, 3, none⟩ = some (.int .u32 a0_3) := (blk_cell BK201.out 3).trans rfl; have hcz10_4 : w9.cell? ⟨gb201, 4, none⟩ = some (.int .i64 a0_4) := (blk_cell BK201.out 4).trans rfl; have hfz10_0 := blk_frozen BK201.out 0; have hfz10_1 := blk_frozen BK201.out 1; have hfz10_2 := blk_frozen BK201.out 2; have hfz10_3 := blk_frozen BK201.out 3; have hfz10_4 := blk_frozen BK201.out 4) | ((with_reducible refine gate_callee (f := 34) rfl ?_); refine goesL_ (some 6) rfl rfl Try.func34 (by kernel_rfl) rfl #[.agg #[.int .u32 a0_0, .int .i64 a0_1]] rfl (by (try simp only [List.map_toArray, List.map_cons, List.map_nil]); first | done | rfl | (simp only [List.length_drop, List.length_take]; rfl)) ?_; (with_reducible refine (octroiref02_May.calls k a0_0 a0_1 true _ A2.out).mono ?_); rintro e w11 ⟨rfl, hb⟩; refine ⟨_, rfl, ?_⟩; have n0_ := Aside0.mk (blk_below (g := gb201) (o := .cells #[.int .u32 a0_0, .int .i64 a0_1, .int .u16 a0_2, .int .u32 a0_3, .int .i64 a0_4] 41 (0, 0)) (by (with_reducible repeat (first | refine blk_drewN ?_ _ | refine blk_drew ?_ | refine blk_alloc ?_ _)); exact BK201.out) hb); have n1_ := Aside0.mk (below_step (by repeat (first | (with_reducible first | exact HB.out | apply below_alloc | apply pw_below_drewN | apply below_drew1 | refine below_set ?_ GE201.out) | exact HB.out)) hb); clear BK201; clear HB; have BK201 := n0_; have HB := n1_; clear n0_ n1_; (try clear hb); (try clear hb2); (try clear hk); (try clear hi); have hcz12_0 : w11.cell? ⟨gb201, 0, none⟩ = some (.int .u32 a0_0) := (blk_cell BK201.out 0).trans rfl; have hcz12_1 : w11.cell? ⟨gb201, 1, none⟩ = some (.int .i64 a0_1) := (blk_cell BK201.out 1).trans rfl; have hcz12_2 : w11.cell? ⟨gb201, 2, none⟩ = some (.int .u16 a0_2) := (blk_cell BK201.out 2).trans rfl; have hcz12_3 : w11.cell? ⟨gb201, 3, none⟩ = some (.int .u32 a0_3) := (blk_cell BK201.out 3).trans rfl; have hcz12_4 : w11.cell? ⟨gb201, 4, none⟩ = some (.int .i64 a0_4) := (blk_cell BK201.out 4).trans rfl; have hfz12_0 := blk_frozen BK201.out 0; have hfz12_1 := blk_frozen BK201.out 1; have hfz12_2 := blk_frozen BK201.out 2; have hfz12_3 := blk_frozen BK201.out 3; have hfz12_4 := blk_frozen BK201.out 4))
      go_ret
      exact ⟨by first | rfl | (simp [errW_none, errW_some] <;> rfl) | (simp [*, errW_none, errW_some] <;> rfl), by repeat (first | (with_reducible first | exact HB.out | apply below_alloc | apply pw_below_drewN | apply below_drew1 | refine below_set ?_ GE201.out) | exact HB.out)⟩
  · replace c3 := Bool.eq_false_iff.mpr c3
    subst c3
    have H1 : (some false) = some r := by rw [if_neg (show ¬ (false = true) by decide)] at H; exact H
    clear H
    have H := H1
    clear H1
    obtain rfl := Option.some.inj H
    go_enter Try.func22, Try.ntmps22
    go_wp2_with (first | ((with_reducible refine gate_dst (N := 1) rfl ?_); refine box_event ?hg (N := 1) ?hd (cs := #[.int .u32 a0_0, .int .i64 a0_1, .int .u16 a0_2, .int .u32 a0_3, .int .i64 a0_4]) (t := 41) ?hr ?_; (case hd => rfl); (case hg => rfl); (case hr => first | (go_simp; done) | (go_simp; rfl)); intro gb201 hg w13 hbox hb; have n0_ := Aside0.mk (below_step (by repeat (first | (with_reducible first | exact HB.out | apply below_alloc | apply pw_below_drewN | apply below_drew1) | exact HB.out)) hb); have n1_ := Aside0.mk (hbox); have n2_ := Aside0.mk ((by rw [hg]; exact (below_size (by repeat (first | (with_reducible first | exact HB.out | apply below_alloc | apply pw_below_drewN | apply below_drew1) | exact HB.out))) : w.heap.size ≤ gb201)); have n3_ := Aside0.mk ((by rw [hg]; exact (below_size (by repeat (first | (with_reducible first | exact HB.out | apply below_alloc | apply pw_below_drewN | apply below_drew1) | exact HB.out))) : w.heap.size ≤ gb201)); clear HB; have HB := n0_; have BK201 := n1_; have GW201 := n2_; have GE201 := n3_; clear n0_ n1_ n2_ n3_; clear hb hbox hg; have hcz14_0 : w13.cell? ⟨gb201, 0, none⟩ = some (.int .u32 a0_0) := (blk_cell BK201.out 0).trans rfl; have hcz14_1 : w13.cell? ⟨gb201, 1, none⟩ = some (.int .i64 a0_1) := (blk_cell BK201.out 1).trans rfl; have hcz14_2 : w13.cell? ⟨gb201, 2, none⟩ = some (.int .u16 a0_2) := (blk_cell BK201.out 2).trans rfl; have hcz14_3 : w13.cell? ⟨gb201, 3, none⟩ = some (.int .u32 a0_3) := (blk_cell BK201.out 3).trans rfl; have hcz14_4 : w13.cell? ⟨gb201, 4, none⟩ = some (.int .i64 a0_4) := (blk_cell BK201.out 4).trans rfl; have hfz14_0 := blk_frozen BK201.out 0; have hfz14_1 := blk_frozen BK201.out 1; have hfz14_2 := blk_frozen BK201.out 2; have hfz14_3 := blk_frozen BK201.out 3; have hfz14_4 := blk_frozen BK201.out 4) | ((with_reducible refine gate_callee (f := 34) rfl ?_); refine goesL_ (some 6) rfl rfl Try.func34 (by kernel_rfl) rfl #[.agg #[.int .u32 a0_0, .int .i64 a0_1]] rfl (by (try simp only [List.map_toArray, List.map_cons, List.map_nil]); first | done | rfl | (simp only [List.length_drop, List.length_take]; rfl)) ?_; (with_reducible refine (octroiref02_May.calls k a0_0 a0_1 false _ A2.out).mono ?_); rintro e w15 ⟨rfl, hb⟩; refine ⟨_, rfl, ?_⟩; have n0_ := Aside0.mk (blk_below (g := gb201) (o := .cells #[.int .u32 a0_0, .int .i64 a0_1, .int .u16 a0_2, .int .u32 a0_3, .int .i64 a0_4] 41 (0, 0)) (by (with_reducible repeat (first | refine blk_drewN ?_ _ | refine blk_drew ?_ | refine blk_alloc ?_ _)); exact BK201.out) hb); have n1_ := Aside0.mk (below_step (by repeat (first | (with_reducible first | exact HB.out | apply below_alloc | apply pw_below_drewN | apply below_drew1 | refine below_set ?_ GE201.out) | exact HB.out)) hb); clear BK201; clear HB; have BK201 := n0_; have HB := n1_; clear n0_ n1_; (try clear hb); (try clear hb2); (try clear hk); (try clear hi)))
    go_ret
    exact ⟨by first | rfl | (simp [errW_none, errW_some] <;> rfl) | (simp [*, errW_none, errW_some] <;> rfl), by repeat (first | (with_reducible first | exact HB.out | apply below_alloc | apply pw_below_drewN | apply below_drew1 | refine below_set ?_ GE201.out) | exact HB.out)⟩

/-! ### octroiref01_Put: function 23 -/
def octroiref01_Put.l0 : Nat → Int → List Int → Int → Option (List Int)
  | 0, _, _, _ => none
  | k + 1, x0, x5, x6 => if x6 ≥ 0 then (if 0 ≤ x6 then (if x6 < (x5.length : Int) then (octroiref01_Put.l0 k ((Int.tdiv x0 256) % 4294967296) (x5.set (x6 : Int).toNat ((Int.tmod x0 256) % 256)) (wrap64 (x6 - 1))) else (none)) else (none)) else (some x5)
def octroiref01_Put.f (k : Nat) (a0 : Int) (a1 : Int) : Option (List Int) := if 0 ≤ a1 then (if (a1 : Int).toNat ≤ 281474976710656 then (octroiref01_Put.l0 k a0 (List.replicate (a1 : Int).toNat 0) (wrap64 (a1 - 1))) else (none)) else (none)
theorem octroiref01_Put.mono_l : ∀ k, (∀ y0 y1 y2, LeO (octroiref01_Put.l0 k y0 y1 y2) (octroiref01_Put.l0 (k + 1) y0 y1 y2))
  | 0 => fun _ _ _ r h => by simp [octroiref01_Put.l0] at h
  | k + 1 => by
    have ih0 := octroiref01_Put.mono_l k
    · intro y0 y1 y2
      unfold octroiref01_Put.l0
      repeat' first
      | (with_reducible exact ih0 _ _ _)
      | (with_reducible exact LeO.refl _)
      | (with_reducible exact LeO.none _)
      | (with_reducible refine LeO.ite ?_ ?_)
      | (with_reducible refine LeO.bind ?_ (fun _ => ?_))
      | exact ih0 _ _ _
      | exact LeO.none _
      | refine LeO.ite ?_ ?_
      | refine LeO.bind ?_ (fun _ => ?_)
theorem octroiref01_Put.mono : ∀ a0 a1 k, LeO (octroiref01_Put.f k a0 a1) (octroiref01_Put.f (k + 1) a0 a1) := by
  intro a0 a1 k
  have ih0 := octroiref01_Put.mono_l k
  unfold octroiref01_Put.f
  repeat' first
      | (with_reducible exact ih0 _ _ _)
      | (with_reducible exact LeO.refl _)
      | (with_reducible exact LeO.none _)
      | (with_reducible refine LeO.ite ?_ ?_)
      | (with_reducible refine LeO.bind ?_ (fun _ => ?_))
      | exact ih0 _ _ _
      | exact LeO.none _
      | refine LeO.ite ?_ ?_
      | refine LeO.bind ?_ (fun _ => ?_)
set_option maxHeartbeats 8000000 in
set_option maxRecDepth 100000 in
theorem octroiref01_Put.calls (k : Nat) (a0 : Int) (a1 : Int) (r : List Int) (w : World) (h : octroiref01_Put.f k a0 a1 = some r) :
    Calls Try.prog 23 #[.int .u32 a0, .int .i64 a1] w fun e w' => ∃ v0_ : Value, e = .returned (v0_) ∧ Kd.R (Kd.int .u8) 5 w' w.heap.size (fun _ => True) v0_ r ∧ Below w.heap.size w w' := by
  have HB := Aside0.mk (Below.refl w.heap.size w)
  have H : (if 0 ≤ a1 then (if (a1 : Int).toNat ≤ 281474976710656 then (octroiref01_Put.l0 k a0 (List.replicate (a1 : Int).toNat 0) (wrap64 (a1 - 1))) else (none)) else (none)) = some r := h
  clear h
  by_cases c3 : 0 ≤ a1
  · rw [if_pos c3] at H
    have c3b0 := eq_true c3
    have c3b1 : decide (0 ≤ a1) = true := decide_eq_true c3
    clear c3
    by_cases c4 : (a1 : Int).toNat ≤ 281474976710656
    · rw [if_pos c4] at H
      have c4b0 := eq_true c4
      have c4b1 : decide ((a1 : Int).toNat ≤ 281474976710656) = true := decide_eq_true c4
      clear c4
      obtain ⟨y203, hy203⟩ : ∃ y_ : List Int, y_ = (List.replicate (a1 : Int).toNat 0) := ⟨_, rfl⟩
      replace H : (octroiref01_Put.l0 k a0 y203 (wrap64 (a1 - 1))) = some r := by first | (rw [hy203]; with_reducible exact H) | (have H2_ := (Option.bind_some _ _).symm.trans H; rw [hy203]; with_reducible exact H2_) | (have H2_ := (Option.bind_some _ _).symm.trans H; with_reducible exact H2_) | with_reducible exact H | (rw [hy203]; exact H) | exact H
      have Ny203 := Aside0.mk hy203
      clear hy203
      have H' := Aside0.mk H
      clear H
      go_enter Try.func23, Try.ntmps23
      go_wp2_with (first | ((with_reducible refine gate_dst (N := 8) rfl ?_); refine Kd.R_make (Kd.int .u8) _ 5 rfl (N := 8) rfl 26 _ _ rfl a1 rfl rfl Try.underlying26 (.int .u8 0) 1 info5 rfl (by decide) (by omega) 0 (ok := fun _ => True) (okp := fun _ => True) rfl (fun _ hk => hk) trivial (of_decide_eq_true (by first | (with_reducible assumption) | assumption)) (Nat.le_trans (Nat.mul_le_mul_right _ (of_decide_eq_true (by first | (with_reducible assumption) | assumption) : a1.toNat ≤ 281474976710656)) (by omega)) (Below.refl _ _) (Nat.le_refl _) ?_; intro v204 w5 ho6 hb hg_ hnew_; clear hg_ hnew_; (first | rw [← Ny203.out] at ho6 | (simp only [Int.reduceToNat] at ho6; rw [← Ny203.out] at ho6)); have n0_ := Aside0.mk (Kd.R_lower ho6 (below_size (by repeat (first | (with_reducible first | exact HB.out | apply below_alloc | apply pw_below_drewN | apply below_drew1) | exact HB.out)))); have n1_ := Aside0.mk (below_step (by repeat (first | (with_reducible first | exact HB.out | apply below_alloc | apply pw_below_drewN | apply below_drew1) | exact HB.out)) hb); clear HB; have HO205 := n0_; have HB := n1_; clear n0_ n1_; clear hb ho6))
      go_loopg [0, 6] k (fun kq v0 v6 w' => ∃ (x0_1 : Int) (x5_1 : List Int) (x6_1 : Int), v0 = .int .u32 x0_1 ∧ v6 = .int .i64 x6_1 ∧ Aside0 (octroiref01_Put.l0 kq x0_1 x5_1 x6_1 = some r) ∧ Aside0 (kq ≤ k) ∧ Aside0 (Kd.R (Kd.int .u8) 5 w' w.heap.size (fun _ => True) v204 x5_1) ∧ Aside0 (Below w.heap.size w w'))
      case atStart => exact ⟨(a0), (y203), (wrap64 (a1 - 1)), (by first | rfl | (simp; done) | (simp [*]; done)), (by first | rfl | (simp; done) | (simp [*]; done)), H', ⟨Nat.le_refl _⟩, ⟨by (with_reducible repeat (first | apply Kd.R_alloc | apply Kd.R_drewN | apply Kd.R_drew)); exact HO205.out⟩, ⟨by repeat (first | (with_reducible first | exact HB.out | apply below_alloc | apply pw_below_drewN | apply below_drew1) | exact HB.out)⟩⟩
      case round =>
        clear H'
        try clear c2
        try clear p2
        try clear c3
        try clear c3b0
        try clear c3b1
        try clear c4
        try clear c4b0
        try clear c4b1
        try clear p6
        obtain ⟨x0_1, x5_1, x6_1, rfl, rfl, HA, HK1, HO_5, HB⟩ := hrel
        cases gk with
        | zero => exact absurd HA.out (by simp [octroiref01_Put.l0])
        | succ k1 =>
          have H := HA.out
          clear HA
          simp only [octroiref01_Put.l0] at H
          by_cases c7 : x6_1 ≥ 0
          · rw [if_pos c7] at H
            have c7b0 : decide (0 ≤ x6_1) = true := decide_eq_true c7
            clear c7
            by_cases c8 : 0 ≤ x6_1
            · rw [if_pos c8] at H
              have c8b0 : decide (0 ≤ x6_1) = true := decide_eq_true c8
              clear c8
              by_cases c9 : x6_1 < (x5_1.length : Int)
              · rw [if_pos c9] at H
                have c9b0 : decide (x6_1 < (x5_1.length : Int)) = true := decide_eq_true c9
                clear c9
                obtain ⟨y206, hy206⟩ : ∃ y_ : List Int, y_ = (x5_1.set (x6_1 : Int).toNat ((Int.tmod x0_1 256) % 256)) := ⟨_, rfl⟩
                replace H : (octroiref01_Put.l0 k1 ((Int.tdiv x0_1 256) % 4294967296) y206 (wrap64 (x6_1 - 1))) = some r := by first | (rw [hy206]; with_reducible exact H) | (have H2_ := (Option.bind_some _ _).symm.trans H; rw [hy206]; with_reducible exact H2_) | (have H2_ := (Option.bind_some _ _).symm.trans H; with_reducible exact H2_) | with_reducible exact H | (rw [hy206]; exact H) | exact H
                have Ny206 := Aside0.mk hy206
                clear hy206
                have H' := Aside0.mk H
                clear H
                have p10 : 0 ≤ (x6_1 : Int) := of_decide_eq_true (by first | (with_reducible assumption) | assumption)
                have q10 : (x6_1 : Int) < ((x5_1.length : Int) : Int) := of_decide_eq_true (by first | (with_reducible assumption) | assumption)
                obtain ⟨go10, co10, eo10, gb10, gl10, cl10, HG10⟩ := Kd.R_form HO_5.out (by omega)
                (first | cases eo10 | (injection eo10 with ea_ en_ ec_; (first | subst ea_ | (injection ea_ with ea_; subst ea_)); subst ec_; clear en_))
                have GB10 := Aside0.mk gb10
                have GG10 := Aside0.mk HG10
                clear gb10 gl10 HG10
                obtain ⟨hx10_0, hf10_0⟩ := Kd.R_celln 0 HO_5.out (x6_1 : Int) p10 q10
                replace p10 := eq_true p10
                replace q10 := eq_true q10
                have HP11 := Kd.R_putg HO_5.out (x6_1 : Int) ((Int.tmod x0_1 256) % 256)
                go_wp2_with (first | ((with_reducible refine gate_store (t := 5) (p := 20) rfl ?_); refine store_event (t := 5) (p := 20) (v := ?vo_w12) (w1 := (wr.setCell ⟨go10, (x6_1 : Int).toNat, none⟩ (.int .u8 ((Int.tmod x0_1 256) % 256)))) ?hg ?ho ?hn ?hr ?_; (case ho => rfl); (case hg => rfl); (case hn => rfl); (case hr => first | (go_simp; done) | (go_simp; rfl)); intro w12 hw; have hg : wr.grownBy w12 (some go10) := (by rw [hw]; exact HP11.2); have hp_ : Kd.R (Kd.int .u8) 5 w12 w.heap.size (fun _ => True) (.slice (some ⟨go10, 0, none⟩) x5_1.length co10) y206 := (by rw [hw, Ny206.out]; exact HP11.1); clear HP11; have n0_ := Aside0.mk (hp_); have n1_ := Aside0.mk ((by rw [hw]; exact below_set (HB.out) GB10.out : Below w.heap.size w w12)); clear HO_5; clear HB; have HO_5 := n0_; have HB := n1_; clear n0_ n1_; clear hg hw hp_))
                go_roundg k1
                case measure => have := HK1.out; omega
                case rel => exact ⟨((Int.tdiv x0_1 256) % 4294967296), (y206), (wrap64 (x6_1 - 1)), (by first | rfl | (simp; done) | (simp [*]; done)), (by first | rfl | (simp; done) | (simp [*]; done)), H', ⟨by have := HK1.out; omega⟩, ⟨by (with_reducible repeat (first | apply Kd.R_alloc | apply Kd.R_drewN | apply Kd.R_drew)); exact HO_5.out⟩, ⟨by repeat (first | (with_reducible first | exact HB.out | apply below_alloc | apply pw_below_drewN | apply below_drew1) | exact HB.out)⟩⟩
              · rw [if_neg c9] at H
                exact absurd H (by simp)
            · rw [if_neg c8] at H
              exact absurd H (by simp)
          · rw [if_neg c7] at H
            have c7b0 : decide (0 ≤ x6_1) = false := decide_eq_false c7
            clear c7
            obtain rfl := Option.some.inj H
            go_wp2
            go_ret
            exact ⟨_, by first | rfl | (simp [errW_none, errW_some] <;> rfl) | (simp [*, errW_none, errW_some] <;> rfl), by (with_reducible repeat (first | apply Kd.R_alloc | apply Kd.R_drewN | apply Kd.R_drew)); exact HO_5.out, by repeat (first | (with_reducible first | exact HB.out | apply below_alloc | apply pw_below_drewN | apply below_drew1) | exact HB.out)⟩
    · rw [if_neg c4] at H
      exact absurd H (by simp)
  · rw [if_neg c3] at H
    exact absurd H (by simp)

/-! ### octroiref05_Encode: function 12 -/
mutual
def octroiref05_Encode.j0 : Nat → Bool → Int → Bool → List (S41) → Option (List Int × Int)
  | 0, _, _, _, _ => none
  | k + 1, x34, x208000, x208001, x208002 => if x34 = true then (some (([] : List Int), 1)) else ((some (([(x208000) % 256, 2, 0, 0] : List Int) : List Int)).bind fun y208 => (if x208001 = true then ((octroiref05_whole.f).bind fun t211 => (if y208.length + t211.length < 140737488355328 then (some ((y208 ++ t211), 0)) else (none))) else (octroiref05_Encode.l0 k y208 0 x208000 x208001 x208002)))
def octroiref05_Encode.l0 : Nat → List Int → Int → Int → Bool → List (S41) → Option (List Int × Int)
  | 0, _, _, _, _, _ => none
  | k + 1, x4, x5, x208000, x208001, x208002 => if x5 < (x208002.length : Int) then (if 0 ≤ x5 then ((octroiref05_entry.f k ((rd_T41 x208002 x5).f0.f0) ((rd_T41 x208002 x5).f0.f1) ((rd_T41 x208002 x5).f1) ((rd_T41 x208002 x5).f2) ((rd_T41 x208002 x5).f3)).bind fun t219 => (if t219 = true then ((some (([0, 2] : List Int) : List Int)).bind fun y220 => (if x4.length + y220.length < 140737488355328 then ((some (x4 ++ y220 : List Int)).bind fun y223 => ((octroiref01_Put.f k (((rd_T41 x208002 x5).f1) % 4294967296) 2).bind fun t226 => (if y223.length + t226.length < 140737488355328 then ((some (y223 ++ t226 : List Int)).bind fun y229 => ((octroiref01_Put.f k ((rd_T41 x208002 x5).f0.f0) 4).bind fun t232 => (if y229.length + t232.length < 140737488355328 then ((some (y229 ++ t232 : List Int)).bind fun y235 => ((octroiref02_Mask.f k ((rd_T41 x208002 x5).f0.f1)).bind fun t238 => ((octroiref01_Put.f k t238 4).bind fun t239 => (if y235.length + t239.length < 140737488355328 then ((some (y235 ++ t239 : List Int)).bind fun y242 => ((octroiref01_Put.f k ((rd_T41 x208002 x5).f2) 4).bind fun t245 => (if y242.length + t245.length < 140737488355328 then ((some (y242 ++ t245 : List Int)).bind fun y248 => ((octroiref01_Put.f k (((rd_T41 x208002 x5).f3) % 4294967296) 4).bind fun t251 => (if y248.length + t251.length < 140737488355328 then (octroiref05_Encode.l0 k (y248 ++ t251) (wrap64 (x5 + 1)) x208000 x208001 x208002) else (none)))) else (none)))) else (none))))) else (none)))) else (none)))) else (none))) else (some (([] : List Int), 1)))) else (none)) else (some (x4, 0))
end
def octroiref05_Encode.f (k : Nat) (a0_0 : Int) (a0_1 : Bool) (l0_2 : List (S41)) : Option (List Int × Int) := if (l0_2.length : Int) > 25 then (some (([] : List Int), 9)) else (if a0_0 = 1 then (if a0_1 = true then (octroiref05_Encode.j0 k (decide ((l0_2.length : Int) > 0)) a0_0 a0_1 l0_2) else (octroiref05_Encode.j0 k false a0_0 a0_1 l0_2)) else (if a0_0 = 2 then (if a0_1 = true then (octroiref05_Encode.j0 k true a0_0 a0_1 l0_2) else (octroiref05_Encode.j0 k false a0_0 a0_1 l0_2)) else (octroiref05_Encode.j0 k true a0_0 a0_1 l0_2)))
theorem octroiref05_Encode.mono_l : ∀ k, (∀ y0 y1 y2 y3, LeO (octroiref05_Encode.j0 k y0 y1 y2 y3) (octroiref05_Encode.j0 (k + 1) y0 y1 y2 y3)) ∧ (∀ y0 y1 y2 y3 y4, LeO (octroiref05_Encode.l0 k y0 y1 y2 y3 y4) (octroiref05_Encode.l0 (k + 1) y0 y1 y2 y3 y4))
  | 0 => ⟨fun _ _ _ _ r h => by simp [octroiref05_Encode.j0] at h, fun _ _ _ _ _ r h => by simp [octroiref05_Encode.l0] at h⟩
  | k + 1 => by
    obtain ⟨ih0, ih1⟩ := octroiref05_Encode.mono_l k
    refine ⟨?_, ?_⟩
    · intro y0 y1 y2 y3
      unfold octroiref05_Encode.j0
      repeat' first
      | (with_reducible exact ih0 _ _ _ _)
      | (with_reducible exact ih1 _ _ _ _ _)
      | (with_reducible exact octroiref01_Put.mono _ _ _)
      | (with_reducible exact octroiref02_Mask.mono _ _)
      | (with_reducible exact octroiref05_entry.mono _ _ _ _ _ _)
      | (with_reducible exact LeO.refl _)
      | (with_reducible exact LeO.none _)
      | (with_reducible refine LeO.ite ?_ ?_)
      | (with_reducible refine LeO.bind ?_ (fun _ => ?_))
      | exact ih0 _ _ _ _
      | exact ih1 _ _ _ _ _
      | exact octroiref01_Put.mono _ _ _
      | exact octroiref02_Mask.mono _ _
      | exact octroiref05_entry.mono _ _ _ _ _ _
      | exact LeO.none _
      | refine LeO.ite ?_ ?_
      | refine LeO.bind ?_ (fun _ => ?_)
    · intro y0 y1 y2 y3 y4
      unfold octroiref05_Encode.l0
      repeat' first
      | (with_reducible exact ih0 _ _ _ _)
      | (with_reducible exact ih1 _ _ _ _ _)
      | (with_reducible exact octroiref01_Put.mono _ _ _)
      | (with_reducible exact octroiref02_Mask.mono _ _)
      | (with_reducible exact octroiref05_entry.mono _ _ _ _ _ _)
      | (with_reducible exact LeO.refl _)
      | (with_reducible exact LeO.none _)
      | (with_reducible refine LeO.ite ?_ ?_)
      | (with_reducible refine LeO.bind ?_ (fun _ => ?_))
      | exact ih0 _ _ _ _
      | exact ih1 _ _ _ _ _
      | exact octroiref01_Put.mono _ _ _
      | exact octroiref02_Mask.mono _ _
      | exact octroiref05_entry.mono _ _ _ _ _ _
      | exact LeO.none _
      | refine LeO.ite ?_ ?_
      | refine LeO.bind ?_ (fun _ => ?_)
theorem octroiref05_Encode.mono : ∀ a0 a1 a2 k, LeO (octroiref05_Encode.f k a0 a1 a2) (octroiref05_Encode.f (k + 1) a0 a1 a2) := by
  intro a0 a1 a2 k
  obtain ⟨ih0, ih1⟩ := octroiref05_Encode.mono_l k
  unfold octroiref05_Encode.f
  repeat' first
      | (with_reducible exact ih0 _ _ _ _)
      | (with_reducible exact ih1 _ _ _ _ _)
      | (with_reducible exact octroiref01_Put.mono _ _ _)
      | (with_reducible exact octroiref02_Mask.mono _ _)
      | (with_reducible exact octroiref05_entry.mono _ _ _ _ _ _)
      | (with_reducible exact LeO.refl _)
      | (with_reducible exact LeO.none _)
      | (with_reducible refine LeO.ite ?_ ?_)
      | (with_reducible refine LeO.bind ?_ (fun _ => ?_))
      | exact ih0 _ _ _ _
      | exact ih1 _ _ _ _ _
      | exact octroiref01_Put.mono _ _ _
      | exact octroiref02_Mask.mono _ _
      | exact octroiref05_entry.mono _ _ _ _ _ _
      | exact LeO.none _
      | refine LeO.ite ?_ ?_
      | refine LeO.bind ?_ (fun _ => ?_)
set_option maxHeartbeats 8000000 in
set_option maxRecDepth 100000 in
theorem octroiref05_Encode.calls (k : Nat) (a0_0 : Int) (a0_1 : Bool) (A0_2 : Option Addr) (c0_2 : Nat) (l0_2 : List (S41)) (r1 : List Int) (r2 : Int) (w : World) (hr0_2 : Kd.C k41 w A0_2 l0_2.length l0_2) (hc0_2 : l0_2.length ≤ c0_2) (h : octroiref05_Encode.f k a0_0 a0_1 l0_2 = some (r1, r2)) :
    Calls Try.prog 12 #[.agg #[.int .i64 a0_0, .bool a0_1, .slice A0_2 l0_2.length c0_2]] w fun e w' => ∃ v0_ : Value, e = .returned (.tuple #[v0_, .int .i64 r2]) ∧ Kd.R (Kd.int .u8) 5 w' w.heap.size (fun _ => True) v0_ r1 ∧ Below w.heap.size w w' := by
  have hu24 := Try.underlying24
  have hu41 := Try.underlying41
  have HR0_2 := Aside0.mk hr0_2
  have HC0_2 := Aside0.mk hc0_2
  clear hr0_2 hc0_2
  have HB := Aside0.mk (Below.refl w.heap.size w)
  have H : (if (l0_2.length : Int) > 25 then (some (([] : List Int), 9)) else (if a0_0 = 1 then (if a0_1 = true then (octroiref05_Encode.j0 k (decide ((l0_2.length : Int) > 0)) a0_0 a0_1 l0_2) else (octroiref05_Encode.j0 k false a0_0 a0_1 l0_2)) else (if a0_0 = 2 then (if a0_1 = true then (octroiref05_Encode.j0 k true a0_0 a0_1 l0_2) else (octroiref05_Encode.j0 k false a0_0 a0_1 l0_2)) else (octroiref05_Encode.j0 k true a0_0 a0_1 l0_2)))) = some (r1, r2) := h
  clear h
  by_cases c2 : (l0_2.length : Int) > 25
  · rw [if_pos c2] at H
    have c2b0 : decide (25 < (l0_2.length : Int)) = true := decide_eq_true c2
    have c2b1 : decide (25 < l0_2.length) = true := decide_eq_true (by omega)
    clear c2
    simp only [Option.some.injEq, Prod.mk.injEq] at H
    obtain ⟨rfl, rfl⟩ := H
    go_enter Try.func12, Try.ntmps12
    go_wp2_with (first | ((with_reducible refine gate_dst (N := 1) rfl ?_); (try (refine gate_guard (by rfl) ?_; dsimp only)); refine box_event ?hg (N := 1) ?hd (cs := #[.int .i64 a0_0, .bool a0_1, .slice A0_2 l0_2.length c0_2]) (t := 24) ?hr ?_; (case hd => rfl); (case hg => rfl); (case hr => first | (go_simp; done) | (go_simp; rfl)); intro gb207 hg w3 hbox hb; have n0_ := Aside0.mk (below_step (by repeat (first | (with_reducible first | exact HB.out | apply below_alloc | apply pw_below_drewN | apply below_drew1) | exact HB.out)) hb); have n1_ := Aside0.mk (hbox); have n2_ := Aside0.mk ((by rw [hg]; exact (below_size (by repeat (first | (with_reducible first | exact HB.out | apply below_alloc | apply pw_below_drewN | apply below_drew1) | exact HB.out))) : w.heap.size ≤ gb207)); have n3_ := Aside0.mk ((by rw [hg]; exact (below_size (by repeat (first | (with_reducible first | exact HB.out | apply below_alloc | apply pw_below_drewN | apply below_drew1) | exact HB.out))) : w.heap.size ≤ gb207)); clear HB; have HB := n0_; have BK207 := n1_; have GW207 := n2_; have GE207 := n3_; clear n0_ n1_ n2_ n3_; clear hb hbox hg; have hcz4_0 : w3.cell? ⟨gb207, 0, none⟩ = some (.int .i64 a0_0) := (blk_cell BK207.out 0).trans rfl; have hcz4_1 : w3.cell? ⟨gb207, 1, none⟩ = some (.bool a0_1) := (blk_cell BK207.out 1).trans rfl; have hcz4_2 : w3.cell? ⟨gb207, 2, none⟩ = some (.slice A0_2 l0_2.length c0_2) := (blk_cell BK207.out 2).trans rfl; have hfz4_0 := blk_frozen BK207.out 0; have hfz4_1 := blk_frozen BK207.out 1; have hfz4_2 := blk_frozen BK207.out 2))
    go_ret2
    exact ⟨_, by first | rfl | (simp [errW_none, errW_some] <;> rfl) | (simp [*, errW_none, errW_some] <;> rfl), by first | exact Kd.R_nil _ _ _ _ _ | exact Kd.N_nil _ _ _ _ _ | exact Kd.V_nil _ _ _ _ _ | exact Kd.Q_nil _ _ _ _ _ | exact Kd.S_nil _ _ _ _ _, by repeat (first | (with_reducible first | exact HB.out | apply below_alloc | apply pw_below_drewN | apply below_drew1 | refine below_set ?_ GE207.out) | exact HB.out)⟩
  · rw [if_neg c2] at H
    have c2b0 : decide (25 < (l0_2.length : Int)) = false := decide_eq_false c2
    have c2b1 : decide (25 < l0_2.length) = false := decide_eq_false (by omega)
    clear c2
    have HC5 := Aside0.mk H
    clear H
    go_enter Try.func12, Try.ntmps12
    go_upto_region 3 with (first | ((with_reducible refine gate_dst (N := 1) rfl ?_); (try (refine gate_guard (by rfl) ?_; dsimp only)); refine box_event ?hg (N := 1) ?hd (cs := #[.int .i64 a0_0, .bool a0_1, .slice A0_2 l0_2.length c0_2]) (t := 24) ?hr ?_; (case hd => rfl); (case hg => rfl); (case hr => first | (go_simp; done) | (go_simp; rfl)); intro gb207 hg w6 hbox hb; have n0_ := Aside0.mk (below_step (by repeat (first | (with_reducible first | exact HB.out | apply below_alloc | apply pw_below_drewN | apply below_drew1) | exact HB.out)) hb); have n1_ := Aside0.mk (hbox); have n2_ := Aside0.mk ((by rw [hg]; exact (below_size (by repeat (first | (with_reducible first | exact HB.out | apply below_alloc | apply pw_below_drewN | apply below_drew1) | exact HB.out))) : w.heap.size ≤ gb207)); have n3_ := Aside0.mk ((by rw [hg]; exact (below_size (by repeat (first | (with_reducible first | exact HB.out | apply below_alloc | apply pw_below_drewN | apply below_drew1) | exact HB.out))) : w.heap.size ≤ gb207)); clear HB; have HB := n0_; have BK207 := n1_; have GW207 := n2_; have GE207 := n3_; clear n0_ n1_ n2_ n3_; clear hb hbox hg; have hcz7_0 : w6.cell? ⟨gb207, 0, none⟩ = some (.int .i64 a0_0) := (blk_cell BK207.out 0).trans rfl; have hcz7_1 : w6.cell? ⟨gb207, 1, none⟩ = some (.bool a0_1) := (blk_cell BK207.out 1).trans rfl; have hcz7_2 : w6.cell? ⟨gb207, 2, none⟩ = some (.slice A0_2 l0_2.length c0_2) := (blk_cell BK207.out 2).trans rfl; have hfz7_0 := blk_frozen BK207.out 0; have hfz7_1 := blk_frozen BK207.out 1; have hfz7_2 := blk_frozen BK207.out 2))
    (try simp only [Act.put, List.setIfInBounds_toArray, List.set_cons_zero, List.set_cons_succ])
    go_cut [34] (fun v34 wc => ∃ (kq : Nat) (x34_4 : Bool), v34 = .bool x34_4 ∧ Aside0 (octroiref05_Encode.j0 kq x34_4 a0_0 a0_1 l0_2 = some (r1, r2)) ∧ Aside0 (kq ≤ k) ∧ Aside0 (wc.heap[gb207]? = some (.cells #[.int .i64 a0_0, .bool a0_1, (.slice A0_2 l0_2.length c0_2)] 24 (0, 0))) ∧ Aside0 (Below w.heap.size w wc))
    case first =>
      have H := HC5.out
      clear HC5
      by_cases c8 : a0_0 = 1
      · rw [if_pos c8] at H
        have c8b0 : (a0_0 == 1) = true := beq_iff_eq.mpr c8
        have c8b1 : (a0_0 != 1) = false := bne_eq_false_iff_eq.mpr c8
        clear c8
        (first | rw [c8b0] | (simp only [i64_w, i32_w]; rw [c8b0]) | skip)
        by_cases c9 : a0_1 = true
        · subst c9
          have H1 : (octroiref05_Encode.j0 k (decide ((l0_2.length : Int) > 0)) a0_0 true l0_2) = some (r1, r2) := by rw [if_pos rfl] at H; exact H
          clear H
          have H := H1
          clear H1
          have H' := Aside0.mk H
          clear H
          have hcz10_0 : w6.cell? ⟨gb207, 0, none⟩ = some (.int .i64 a0_0) := (blk_cell BK207.out 0).trans rfl
          have hcz10_1 : w6.cell? ⟨gb207, 1, none⟩ = some (.bool true) := (blk_cell BK207.out 1).trans rfl
          have hcz10_2 : w6.cell? ⟨gb207, 2, none⟩ = some (.slice A0_2 l0_2.length c0_2) := (blk_cell BK207.out 2).trans rfl
          have hfz10_0 := blk_frozen BK207.out 0
          have hfz10_1 := blk_frozen BK207.out 1
          have hfz10_2 := blk_frozen BK207.out 2
          go_wp2
          go_meet
          case rel => exact ⟨_, (decide ((l0_2.length : Int) > 0)), (by first | rfl | (simp; done) | (simp [*]; done)), H', ⟨by first | omega | exact Nat.le_refl _⟩, ⟨by (with_reducible repeat (first | refine blk_drewN ?_ _ | refine blk_drew ?_ | refine blk_alloc ?_ _)); exact BK207.out⟩, ⟨by repeat (first | (with_reducible first | exact HB.out | apply below_alloc | apply pw_below_drewN | apply below_drew1 | refine below_set ?_ GE207.out) | exact HB.out)⟩⟩
        · replace c9 := Bool.eq_false_iff.mpr c9
          subst c9
          have H1 : (octroiref05_Encode.j0 k false a0_0 false l0_2) = some (r1, r2) := by rw [if_neg (show ¬ (false = true) by decide)] at H; exact H
          clear H
          have H := H1
          clear H1
          have H' := Aside0.mk H
          clear H
          have hcz11_0 : w6.cell? ⟨gb207, 0, none⟩ = some (.int .i64 a0_0) := (blk_cell BK207.out 0).trans rfl
          have hcz11_1 : w6.cell? ⟨gb207, 1, none⟩ = some (.bool false) := (blk_cell BK207.out 1).trans rfl
          have hcz11_2 : w6.cell? ⟨gb207, 2, none⟩ = some (.slice A0_2 l0_2.length c0_2) := (blk_cell BK207.out 2).trans rfl
          have hfz11_0 := blk_frozen BK207.out 0
          have hfz11_1 := blk_frozen BK207.out 1
          have hfz11_2 := blk_frozen BK207.out 2
          go_wp2
          go_meet
          case rel => exact ⟨_, (false), (by first | rfl | (simp; done) | (simp [*]; done)), H', ⟨by first | omega | exact Nat.le_refl _⟩, ⟨by (with_reducible repeat (first | refine blk_drewN ?_ _ | refine blk_drew ?_ | refine blk_alloc ?_ _)); exact BK207.out⟩, ⟨by repeat (first | (with_reducible first | exact HB.out | apply below_alloc | apply pw_below_drewN | apply below_drew1 | refine below_set ?_ GE207.out) | exact HB.out)⟩⟩
      · rw [if_neg c8] at H
        have c8b0 : (a0_0 == 1) = false := beq_eq_false_iff_ne.mpr c8
        have c8b1 : (a0_0 != 1) = true := bne_iff_ne.mpr c8
        (first | rw [c8b0] | (simp only [i64_w, i32_w]; rw [c8b0]) | skip)
        by_cases c12 : a0_0 = 2
        · rw [if_pos c12] at H
          have c12b0 : (a0_0 == 2) = true := beq_iff_eq.mpr c12
          have c12b1 : (a0_0 != 2) = false := bne_eq_false_iff_eq.mpr c12
          clear c12
          by_cases c13 : a0_1 = true
          · subst c13
            have H1 : (octroiref05_Encode.j0 k true a0_0 true l0_2) = some (r1, r2) := by rw [if_pos rfl] at H; exact H
            clear H
            have H := H1
            clear H1
            have H' := Aside0.mk H
            clear H
            have hcz14_0 : w6.cell? ⟨gb207, 0, none⟩ = some (.int .i64 a0_0) := (blk_cell BK207.out 0).trans rfl
            have hcz14_1 : w6.cell? ⟨gb207, 1, none⟩ = some (.bool true) := (blk_cell BK207.out 1).trans rfl
            have hcz14_2 : w6.cell? ⟨gb207, 2, none⟩ = some (.slice A0_2 l0_2.length c0_2) := (blk_cell BK207.out 2).trans rfl
            have hfz14_0 := blk_frozen BK207.out 0
            have hfz14_1 := blk_frozen BK207.out 1
            have hfz14_2 := blk_frozen BK207.out 2
            go_wp2
            go_meet
            case rel => exact ⟨_, (true), (by first | rfl | (simp; done) | (simp [*]; done)), H', ⟨by first | omega | exact Nat.le_refl _⟩, ⟨by (with_reducible repeat (first | refine blk_drewN ?_ _ | refine blk_drew ?_ | refine blk_alloc ?_ _)); exact BK207.out⟩, ⟨by repeat (first | (with_reducible first | exact HB.out | apply below_alloc | apply pw_below_drewN | apply below_drew1 | refine below_set ?_ GE207.out) | exact HB.out)⟩⟩
          · replace c13 := Bool.eq_false_iff.mpr c13
            subst c13
            have H1 : (octroiref05_Encode.j0 k false a0_0 false l0_2) = some (r1, r2) := by rw [if_neg (show ¬ (false = true) by decide)] at H; exact H
            clear H
            have H := H1
            clear H1
            have H' := Aside0.mk H
            clear H
            have hcz15_0 : w6.cell? ⟨gb207, 0, none⟩ = some (.int .i64 a0_0) := (blk_cell BK207.out 0).trans rfl
            have hcz15_1 : w6.cell? ⟨gb207, 1, none⟩ = some (.bool false) := (blk_cell BK207.out 1).trans rfl
            have hcz15_2 : w6.cell? ⟨gb207, 2, none⟩ = some (.slice A0_2 l0_2.length c0_2) := (blk_cell BK207.out 2).trans rfl
            have hfz15_0 := blk_frozen BK207.out 0
            have hfz15_1 := blk_frozen BK207.out 1
            have hfz15_2 := blk_frozen BK207.out 2
            go_wp2
            go_meet
            case rel => exact ⟨_, (false), (by first | rfl | (simp; done) | (simp [*]; done)), H', ⟨by first | omega | exact Nat.le_refl _⟩, ⟨by (with_reducible repeat (first | refine blk_drewN ?_ _ | refine blk_drew ?_ | refine blk_alloc ?_ _)); exact BK207.out⟩, ⟨by repeat (first | (with_reducible first | exact HB.out | apply below_alloc | apply pw_below_drewN | apply below_drew1 | refine below_set ?_ GE207.out) | exact HB.out)⟩⟩
        · rw [if_neg c12] at H
          have c12b0 : (a0_0 == 2) = false := beq_eq_false_iff_ne.mpr c12
          have c12b1 : (a0_0 != 2) = true := bne_iff_ne.mpr c12
          have H' := Aside0.mk H
          clear H
          have hcz16_0 : w6.cell? ⟨gb207, 0, none⟩ = some (.int .i64 a0_0) := (blk_cell BK207.out 0).trans rfl
          have hcz16_1 : w6.cell? ⟨gb207, 1, none⟩ = some (.bool a0_1) := (blk_cell BK207.out 1).trans rfl
          have hcz16_2 : w6.cell? ⟨gb207, 2, none⟩ = some (.slice A0_2 l0_2.length c0_2) := (blk_cell BK207.out 2).trans rfl
          have hfz16_0 := blk_frozen BK207.out 0
          have hfz16_1 := blk_frozen BK207.out 1
          have hfz16_2 := blk_frozen BK207.out 2
          go_wp2
          go_meet
          case rel => exact ⟨_, (true), (by first | rfl | (simp; done) | (simp [*]; done)), H', ⟨by first | omega | exact Nat.le_refl _⟩, ⟨by (with_reducible repeat (first | refine blk_drewN ?_ _ | refine blk_drew ?_ | refine blk_alloc ?_ _)); exact BK207.out⟩, ⟨by repeat (first | (with_reducible first | exact HB.out | apply below_alloc | apply pw_below_drewN | apply below_drew1 | refine below_set ?_ GE207.out) | exact HB.out)⟩⟩
    case rest =>
      clear HC5
      try clear c1
      try clear c2
      try clear c2b0
      try clear c2b1
      try clear p2
      try clear c8
      try clear c8b0
      try clear c8b1
      try clear c9
      try clear c12
      try clear c12b0
      try clear c12b1
      try clear c13
      try clear hcz10_0
      try clear hcz10_1
      try clear hcz10_2
      try clear hcz11_0
      try clear hcz11_1
      try clear hcz11_2
      try clear hcz14_0
      try clear hcz14_1
      try clear hcz14_2
      try clear hcz15_0
      try clear hcz15_1
      try clear hcz15_2
      try clear hcz16_0
      try clear hcz16_1
      try clear hcz16_2
      try clear hcz4_0
      try clear hcz4_1
      try clear hcz4_2
      try clear hcz7_0
      try clear hcz7_1
      try clear hcz7_2
      try clear hfz10_0
      try clear hfz10_1
      try clear hfz10_2
      try clear hfz11_0
      try clear hfz11_1
      try clear hfz11_2
      try clear hfz14_0
      try clear hfz14_1
      try clear hfz14_2
      try clear hfz15_0
      try clear hfz15_1
      try clear hfz15_2
      try clear hfz16_0
      try clear hfz16_1
      try clear hfz16_2
      try clear hfz4_0
      try clear hfz4_1
      try clear hfz4_2
      try clear hfz7_0
      try clear hfz7_1
      try clear hfz7_2
      obtain ⟨kq, x34_4, rfl, HA, HJ4, BK207, HB⟩ := hcut
      cases kq with
      | zero => exact absurd HA.out (by simp [octroiref05_Encode.j0])
      | succ kj4 =>
        have H := HA.out
        clear HA
        simp only [octroiref05_Encode.j0] at H
        by_cases c17 : x34_4 = true
        · subst c17
          have H1 : (some (([] : List Int), 1)) = some (r1, r2) := by rw [if_pos rfl] at H; exact H
          clear H
          have H := H1
          clear H1
          simp only [Option.some.injEq, Prod.mk.injEq] at H
          obtain ⟨rfl, rfl⟩ := H
          go_wp2
          go_ret2
          exact ⟨_, by first | rfl | (simp [errW_none, errW_some] <;> rfl) | (simp [*, errW_none, errW_some] <;> rfl), by first | exact Kd.R_nil _ _ _ _ _ | exact Kd.N_nil _ _ _ _ _ | exact Kd.V_nil _ _ _ _ _ | exact Kd.Q_nil _ _ _ _ _ | exact Kd.S_nil _ _ _ _ _, by repeat (first | (with_reducible first | exact HB.out | apply below_alloc | apply pw_below_drewN | apply below_drew1 | refine below_set ?_ GE207.out) | exact HB.out)⟩
        · replace c17 := Bool.eq_false_iff.mpr c17
          subst c17
          have H1 : ((some (([(a0_0) % 256, 2, 0, 0] : List Int) : List Int)).bind fun y208 => (if a0_1 = true then ((octroiref05_whole.f).bind fun t211 => (if y208.length + t211.length < 140737488355328 then (some ((y208 ++ t211), 0)) else (none))) else (octroiref05_Encode.l0 kj4 y208 0 a0_0 a0_1 l0_2))) = some (r1, r2) := by rw [if_neg (show ¬ (false = true) by decide)] at H; exact H
          clear H
          have H := H1
          clear H1
          obtain ⟨y208, hy208⟩ : ∃ y_ : List Int, y_ = (([(a0_0) % 256, 2, 0, 0] : List Int)) := ⟨_, rfl⟩
          replace H : (if a0_1 = true then ((octroiref05_whole.f).bind fun t211 => (if y208.length + t211.length < 140737488355328 then (some ((y208 ++ t211), 0)) else (none))) else (octroiref05_Encode.l0 kj4 y208 0 a0_0 a0_1 l0_2)) = some (r1, r2) := by first | (rw [hy208]; with_reducible exact H) | (have H2_ := (Option.bind_some _ _).symm.trans H; rw [hy208]; with_reducible exact H2_) | (have H2_ := (Option.bind_some _ _).symm.trans H; with_reducible exact H2_) | with_reducible exact H | (rw [hy208]; exact H) | exact H
          have Ny208 := Aside0.mk hy208
          clear hy208
          by_cases c18 : a0_1 = true
          · subst c18
            have H1 : ((octroiref05_whole.f).bind fun t211 => (if y208.length + t211.length < 140737488355328 then (some ((y208 ++ t211), 0)) else (none))) = some (r1, r2) := by rw [if_pos rfl] at H; exact H
            clear H
            have H := H1
            clear H1
            replace H := Option.bind_eq_some_iff.mp H
            obtain ⟨t211, A190, H⟩ := H
            replace H : (if y208.length + t211.length < 140737488355328 then (some ((y208 ++ t211), 0)) else (none)) = some (r1, r2) := H
            have A19 := Aside0.mk A190
            clear A190
            by_cases c20 : y208.length + t211.length < 140737488355328
            · rw [if_pos c20] at H
              have LMc20 := Aside0.mk c20
              clear c20
              obtain ⟨y214, hy214⟩ : ∃ y_ : List Int, y_ = (y208 ++ t211) := ⟨_, rfl⟩
              replace H : (some (y214, 0)) = some (r1, r2) := by first | (rw [hy214]; with_reducible exact H) | (have H2_ := (Option.bind_some _ _).symm.trans H; rw [hy214]; with_reducible exact H2_) | (have H2_ := (Option.bind_some _ _).symm.trans H; with_reducible exact H2_) | with_reducible exact H | (rw [hy214]; exact H) | exact H
              have Ny214 := Aside0.mk hy214
              clear hy214
              simp only [Option.some.injEq, Prod.mk.injEq] at H
              obtain ⟨rfl, rfl⟩ := H
              have hcz21_0 : wc.cell? ⟨gb207, 0, none⟩ = some (.int .i64 a0_0) := (blk_cell BK207.out 0).trans rfl
              have hcz21_1 : wc.cell? ⟨gb207, 1, none⟩ = some (.bool true) := (blk_cell BK207.out 1).trans rfl
              have hcz21_2 : wc.cell? ⟨gb207, 2, none⟩ = some (.slice A0_2 l0_2.length c0_2) := (blk_cell BK207.out 2).trans rfl
              have hfz21_0 := blk_frozen BK207.out 0
              have hfz21_1 := blk_frozen BK207.out 1
              have hfz21_2 := blk_frozen BK207.out 2
              go_wp2_with (first | ((with_reducible refine gate_dst (N := 38) rfl ?_); (try (refine gate_guard (by rfl) ?_; dsimp only)); refine Kd.R_lit (Kd.int .u8) _ 5 ?hg (N := 38) ?hd (xs := ([(a0_0) % 256, 2, 0, 0] : List Int)) (inner := [.int .u8 ((a0_0) % 256), .int .u8 2, .int .u8 0, .int .u8 0]) (ok := fun _ => True) (okp := fun _ => True) ?hr ?hp (fun _ hk => hk) trivial (Below.refl _ _) (Nat.le_refl _) (by simp) ?_; (case hd => rfl); (case hg => rfl); (case hr => first | (go_simp; done) | (go_simp; rfl)); (case hp => exact (Reps.one (show Kd.M (Kd.int .u8) _ _ _ ((a0_0) % 256) [.int .u8 ((a0_0) % 256)] from rfl) (Reps.one (show Kd.M (Kd.int .u8) _ _ _ 2 [.int .u8 2] from rfl) (Reps.one (show Kd.M (Kd.int .u8) _ _ _ 0 [.int .u8 0] from rfl) (Reps.one (show Kd.M (Kd.int .u8) _ _ _ 0 [.int .u8 0] from rfl) (Reps.none _ _)))))); intro v209 w22 ho23 hb hg_ hnew_; clear hg_ hnew_; (first | rw [← Ny208.out] at ho23 | (simp only [Int.reduceToNat] at ho23; rw [← Ny208.out] at ho23)); have n0_ := Aside0.mk (Kd.R_lower ho23 (below_size (by repeat (first | (with_reducible first | exact HB.out | apply below_alloc | apply pw_below_drewN | apply below_drew1 | refine below_set ?_ GE207.out) | exact HB.out)))); have n1_ := Aside0.mk (blk_below (g := gb207) (o := .cells #[.int .i64 a0_0, .bool true, .slice A0_2 l0_2.length c0_2] 24 (0, 0)) (by (with_reducible repeat (first | refine blk_drewN ?_ _ | refine blk_drew ?_ | refine blk_alloc ?_ _)); exact BK207.out) hb); have n2_ := Aside0.mk (below_step (by repeat (first | (with_reducible first | exact HB.out | apply below_alloc | apply pw_below_drewN | apply below_drew1 | refine below_set ?_ GE207.out) | exact HB.out)) hb); clear BK207; clear HB; have HO210 := n0_; have BK207 := n1_; have HB := n2_; clear n0_ n1_ n2_; clear hb ho23; have hcz24_0 : w22.cell? ⟨gb207, 0, none⟩ = some (.int .i64 a0_0) := (blk_cell BK207.out 0).trans rfl; have hcz24_1 : w22.cell? ⟨gb207, 1, none⟩ = some (.bool true) := (blk_cell BK207.out 1).trans rfl; have hcz24_2 : w22.cell? ⟨gb207, 2, none⟩ = some (.slice A0_2 l0_2.length c0_2) := (blk_cell BK207.out 2).trans rfl; have hfz24_0 := blk_frozen BK207.out 0; have hfz24_1 := blk_frozen BK207.out 1; have hfz24_2 := blk_frozen BK207.out 2) | ((with_reducible refine gate_callee (f := 21) rfl ?_); refine goesL_ (some 42) rfl rfl Try.func21 (by kernel_rfl) rfl #[] rfl (by (try simp only [List.map_toArray, List.map_cons, List.map_nil]); first | done | rfl | (simp only [List.length_drop, List.length_take]; rfl)) ?_; (with_reducible refine (octroiref05_whole.calls  t211 _ A19.out).mono ?_); rintro e w25 ⟨v212, rfl, ho0, hb⟩; refine ⟨_, rfl, ?_⟩; have n0_ := Aside0.mk (Kd.R_elder' (by (with_reducible repeat (first | apply Kd.R_alloc | apply Kd.R_drewN | apply Kd.R_drew)); exact HO210.out) (Kd.R_base ho0) hb); have n1_ := Aside0.mk (Kd.R_lower (Kd.R_new' ho0 (Kd.R_lt (by (with_reducible repeat (first | apply Kd.R_alloc | apply Kd.R_drewN | apply Kd.R_drew)); exact HO210.out))) (below_size (by repeat (first | (with_reducible first | exact HB.out | apply below_alloc | apply pw_below_drewN | apply below_drew1 | refine below_set ?_ GE207.out) | exact HB.out)))); have n2_ := Aside0.mk (blk_below (g := gb207) (o := .cells #[.int .i64 a0_0, .bool true, .slice A0_2 l0_2.length c0_2] 24 (0, 0)) (by (with_reducible repeat (first | refine blk_drewN ?_ _ | refine blk_drew ?_ | refine blk_alloc ?_ _)); exact BK207.out) hb); have n3_ := Aside0.mk (below_step (by repeat (first | (with_reducible first | exact HB.out | apply below_alloc | apply pw_below_drewN | apply below_drew1 | refine below_set ?_ GE207.out) | exact HB.out)) hb); clear HO210; clear BK207; clear HB; have HO210 := n0_; have HO213 := n1_; have BK207 := n2_; have HB := n3_; clear n0_ n1_ n2_ n3_; (try clear hb); (try clear hb2); (try clear hk); (try clear hi); (try clear ho0); obtain ⟨Ao27, co27, eo27⟩ := Kd.R_slice HO213.out; subst eo27) | ((with_reducible refine gate_builtin (b := .append) (xs := #[.tmp 41, .tmp 42]) rfl ?_); (try (refine gate_guard (by rfl) ?_; dsimp only)); at_builtin; refine Kd.R_append_rows (Kd.int .u8) (w0 := w) w.heap.size rfl (.tmp 41) (.tmp 42) 26 5 (.int .u8 0) 1 rfl Try.underlying26 info5 rfl (by decide) (by omega) v209 y208 t211 _ _ _ (fun k_ => some k_ ≠ (.slice Ao27 t211.length co27 : Value).ownBlock) (fun _ => False) rfl rfl ?aO ?aR (fun _ _ h => h) (fun _ h => h.elim) ?aF ?aB ?aS ?aL ?_; (case aR => repeat (first | exact (Kd.R_reads' HO213.out).2.2 | (with_reducible refine Kd.C_alloc ?_ _) | (with_reducible refine Kd.C_drewN ?_ _) | (with_reducible refine Kd.C_drew ?_))); (case aB => exact (by repeat (first | (with_reducible first | exact HB.out | apply below_alloc | apply pw_below_drewN | apply below_drew1 | refine below_set ?_ GE207.out) | exact HB.out))); (case aF => exact (fun k_ hk => Kd.fresh' (Kd.R_lt (by (with_reducible repeat (first | apply Kd.R_alloc | apply Kd.R_drewN | apply Kd.R_drew)); exact HO213.out)) k_ hk)); (case aO => exact (by (with_reducible repeat (first | apply Kd.R_alloc | apply Kd.R_drewN | apply Kd.R_drew)); exact Kd.R_mono HO210.out (fun _ hk => hk.2))); (case aS => exact (below_size (by repeat (first | (with_reducible first | exact HB.out | apply below_alloc | apply pw_below_drewN | apply below_drew1 | refine below_set ?_ GE207.out) | exact HB.out)))); (case aL => have := LMc20.out; omega); intro v215 w26 ho hb hg hat; rw [← Ny214.out] at ho; have n0_ := Aside0.mk (blk_grown (g := gb207) (o := .cells #[.int .i64 a0_0, .bool true, .slice A0_2 l0_2.length c0_2] 24 (0, 0)) (by (with_reducible repeat (first | refine blk_drewN ?_ _ | refine blk_drew ?_ | refine blk_alloc ?_ _)); exact BK207.out) hg (Kd.R_ne HO210.out BK207.out (by decide))); have n1_ := Aside0.mk (Kd.R_after (ok := (fun _ => True)) (by (with_reducible repeat (first | apply Kd.R_alloc | apply Kd.R_drewN | apply Kd.R_drew)); exact HO213.out) hg hat); have n2_ := Aside0.mk (hb); have n3_ := Aside0.mk (ho); clear BK207; clear HO213; clear HB; clear HO210; have BK207 := n0_; have HO213 := n1_; have HB := n2_; have HO216 := n3_; clear n0_ n1_ n2_ n3_; clear ho hb hg hat))
              go_ret2
              exact ⟨_, by first | rfl | (simp [errW_none, errW_some] <;> rfl) | (simp [*, errW_none, errW_some] <;> rfl), by (with_reducible repeat (first | apply Kd.R_alloc | apply Kd.R_drewN | apply Kd.R_drew)); exact Kd.R_mono HO216.out (fun _ hk => trivial), by repeat (first | (with_reducible first | exact HB.out | apply below_alloc | apply pw_below_drewN | apply below_drew1 | refine below_set ?_ GE207.out) | exact HB.out)⟩
            · rw [if_neg c20] at H
              exact absurd H (by simp)
          · replace c18 := Bool.eq_false_iff.mpr c18
            subst c18
            have H1 : (octroiref05_Encode.l0 kj4 y208 0 a0_0 false l0_2) = some (r1, r2) := by rw [if_neg (show ¬ (false = true) by decide)] at H; exact H
            clear H
            have H := H1
            clear H1
            have H' := Aside0.mk H
            clear H
            have hcz28_0 : wc.cell? ⟨gb207, 0, none⟩ = some (.int .i64 a0_0) := (blk_cell BK207.out 0).trans rfl
            have hcz28_1 : wc.cell? ⟨gb207, 1, none⟩ = some (.bool false) := (blk_cell BK207.out 1).trans rfl
            have hcz28_2 : wc.cell? ⟨gb207, 2, none⟩ = some (.slice A0_2 l0_2.length c0_2) := (blk_cell BK207.out 2).trans rfl
            have hfz28_0 := blk_frozen BK207.out 0
            have hfz28_1 := blk_frozen BK207.out 1
            have hfz28_2 := blk_frozen BK207.out 2
            go_wp2_with (first | ((with_reducible refine gate_dst (N := 38) rfl ?_); (try (refine gate_guard (by rfl) ?_; dsimp only)); refine Kd.R_lit (Kd.int .u8) _ 5 ?hg (N := 38) ?hd (xs := ([(a0_0) % 256, 2, 0, 0] : List Int)) (inner := [.int .u8 ((a0_0) % 256), .int .u8 2, .int .u8 0, .int .u8 0]) (ok := fun _ => True) (okp := fun _ => True) ?hr ?hp (fun _ hk => hk) trivial (Below.refl _ _) (Nat.le_refl _) (by simp) ?_; (case hd => rfl); (case hg => rfl); (case hr => first | (go_simp; done) | (go_simp; rfl)); (case hp => exact (Reps.one (show Kd.M (Kd.int .u8) _ _ _ ((a0_0) % 256) [.int .u8 ((a0_0) % 256)] from rfl) (Reps.one (show Kd.M (Kd.int .u8) _ _ _ 2 [.int .u8 2] from rfl) (Reps.one (show Kd.M (Kd.int .u8) _ _ _ 0 [.int .u8 0] from rfl) (Reps.one (show Kd.M (Kd.int .u8) _ _ _ 0 [.int .u8 0] from rfl) (Reps.none _ _)))))); intro v209 w29 ho30 hb hg_ hnew_; clear hg_ hnew_; (first | rw [← Ny208.out] at ho30 | (simp only [Int.reduceToNat] at ho30; rw [← Ny208.out] at ho30)); have n0_ := Aside0.mk (Kd.R_lower ho30 (below_size (by repeat (first | (with_reducible first | exact HB.out | apply below_alloc | apply pw_below_drewN | apply below_drew1 | refine below_set ?_ GE207.out) | exact HB.out)))); have n1_ := Aside0.mk (blk_below (g := gb207) (o := .cells #[.int .i64 a0_0, .bool false, .slice A0_2 l0_2.length c0_2] 24 (0, 0)) (by (with_reducible repeat (first | refine blk_drewN ?_ _ | refine blk_drew ?_ | refine blk_alloc ?_ _)); exact BK207.out) hb); have n2_ := Aside0.mk (below_step (by repeat (first | (with_reducible first | exact HB.out | apply below_alloc | apply pw_below_drewN | apply below_drew1 | refine below_set ?_ GE207.out) | exact HB.out)) hb); clear BK207; clear HB; have HO210 := n0_; have BK207 := n1_; have HB := n2_; clear n0_ n1_ n2_; clear hb ho30; have hcz31_0 : w29.cell? ⟨gb207, 0, none⟩ = some (.int .i64 a0_0) := (blk_cell BK207.out 0).trans rfl; have hcz31_1 : w29.cell? ⟨gb207, 1, none⟩ = some (.bool false) := (blk_cell BK207.out 1).trans rfl; have hcz31_2 : w29.cell? ⟨gb207, 2, none⟩ = some (.slice A0_2 l0_2.length c0_2) := (blk_cell BK207.out 2).trans rfl; have hfz31_0 := blk_frozen BK207.out 0; have hfz31_1 := blk_frozen BK207.out 1; have hfz31_2 := blk_frozen BK207.out 2))
            go_loopg [4, 5] kj4 (fun kq v4 v5 w' => ∃ (x4_2 : List Int) (x5_2 : Int), v5 = .int .i64 x5_2 ∧ Aside0 (octroiref05_Encode.l0 kq x4_2 x5_2 a0_0 false l0_2 = some (r1, r2)) ∧ Aside0 (kq ≤ kj4) ∧ Aside0 (Kd.R (Kd.int .u8) 5 w' w.heap.size (fun _ => True) v4 x4_2) ∧ Aside0 (w'.heap[gb207]? = some (.cells #[.int .i64 a0_0, .bool false, (.slice A0_2 l0_2.length c0_2)] 24 (0, 0))) ∧ Aside0 (Below w.heap.size w w'))
            case atStart => exact ⟨(y208), (0), (by first | rfl | (simp; done) | (simp [*]; done)), H', ⟨Nat.le_refl _⟩, ⟨by (with_reducible repeat (first | apply Kd.R_alloc | apply Kd.R_drewN | apply Kd.R_drew)); exact HO210.out⟩, ⟨by (with_reducible repeat (first | refine blk_drewN ?_ _ | refine blk_drew ?_ | refine blk_alloc ?_ _)); exact BK207.out⟩, ⟨by repeat (first | (with_reducible first | exact HB.out | apply below_alloc | apply pw_below_drewN | apply below_drew1 | refine below_set ?_ GE207.out) | exact HB.out)⟩⟩
            case round =>
              clear H'
              try clear c1
              try clear c2
              try clear c2b0
              try clear c2b1
              try clear p2
              try clear c8
              try clear c8b0
              try clear c8b1
              try clear c9
              try clear c12
              try clear c12b0
              try clear c12b1
              try clear c13
              try clear c17
              try clear c18
              try clear c20
              try clear c21
              try clear hcz10_0
              try clear hcz10_1
              try clear hcz10_2
              try clear hcz11_0
              try clear hcz11_1
              try clear hcz11_2
              try clear hcz14_0
              try clear hcz14_1
              try clear hcz14_2
              try clear hcz15_0
              try clear hcz15_1
              try clear hcz15_2
              try clear hcz16_0
              try clear hcz16_1
              try clear hcz16_2
              try clear hcz21_0
              try clear hcz21_1
              try clear hcz21_2
              try clear hcz24_0
              try clear hcz24_1
              try clear hcz24_2
              try clear hcz28_0
              try clear hcz28_1
              try clear hcz28_2
              try clear hcz31_0
              try clear hcz31_1
              try clear hcz31_2
              try clear hcz4_0
              try clear hcz4_1
              try clear hcz4_2
              try clear hcz7_0
              try clear hcz7_1
              try clear hcz7_2
              try clear hfz10_0
              try clear hfz10_1
              try clear hfz10_2
              try clear hfz11_0
              try clear hfz11_1
              try clear hfz11_2
              try clear hfz14_0
              try clear hfz14_1
              try clear hfz14_2
              try clear hfz15_0
              try clear hfz15_1
              try clear hfz15_2
              try clear hfz16_0
              try clear hfz16_1
              try clear hfz16_2
              try clear hfz21_0
              try clear hfz21_1
              try clear hfz21_2
              try clear hfz24_0
              try clear hfz24_1
              try clear hfz24_2
              try clear hfz28_0
              try clear hfz28_1
              try clear hfz28_2
              try clear hfz31_0
              try clear hfz31_1
              try clear hfz31_2
              try clear hfz4_0
              try clear hfz4_1
              try clear hfz4_2
              try clear hfz7_0
              try clear hfz7_1
              try clear hfz7_2
              try clear p2
              obtain ⟨x4_2, x5_2, rfl, HA, HK2, HO_4, BK207, HB⟩ := hrel
              cases gk with
              | zero => exact absurd HA.out (by simp [octroiref05_Encode.l0])
              | succ k2 =>
                have H := HA.out
                clear HA
                simp only [octroiref05_Encode.l0] at H
                by_cases c32 : x5_2 < (l0_2.length : Int)
                · rw [if_pos c32] at H
                  have c32b0 : decide (x5_2 < (l0_2.length : Int)) = true := decide_eq_true c32
                  clear c32
                  by_cases c33 : 0 ≤ x5_2
                  · rw [if_pos c33] at H
                    have c33b0 : decide (0 ≤ x5_2) = true := decide_eq_true c33
                    clear c33
                    replace H := Option.bind_eq_some_iff.mp H
                    obtain ⟨t219, A340, H⟩ := H
                    replace H : (if t219 = true then ((some (([0, 2] : List Int) : List Int)).bind fun y220 => (if x4_2.length + y220.length < 140737488355328 then ((some (x4_2 ++ y220 : List Int)).bind fun y223 => ((octroiref01_Put.f k2 (((rd_T41 l0_2 x5_2).f1) % 4294967296) 2).bind fun t226 => (if y223.length + t226.length < 140737488355328 then ((some (y223 ++ t226 : List Int)).bind fun y229 => ((octroiref01_Put.f k2 ((rd_T41 l0_2 x5_2).f0.f0) 4).bind fun t232 => (if y229.length + t232.length < 140737488355328 then ((some (y229 ++ t232 : List Int)).bind fun y235 => ((octroiref02_Mask.f k2 ((rd_T41 l0_2 x5_2).f0.f1)).bind fun t238 => ((octroiref01_Put.f k2 t238 4).bind fun t239 => (if y235.length + t239.length < 140737488355328 then ((some (y235 ++ t239 : List Int)).bind fun y242 => ((octroiref01_Put.f k2 ((rd_T41 l0_2 x5_2).f2) 4).bind fun t245 => (if y242.length + t245.length < 140737488355328 then ((some (y242 ++ t245 : List Int)).bind fun y248 => ((octroiref01_Put.f k2 (((rd_T41 l0_2 x5_2).f3) % 4294967296) 4).bind fun t251 => (if y248.length + t251.length < 140737488355328 then (octroiref05_Encode.l0 k2 (y248 ++ t251) (wrap64 (x5_2 + 1)) a0_0 false l0_2) else (none)))) else (none)))) else (none))))) else (none)))) else (none)))) else (none))) else (some (([] : List Int), 1))) = some (r1, r2) := H
                    have A34 := Aside0.mk A340
                    clear A340
                    by_cases c35 : t219 = true
                    · subst c35
                      have H1 : ((some (([0, 2] : List Int) : List Int)).bind fun y220 => (if x4_2.length + y220.length < 140737488355328 then ((some (x4_2 ++ y220 : List Int)).bind fun y223 => ((octroiref01_Put.f k2 (((rd_T41 l0_2 x5_2).f1) % 4294967296) 2).bind fun t226 => (if y223.length + t226.length < 140737488355328 then ((some (y223 ++ t226 : List Int)).bind fun y229 => ((octroiref01_Put.f k2 ((rd_T41 l0_2 x5_2).f0.f0) 4).bind fun t232 => (if y229.length + t232.length < 140737488355328 then ((some (y229 ++ t232 : List Int)).bind fun y235 => ((octroiref02_Mask.f k2 ((rd_T41 l0_2 x5_2).f0.f1)).bind fun t238 => ((octroiref01_Put.f k2 t238 4).bind fun t239 => (if y235.length + t239.length < 140737488355328 then ((some (y235 ++ t239 : List Int)).bind fun y242 => ((octroiref01_Put.f k2 ((rd_T41 l0_2 x5_2).f2) 4).bind fun t245 => (if y242.length + t245.length < 140737488355328 then ((some (y242 ++ t245 : List Int)).bind fun y248 => ((octroiref01_Put.f k2 (((rd_T41 l0_2 x5_2).f3) % 4294967296) 4).bind fun t251 => (if y248.length + t251.length < 140737488355328 then (octroiref05_Encode.l0 k2 (y248 ++ t251) (wrap64 (x5_2 + 1)) a0_0 false l0_2) else (none)))) else (none)))) else (none))))) else (none)))) else (none)))) else (none))) = some (r1, r2) := by rw [if_pos rfl] at H; exact H
                      clear H
                      have H := H1
                      clear H1
                      obtain ⟨y220, hy220⟩ : ∃ y_ : List Int, y_ = (([0, 2] : List Int)) := ⟨_, rfl⟩
                      replace H : (if x4_2.length + y220.length < 140737488355328 then ((some (x4_2 ++ y220 : List Int)).bind fun y223 => ((octroiref01_Put.f k2 (((rd_T41 l0_2 x5_2).f1) % 4294967296) 2).bind fun t226 => (if y223.length + t226.length < 140737488355328 then ((some (y223 ++ t226 : List Int)).bind fun y229 => ((octroiref01_Put.f k2 ((rd_T41 l0_2 x5_2).f0.f0) 4).bind fun t232 => (if y229.length + t232.length < 140737488355328 then ((some (y229 ++ t232 : List Int)).bind fun y235 => ((octroiref02_Mask.f k2 ((rd_T41 l0_2 x5_2).f0.f1)).bind fun t238 => ((octroiref01_Put.f k2 t238 4).bind fun t239 => (if y235.length + t239.length < 140737488355328 then ((some (y235 ++ t239 : List Int)).bind fun y242 => ((octroiref01_Put.f k2 ((rd_T41 l0_2 x5_2).f2) 4).bind fun t245 => (if y242.length + t245.length < 140737488355328 then ((some (y242 ++ t245 : List Int)).bind fun y248 => ((octroiref01_Put.f k2 (((rd_T41 l0_2 x5_2).f3) % 4294967296) 4).bind fun t251 => (if y248.length + t251.length < 140737488355328 then (octroiref05_Encode.l0 k2 (y248 ++ t251) (wrap64 (x5_2 + 1)) a0_0 false l0_2) else (none)))) else (none)))) else (none))))) else (none)))) else (none)))) else (none)) = some (r1, r2) := by first | (rw [hy220]; with_reducible exact H) | (have H2_ := (Option.bind_some _ _).symm.trans H; rw [hy220]; with_reducible exact H2_) | (have H2_ := (Option.bind_some _ _).symm.trans H; with_reducible exact H2_) | with_reducible exact H | (rw [hy220]; exact H) | exact H
                      have Ny220 := Aside0.mk hy220
                      clear hy220
                      by_cases c36 : x4_2.length + y220.length < 140737488355328
                      · rw [if_pos c36] at H
                        have LMc36 := Aside0.mk c36
                        clear c36
                        obtain ⟨y223, hy223⟩ : ∃ y_ : List Int, y_ = (x4_2 ++ y220) := ⟨_, rfl⟩
                        replace H : ((octroiref01_Put.f k2 (((rd_T41 l0_2 x5_2).f1) % 4294967296) 2).bind fun t226 => (if y223.length + t226.length < 140737488355328 then ((some (y223 ++ t226 : List Int)).bind fun y229 => ((octroiref01_Put.f k2 ((rd_T41 l0_2 x5_2).f0.f0) 4).bind fun t232 => (if y229.length + t232.length < 140737488355328 then ((some (y229 ++ t232 : List Int)).bind fun y235 => ((octroiref02_Mask.f k2 ((rd_T41 l0_2 x5_2).f0.f1)).bind fun t238 => ((octroiref01_Put.f k2 t238 4).bind fun t239 => (if y235.length + t239.length < 140737488355328 then ((some (y235 ++ t239 : List Int)).bind fun y242 => ((octroiref01_Put.f k2 ((rd_T41 l0_2 x5_2).f2) 4).bind fun t245 => (if y242.length + t245.length < 140737488355328 then ((some (y242 ++ t245 : List Int)).bind fun y248 => ((octroiref01_Put.f k2 (((rd_T41 l0_2 x5_2).f3) % 4294967296) 4).bind fun t251 => (if y248.length + t251.length < 140737488355328 then (octroiref05_Encode.l0 k2 (y248 ++ t251) (wrap64 (x5_2 + 1)) a0_0 false l0_2) else (none)))) else (none)))) else (none))))) else (none)))) else (none))) = some (r1, r2) := by first | (rw [hy223]; with_reducible exact H) | (have H2_ := (Option.bind_some _ _).symm.trans H; rw [hy223]; with_reducible exact H2_) | (have H2_ := (Option.bind_some _ _).symm.trans H; with_reducible exact H2_) | with_reducible exact H | (rw [hy223]; exact H) | exact H
                        have Ny223 := Aside0.mk hy223
                        clear hy223
                        replace H := Option.bind_eq_some_iff.mp H
                        obtain ⟨t226, A370, H⟩ := H
                        replace H : (if y223.length + t226.length < 140737488355328 then ((some (y223 ++ t226 : List Int)).bind fun y229 => ((octroiref01_Put.f k2 ((rd_T41 l0_2 x5_2).f0.f0) 4).bind fun t232 => (if y229.length + t232.length < 140737488355328 then ((some (y229 ++ t232 : List Int)).bind fun y235 => ((octroiref02_Mask.f k2 ((rd_T41 l0_2 x5_2).f0.f1)).bind fun t238 => ((octroiref01_Put.f k2 t238 4).bind fun t239 => (if y235.length + t239.length < 140737488355328 then ((some (y235 ++ t239 : List Int)).bind fun y242 => ((octroiref01_Put.f k2 ((rd_T41 l0_2 x5_2).f2) 4).bind fun t245 => (if y242.length + t245.length < 140737488355328 then ((some (y242 ++ t245 : List Int)).bind fun y248 => ((octroiref01_Put.f k2 (((rd_T41 l0_2 x5_2).f3) % 4294967296) 4).bind fun t251 => (if y248.length + t251.length < 140737488355328 then (octroiref05_Encode.l0 k2 (y248 ++ t251) (wrap64 (x5_2 + 1)) a0_0 false l0_2) else (none)))) else (none)))) else (none))))) else (none)))) else (none)) = some (r1, r2) := H
                        have A37 := Aside0.mk A370
                        clear A370
                        by_cases c38 : y223.length + t226.length < 140737488355328
                        · rw [if_pos c38] at H
                          have LMc38 := Aside0.mk c38
                          clear c38
                          obtain ⟨y229, hy229⟩ : ∃ y_ : List Int, y_ = (y223 ++ t226) := ⟨_, rfl⟩
                          replace H : ((octroiref01_Put.f k2 ((rd_T41 l0_2 x5_2).f0.f0) 4).bind fun t232 => (if y229.length + t232.length < 140737488355328 then ((some (y229 ++ t232 : List Int)).bind fun y235 => ((octroiref02_Mask.f k2 ((rd_T41 l0_2 x5_2).f0.f1)).bind fun t238 => ((octroiref01_Put.f k2 t238 4).bind fun t239 => (if y235.length + t239.length < 140737488355328 then ((some (y235 ++ t239 : List Int)).bind fun y242 => ((octroiref01_Put.f k2 ((rd_T41 l0_2 x5_2).f2) 4).bind fun t245 => (if y242.length + t245.length < 140737488355328 then ((some (y242 ++ t245 : List Int)).bind fun y248 => ((octroiref01_Put.f k2 (((rd_T41 l0_2 x5_2).f3) % 4294967296) 4).bind fun t251 => (if y248.length + t251.length < 140737488355328 then (octroiref05_Encode.l0 k2 (y248 ++ t251) (wrap64 (x5_2 + 1)) a0_0 false l0_2) else (none)))) else (none)))) else (none))))) else (none))) = some (r1, r2) := by first | (rw [hy229]; with_reducible exact H) | (have H2_ := (Option.bind_some _ _).symm.trans H; rw [hy229]; with_reducible exact H2_) | (have H2_ := (Option.bind_some _ _).symm.trans H; with_reducible exact H2_) | with_reducible exact H | (rw [hy229]; exact H) | exact H
                          have Ny229 := Aside0.mk hy229
                          clear hy229
                          replace H := Option.bind_eq_some_iff.mp H
                          obtain ⟨t232, A390, H⟩ := H
                          replace H : (if y229.length + t232.length < 140737488355328 then ((some (y229 ++ t232 : List Int)).bind fun y235 => ((octroiref02_Mask.f k2 ((rd_T41 l0_2 x5_2).f0.f1)).bind fun t238 => ((octroiref01_Put.f k2 t238 4).bind fun t239 => (if y235.length + t239.length < 140737488355328 then ((some (y235 ++ t239 : List Int)).bind fun y242 => ((octroiref01_Put.f k2 ((rd_T41 l0_2 x5_2).f2) 4).bind fun t245 => (if y242.length + t245.length < 140737488355328 then ((some (y242 ++ t245 : List Int)).bind fun y248 => ((octroiref01_Put.f k2 (((rd_T41 l0_2 x5_2).f3) % 4294967296) 4).bind fun t251 => (if y248.length + t251.length < 140737488355328 then (octroiref05_Encode.l0 k2 (y248 ++ t251) (wrap64 (x5_2 + 1)) a0_0 false l0_2) else (none)))) else (none)))) else (none))))) else (none)) = some (r1, r2) := H
                          have A39 := Aside0.mk A390
                          clear A390
                          by_cases c40 : y229.length + t232.length < 140737488355328
                          · rw [if_pos c40] at H
                            have LMc40 := Aside0.mk c40
                            clear c40
                            obtain ⟨y235, hy235⟩ : ∃ y_ : List Int, y_ = (y229 ++ t232) := ⟨_, rfl⟩
                            replace H : ((octroiref02_Mask.f k2 ((rd_T41 l0_2 x5_2).f0.f1)).bind fun t238 => ((octroiref01_Put.f k2 t238 4).bind fun t239 => (if y235.length + t239.length < 140737488355328 then ((some (y235 ++ t239 : List Int)).bind fun y242 => ((octroiref01_Put.f k2 ((rd_T41 l0_2 x5_2).f2) 4).bind fun t245 => (if y242.length + t245.length < 140737488355328 then ((some (y242 ++ t245 : List Int)).bind fun y248 => ((octroiref01_Put.f k2 (((rd_T41 l0_2 x5_2).f3) % 4294967296) 4).bind fun t251 => (if y248.length + t251.length < 140737488355328 then (octroiref05_Encode.l0 k2 (y248 ++ t251) (wrap64 (x5_2 + 1)) a0_0 false l0_2) else (none)))) else (none)))) else (none)))) = some (r1, r2) := by first | (rw [hy235]; with_reducible exact H) | (have H2_ := (Option.bind_some _ _).symm.trans H; rw [hy235]; with_reducible exact H2_) | (have H2_ := (Option.bind_some _ _).symm.trans H; with_reducible exact H2_) | with_reducible exact H | (rw [hy235]; exact H) | exact H
                            have Ny235 := Aside0.mk hy235
                            clear hy235
                            replace H := Option.bind_eq_some_iff.mp H
                            obtain ⟨t238, A410, H⟩ := H
                            replace H : ((octroiref01_Put.f k2 t238 4).bind fun t239 => (if y235.length + t239.length < 140737488355328 then ((some (y235 ++ t239 : List Int)).bind fun y242 => ((octroiref01_Put.f k2 ((rd_T41 l0_2 x5_2).f2) 4).bind fun t245 => (if y242.length + t245.length < 140737488355328 then ((some (y242 ++ t245 : List Int)).bind fun y248 => ((octroiref01_Put.f k2 (((rd_T41 l0_2 x5_2).f3) % 4294967296) 4).bind fun t251 => (if y248.length + t251.length < 140737488355328 then (octroiref05_Encode.l0 k2 (y248 ++ t251) (wrap64 (x5_2 + 1)) a0_0 false l0_2) else (none)))) else (none)))) else (none))) = some (r1, r2) := H
                            have A41 := Aside0.mk A410
                            clear A410
                            replace H := Option.bind_eq_some_iff.mp H
                            obtain ⟨t239, A420, H⟩ := H
                            replace H : (if y235.length + t239.length < 140737488355328 then ((some (y235 ++ t239 : List Int)).bind fun y242 => ((octroiref01_Put.f k2 ((rd_T41 l0_2 x5_2).f2) 4).bind fun t245 => (if y242.length + t245.length < 140737488355328 then ((some (y242 ++ t245 : List Int)).bind fun y248 => ((octroiref01_Put.f k2 (((rd_T41 l0_2 x5_2).f3) % 4294967296) 4).bind fun t251 => (if y248.length + t251.length < 140737488355328 then (octroiref05_Encode.l0 k2 (y248 ++ t251) (wrap64 (x5_2 + 1)) a0_0 false l0_2) else (none)))) else (none)))) else (none)) = some (r1, r2) := H
                            have A42 := Aside0.mk A420
                            clear A420
                            by_cases c43 : y235.length + t239.length < 140737488355328
                            · rw [if_pos c43] at H
                              have LMc43 := Aside0.mk c43
                              clear c43
                              obtain ⟨y242, hy242⟩ : ∃ y_ : List Int, y_ = (y235 ++ t239) := ⟨_, rfl⟩
                              replace H : ((octroiref01_Put.f k2 ((rd_T41 l0_2 x5_2).f2) 4).bind fun t245 => (if y242.length + t245.length < 140737488355328 then ((some (y242 ++ t245 : List Int)).bind fun y248 => ((octroiref01_Put.f k2 (((rd_T41 l0_2 x5_2).f3) % 4294967296) 4).bind fun t251 => (if y248.length + t251.length < 140737488355328 then (octroiref05_Encode.l0 k2 (y248 ++ t251) (wrap64 (x5_2 + 1)) a0_0 false l0_2) else (none)))) else (none))) = some (r1, r2) := by first | (rw [hy242]; with_reducible exact H) | (have H2_ := (Option.bind_some _ _).symm.trans H; rw [hy242]; with_reducible exact H2_) | (have H2_ := (Option.bind_some _ _).symm.trans H; with_reducible exact H2_) | with_reducible exact H | (rw [hy242]; exact H) | exact H
                              have Ny242 := Aside0.mk hy242
                              clear hy242
                              replace H := Option.bind_eq_some_iff.mp H
                              obtain ⟨t245, A440, H⟩ := H
                              replace H : (if y242.length + t245.length < 140737488355328 then ((some (y242 ++ t245 : List Int)).bind fun y248 => ((octroiref01_Put.f k2 (((rd_T41 l0_2 x5_2).f3) % 4294967296) 4).bind fun t251 => (if y248.length + t251.length < 140737488355328 then (octroiref05_Encode.l0 k2 (y248 ++ t251) (wrap64 (x5_2 + 1)) a0_0 false l0_2) else (none)))) else (none)) = some (r1, r2) := H
                              have A44 := Aside0.mk A440
                              clear A440
                              by_cases c45 : y242.length + t245.length < 140737488355328
                              · rw [if_pos c45] at H
                                have LMc45 := Aside0.mk c45
                                clear c45
                                obtain ⟨y248, hy248⟩ : ∃ y_ : List Int, y_ = (y242 ++ t245) := ⟨_, rfl⟩
                                replace H : ((octroiref01_Put.f k2 (((rd_T41 l0_2 x5_2).f3) % 4294967296) 4).bind fun t251 => (if y248.length + t251.length < 140737488355328 then (octroiref05_Encode.l0 k2 (y248 ++ t251) (wrap64 (x5_2 + 1)) a0_0 false l0_2) else (none))) = some (r1, r2) := by first | (rw [hy248]; with_reducible exact H) | (have H2_ := (Option.bind_some _ _).symm.trans H; rw [hy248]; with_reducible exact H2_) | (have H2_ := (Option.bind_some _ _).symm.trans H; with_reducible exact H2_) | with_reducible exact H | (rw [hy248]; exact H) | exact H
                                have Ny248 := Aside0.mk hy248
                                clear hy248
                                replace H := Option.bind_eq_some_iff.mp H
                                obtain ⟨t251, A460, H⟩ := H
                                replace H : (if y248.length + t251.length < 140737488355328 then (octroiref05_Encode.l0 k2 (y248 ++ t251) (wrap64 (x5_2 + 1)) a0_0 false l0_2) else (none)) = some (r1, r2) := H
                                have A46 := Aside0.mk A460
                                clear A460
                                by_cases c47 : y248.length + t251.length < 140737488355328
                                · rw [if_pos c47] at H
                                  have LMc47 := Aside0.mk c47
                                  clear c47
                                  obtain ⟨y254, hy254⟩ : ∃ y_ : List Int, y_ = (y248 ++ t251) := ⟨_, rfl⟩
                                  replace H : (octroiref05_Encode.l0 k2 y254 (wrap64 (x5_2 + 1)) a0_0 false l0_2) = some (r1, r2) := by first | (rw [hy254]; with_reducible exact H) | (have H2_ := (Option.bind_some _ _).symm.trans H; rw [hy254]; with_reducible exact H2_) | (have H2_ := (Option.bind_some _ _).symm.trans H; with_reducible exact H2_) | with_reducible exact H | (rw [hy254]; exact H) | exact H
                                  have Ny254 := Aside0.mk hy254
                                  clear hy254
                                  have H' := Aside0.mk H
                                  clear H
                                  have hcz48_0 : wr.cell? ⟨gb207, 0, none⟩ = some (.int .i64 a0_0) := (blk_cell BK207.out 0).trans rfl
                                  have hcz48_1 : wr.cell? ⟨gb207, 1, none⟩ = some (.bool false) := (blk_cell BK207.out 1).trans rfl
                                  have hcz48_2 : wr.cell? ⟨gb207, 2, none⟩ = some (.slice A0_2 l0_2.length c0_2) := (blk_cell BK207.out 2).trans rfl
                                  have hfz48_0 := blk_frozen BK207.out 0
                                  have hfz48_1 := blk_frozen BK207.out 1
                                  have hfz48_2 := blk_frozen BK207.out 2
                                  have p217 : 0 ≤ (x5_2 : Int) := of_decide_eq_true (by first | (with_reducible assumption) | assumption)
                                  have q217 : x5_2 < (l0_2.length : Int) := of_decide_eq_true (by first | (with_reducible assumption) | assumption)
                                  obtain ⟨ad217, e217, hx217_0, hx217_1, hx217_2, hx217_3, hx217_4⟩ := at_T41 HR0_2.out x5_2 p217 q217
                                  cases e217
                                  replace hx217_0 := (HB.out.cell (World.block_lt_of_cell? w _ hx217_0)).trans hx217_0
                                  replace hx217_1 := (HB.out.cell (World.block_lt_of_cell? w _ hx217_1)).trans hx217_1
                                  replace hx217_2 := (HB.out.cell (World.block_lt_of_cell? w _ hx217_2)).trans hx217_2
                                  replace hx217_3 := (HB.out.cell (World.block_lt_of_cell? w _ hx217_3)).trans hx217_3
                                  replace hx217_4 := (HB.out.cell (World.block_lt_of_cell? w _ hx217_4)).trans hx217_4
                                  replace p217 := eq_true p217
                                  replace q217 := eq_true q217
                                  go_wp2_with (first | ((with_reducible refine gate_dst (N := 6) rfl ?_); (try (refine gate_guard (by rfl) ?_; dsimp only)); refine box_event ?hg (N := 6) ?hd (cs := #[.int .u32 0, .int .i64 0, .int .u16 0, .int .u32 0, .int .i64 0]) (t := 41) ?hr ?_; (case hd => rfl); (case hg => rfl); (case hr => first | (go_simp; done) | (go_simp; rfl)); intro gb218 hg w49 hbox hb; have n0_ := Aside0.mk (Kd.R_below (by (with_reducible repeat (first | apply Kd.R_alloc | apply Kd.R_drewN | apply Kd.R_drew)); exact HO_4.out) hb); have n1_ := Aside0.mk (blk_below (g := gb207) (o := .cells #[.int .i64 a0_0, .bool false, .slice (some ad217) l0_2.length c0_2] 24 (0, 0)) (by (with_reducible repeat (first | refine blk_drewN ?_ _ | refine blk_drew ?_ | refine blk_alloc ?_ _)); exact BK207.out) hb); have n2_ := Aside0.mk (below_step (by repeat (first | (with_reducible first | exact HB.out | apply below_alloc | apply pw_below_drewN | apply below_drew1 | refine below_set ?_ GE207.out) | exact HB.out)) hb); have n3_ := Aside0.mk (hbox); have n4_ := Aside0.mk ((by rw [hg]; exact (below_size (by repeat (first | (with_reducible first | exact HB.out | apply below_alloc | apply pw_below_drewN | apply below_drew1 | refine below_set ?_ GE207.out) | exact HB.out))) : w.heap.size ≤ gb218)); have n5_ := Aside0.mk ((by rw [hg]; exact (below_size (by repeat (first | (with_reducible first | exact HB.out | apply below_alloc | apply pw_below_drewN | apply below_drew1 | refine below_set ?_ GE207.out) | exact HB.out))) : w.heap.size ≤ gb218)); have n6_ := Aside0.mk ((by rw [hg]; exact Nat.ne_of_lt (blk_lt (g := gb207) (o := .cells #[.int .i64 a0_0, .bool false, .slice (some ad217) l0_2.length c0_2] 24 (0, 0)) (by (with_reducible repeat (first | refine blk_drewN ?_ _ | refine blk_drew ?_ | refine blk_alloc ?_ _)); exact BK207.out)) : gb207 ≠ gb218)); have n7_ := Aside0.mk ((by rw [hg]; exact Nat.ne_of_gt (blk_lt (g := gb207) (o := .cells #[.int .i64 a0_0, .bool false, .slice (some ad217) l0_2.length c0_2] 24 (0, 0)) (by (with_reducible repeat (first | refine blk_drewN ?_ _ | refine blk_drew ?_ | refine blk_alloc ?_ _)); exact BK207.out)) : gb218 ≠ gb207)); clear HO_4; clear BK207; clear HB; have HO_4 := n0_; have BK207 := n1_; have HB := n2_; have BK218 := n3_; have GW218 := n4_; have GE218 := n5_; have NB207_218 := n6_; have NB218_207 := n7_; clear n0_ n1_ n2_ n3_ n4_ n5_ n6_ n7_; clear hb hbox hg; have hnb50 := NB218_207.out; have hnc50 := NB207_218.out; have hcz51_0 : w49.cell? ⟨gb218, 0, none⟩ = some (.int .u32 0) := (blk_cell BK218.out 0).trans rfl; have hcz51_1 : w49.cell? ⟨gb218, 1, none⟩ = some (.int .i64 0) := (blk_cell BK218.out 1).trans rfl; have hcz51_2 : w49.cell? ⟨gb218, 2, none⟩ = some (.int .u16 0) := (blk_cell BK218.out 2).trans rfl; have hcz51_3 : w49.cell? ⟨gb218, 3, none⟩ = some (.int .u32 0) := (blk_cell BK218.out 3).trans rfl; have hcz51_4 : w49.cell? ⟨gb218, 4, none⟩ = some (.int .i64 0) := (blk_cell BK218.out 4).trans rfl; have hfz51_0 := blk_frozen BK218.out 0; have hfz51_1 := blk_frozen BK218.out 1; have hfz51_2 := blk_frozen BK218.out 2; have hfz51_3 := blk_frozen BK218.out 3; have hfz51_4 := blk_frozen BK218.out 4) | ((with_reducible refine gate_callee (f := 22) rfl ?_); refine goesL_ (some 57) rfl rfl Try.func22 (by kernel_rfl) rfl #[.agg #[.int .u32 ((rd_T41 l0_2 x5_2).f0.f0), .int .i64 ((rd_T41 l0_2 x5_2).f0.f1), .int .u16 ((rd_T41 l0_2 x5_2).f1), .int .u32 ((rd_T41 l0_2 x5_2).f2), .int .i64 ((rd_T41 l0_2 x5_2).f3)]] rfl (by (try simp only [List.map_toArray, List.map_cons, List.map_nil]); first | done | rfl | (simp only [List.length_drop, List.length_take]; rfl)) ?_; (with_reducible refine (octroiref05_entry.calls k2 ((rd_T41 l0_2 x5_2).f0.f0) ((rd_T41 l0_2 x5_2).f0.f1) ((rd_T41 l0_2 x5_2).f1) ((rd_T41 l0_2 x5_2).f2) ((rd_T41 l0_2 x5_2).f3) true _ A34.out).mono ?_); rintro e w52 ⟨rfl, hb⟩; refine ⟨_, rfl, ?_⟩; have n0_ := Aside0.mk (Kd.R_below (by (with_reducible repeat (first | apply Kd.R_alloc | apply Kd.R_drewN | apply Kd.R_drew)); exact (Kd.R_mono (Kd.R_far (p := ⟨gb218, 4, none⟩) (Kd.R_far (p := ⟨gb218, 3, none⟩) (Kd.R_far (p := ⟨gb218, 2, none⟩) (Kd.R_far (p := ⟨gb218, 1, none⟩) (Kd.R_far (p := ⟨gb218, 0, none⟩) (Kd.R_types HO_4.out BK218.out (by decide)) (fun _ hk => hk.2) (.int .u32 ((rd_T41 l0_2 x5_2).f0.f0))) (fun _ hk => hk.2) (.int .i64 ((rd_T41 l0_2 x5_2).f0.f1))) (fun _ hk => hk.2) (.int .u16 ((rd_T41 l0_2 x5_2).f1))) (fun _ hk => hk.2) (.int .u32 ((rd_T41 l0_2 x5_2).f2))) (fun _ hk => hk.2) (.int .i64 ((rd_T41 l0_2 x5_2).f3))) (fun _ h_ => h_.1))) hb); have n1_ := Aside0.mk (blk_below (g := gb207) (o := .cells #[.int .i64 a0_0, .bool false, .slice (some ad217) l0_2.length c0_2] 24 (0, 0)) (by (with_reducible repeat (first | refine blk_drewN ?_ _ | refine blk_drew ?_ | refine blk_alloc ?_ _)); refine blk_far ?_ NB207_218.out _; (with_reducible repeat (first | refine blk_drewN ?_ _ | refine blk_drew ?_ | refine blk_alloc ?_ _)); refine blk_far ?_ NB207_218.out _; (with_reducible repeat (first | refine blk_drewN ?_ _ | refine blk_drew ?_ | refine blk_alloc ?_ _)); refine blk_far ?_ NB207_218.out _; (with_reducible repeat (first | refine blk_drewN ?_ _ | refine blk_drew ?_ | refine blk_alloc ?_ _)); refine blk_far ?_ NB207_218.out _; (with_reducible repeat (first | refine blk_drewN ?_ _ | refine blk_drew ?_ | refine blk_alloc ?_ _)); refine blk_far ?_ NB207_218.out _; (with_reducible repeat (first | refine blk_drewN ?_ _ | refine blk_drew ?_ | refine blk_alloc ?_ _)); exact BK207.out) hb); have n2_ := Aside0.mk (blk_below (g := gb218) (o := .cells #[.int .u32 ((rd_T41 l0_2 x5_2).f0.f0), .int .i64 ((rd_T41 l0_2 x5_2).f0.f1), .int .u16 ((rd_T41 l0_2 x5_2).f1), .int .u32 ((rd_T41 l0_2 x5_2).f2), .int .i64 ((rd_T41 l0_2 x5_2).f3)] 41 (0, 0)) (by (with_reducible repeat (first | refine blk_drewN ?_ _ | refine blk_drew ?_ | refine blk_alloc ?_ _)); refine blk_put (cs := #[.int .u32 ((rd_T41 l0_2 x5_2).f0.f0), .int .i64 ((rd_T41 l0_2 x5_2).f0.f1), .int .u16 ((rd_T41 l0_2 x5_2).f1), .int .u32 ((rd_T41 l0_2 x5_2).f2), .int .i64 0]) ?_ 4 _ rfl; (with_reducible repeat (first | refine blk_drewN ?_ _ | refine blk_drew ?_ | refine blk_alloc ?_ _)); refine blk_put (cs := #[.int .u32 ((rd_T41 l0_2 x5_2).f0.f0), .int .i64 ((rd_T41 l0_2 x5_2).f0.f1), .int .u16 ((rd_T41 l0_2 x5_2).f1), .int .u32 0, .int .i64 0]) ?_ 3 _ rfl; (with_reducible repeat (first | refine blk_drewN ?_ _ | refine blk_drew ?_ | refine blk_alloc ?_ _)); refine blk_put (cs := #[.int .u32 ((rd_T41 l0_2 x5_2).f0.f0), .int .i64 ((rd_T41 l0_2 x5_2).f0.f1), .int .u16 0, .int .u32 0, .int .i64 0]) ?_ 2 _ rfl; (with_reducible repeat (first | refine blk_drewN ?_ _ | refine blk_drew ?_ | refine blk_alloc ?_ _)); refine blk_put (cs := #[.int .u32 ((rd_T41 l0_2 x5_2).f0.f0), .int .i64 0, .int .u16 0, .int .u32 0, .int .i64 0]) ?_ 1 _ rfl; (with_reducible repeat (first | refine blk_drewN ?_ _ | refine blk_drew ?_ | refine blk_alloc ?_ _)); refine blk_put (cs := #[.int .u32 0, .int .i64 0, .int .u16 0, .int .u32 0, .int .i64 0]) ?_ 0 _ rfl; (with_reducible repeat (first | refine blk_drewN ?_ _ | refine blk_drew ?_ | refine blk_alloc ?_ _)); exact BK218.out) hb); have n3_ := Aside0.mk (below_step (by repeat (first | (with_reducible first | exact HB.out | apply below_alloc | apply pw_below_drewN | apply below_drew1 | refine below_set ?_ GE207.out | refine below_set ?_ GE218.out) | exact HB.out)) hb); clear HO_4; clear BK207; clear BK218; clear HB; have HO_4 := n0_; have BK207 := n1_; have BK218 := n2_; have HB := n3_; clear n0_ n1_ n2_ n3_; (try clear hb); (try clear hb2); (try clear hk); (try clear hi)) | ((with_reducible refine gate_dst (N := 61) rfl ?_); (try (refine gate_guard (by rfl) ?_; dsimp only)); refine Kd.R_lit (Kd.int .u8) _ 5 ?hg (N := 61) ?hd (xs := ([0, 2] : List Int)) (inner := [.int .u8 0, .int .u8 2]) (ok := fun _ => True) (okp := fun _ => True) ?hr ?hp (fun _ hk => hk) trivial (Below.refl _ _) (Nat.le_refl _) (by simp) ?_; (case hd => rfl); (case hg => rfl); (case hr => first | (go_simp; done) | (go_simp; rfl)); (case hp => exact (Reps.one (show Kd.M (Kd.int .u8) _ _ _ 0 [.int .u8 0] from rfl) (Reps.one (show Kd.M (Kd.int .u8) _ _ _ 2 [.int .u8 2] from rfl) (Reps.none _ _)))); intro v221 w53 ho54 hb hg_ hnew_; clear hg_ hnew_; (first | rw [← Ny220.out] at ho54 | (simp only [Int.reduceToNat] at ho54; rw [← Ny220.out] at ho54)); have n0_ := Aside0.mk (Kd.R_elder' (by (with_reducible repeat (first | apply Kd.R_alloc | apply Kd.R_drewN | apply Kd.R_drew)); exact HO_4.out) (Kd.R_base ho54) hb); have n1_ := Aside0.mk (Kd.R_lower (Kd.R_new' ho54 (Kd.R_lt (by (with_reducible repeat (first | apply Kd.R_alloc | apply Kd.R_drewN | apply Kd.R_drew)); exact HO_4.out))) (below_size (by repeat (first | (with_reducible first | exact HB.out | apply below_alloc | apply pw_below_drewN | apply below_drew1 | refine below_set ?_ GE207.out | refine below_set ?_ GE218.out) | exact HB.out)))); have n2_ := Aside0.mk (blk_below (g := gb207) (o := .cells #[.int .i64 a0_0, .bool false, .slice (some ad217) l0_2.length c0_2] 24 (0, 0)) (by (with_reducible repeat (first | refine blk_drewN ?_ _ | refine blk_drew ?_ | refine blk_alloc ?_ _)); exact BK207.out) hb); have n3_ := Aside0.mk (blk_below (g := gb218) (o := .cells #[.int .u32 ((rd_T41 l0_2 x5_2).f0.f0), .int .i64 ((rd_T41 l0_2 x5_2).f0.f1), .int .u16 ((rd_T41 l0_2 x5_2).f1), .int .u32 ((rd_T41 l0_2 x5_2).f2), .int .i64 ((rd_T41 l0_2 x5_2).f3)] 41 (0, 0)) (by (with_reducible repeat (first | refine blk_drewN ?_ _ | refine blk_drew ?_ | refine blk_alloc ?_ _)); exact BK218.out) hb); have n4_ := Aside0.mk (below_step (by repeat (first | (with_reducible first | exact HB.out | apply below_alloc | apply pw_below_drewN | apply below_drew1 | refine below_set ?_ GE207.out | refine below_set ?_ GE218.out) | exact HB.out)) hb); clear HO_4; clear BK207; clear BK218; clear HB; have HO_4 := n0_; have HO222 := n1_; have BK207 := n2_; have BK218 := n3_; have HB := n4_; clear n0_ n1_ n2_ n3_ n4_; clear hb ho54; obtain ⟨Ao56, co56, eo56⟩ := Kd.R_slice HO222.out; subst eo56) | ((with_reducible refine gate_builtin (b := .append) (xs := #[.tmp 60, .tmp 61]) rfl ?_); (try (refine gate_guard (by rfl) ?_; dsimp only)); at_builtin; refine Kd.R_append_rows (Kd.int .u8) (w0 := w) w.heap.size rfl (.tmp 60) (.tmp 61) 26 5 (.int .u8 0) 1 rfl Try.underlying26 info5 rfl (by decide) (by omega) u4 x4_2 y220 _ _ _ (fun k_ => some k_ ≠ (.slice Ao56 y220.length co56 : Value).ownBlock) (fun _ => False) rfl rfl ?aO ?aR (fun _ _ h => h) (fun _ h => h.elim) ?aF ?aB ?aS ?aL ?_; (case aR => repeat (first | exact (Kd.R_reads' HO222.out).2.2 | (with_reducible refine Kd.C_alloc ?_ _) | (with_reducible refine Kd.C_drewN ?_ _) | (with_reducible refine Kd.C_drew ?_))); (case aB => exact (by repeat (first | (with_reducible first | exact HB.out | apply below_alloc | apply pw_below_drewN | apply below_drew1 | refine below_set ?_ GE207.out | refine below_set ?_ GE218.out) | exact HB.out))); (case aF => exact (fun k_ hk => Kd.fresh' (Kd.R_lt (by (with_reducible repeat (first | apply Kd.R_alloc | apply Kd.R_drewN | apply Kd.R_drew)); exact HO222.out)) k_ hk)); (case aO => exact (by (with_reducible repeat (first | apply Kd.R_alloc | apply Kd.R_drewN | apply Kd.R_drew)); exact Kd.R_mono HO_4.out (fun _ hk => hk.2))); (case aS => exact (below_size (by repeat (first | (with_reducible first | exact HB.out | apply below_alloc | apply pw_below_drewN | apply below_drew1 | refine below_set ?_ GE207.out | refine below_set ?_ GE218.out) | exact HB.out)))); (case aL => have := LMc36.out; omega); intro v224 w55 ho hb hg hat; rw [← Ny223.out] at ho; have n0_ := Aside0.mk (blk_grown (g := gb207) (o := .cells #[.int .i64 a0_0, .bool false, .slice (some ad217) l0_2.length c0_2] 24 (0, 0)) (by (with_reducible repeat (first | refine blk_drewN ?_ _ | refine blk_drew ?_ | refine blk_alloc ?_ _)); exact BK207.out) hg (Kd.R_ne HO_4.out BK207.out (by decide))); have n1_ := Aside0.mk (blk_grown (g := gb218) (o := .cells #[.int .u32 ((rd_T41 l0_2 x5_2).f0.f0), .int .i64 ((rd_T41 l0_2 x5_2).f0.f1), .int .u16 ((rd_T41 l0_2 x5_2).f1), .int .u32 ((rd_T41 l0_2 x5_2).f2), .int .i64 ((rd_T41 l0_2 x5_2).f3)] 41 (0, 0)) (by (with_reducible repeat (first | refine blk_drewN ?_ _ | refine blk_drew ?_ | refine blk_alloc ?_ _)); exact BK218.out) hg (Kd.R_ne HO_4.out BK218.out (by decide))); have n2_ := Aside0.mk (Kd.R_after (ok := (fun _ => True)) (by (with_reducible repeat (first | apply Kd.R_alloc | apply Kd.R_drewN | apply Kd.R_drew)); exact HO222.out) hg hat); have n3_ := Aside0.mk (hb); have n4_ := Aside0.mk (ho); clear BK207; clear BK218; clear HO222; clear HB; clear HO_4; have BK207 := n0_; have BK218 := n1_; have HO222 := n2_; have HB := n3_; have HO225 := n4_; clear n0_ n1_ n2_ n3_ n4_; clear ho hb hg hat; have hcz57_0 : w55.cell? ⟨gb218, 0, none⟩ = some (.int .u32 ((rd_T41 l0_2 x5_2).f0.f0)) := (blk_cell BK218.out 0).trans rfl; have hcz57_1 : w55.cell? ⟨gb218, 1, none⟩ = some (.int .i64 ((rd_T41 l0_2 x5_2).f0.f1)) := (blk_cell BK218.out 1).trans rfl; have hcz57_2 : w55.cell? ⟨gb218, 2, none⟩ = some (.int .u16 ((rd_T41 l0_2 x5_2).f1)) := (blk_cell BK218.out 2).trans rfl; have hcz57_3 : w55.cell? ⟨gb218, 3, none⟩ = some (.int .u32 ((rd_T41 l0_2 x5_2).f2)) := (blk_cell BK218.out 3).trans rfl; have hcz57_4 : w55.cell? ⟨gb218, 4, none⟩ = some (.int .i64 ((rd_T41 l0_2 x5_2).f3)) := (blk_cell BK218.out 4).trans rfl; have hfz57_0 := blk_frozen BK218.out 0; have hfz57_1 := blk_frozen BK218.out 1; have hfz57_2 := blk_frozen BK218.out 2; have hfz57_3 := blk_frozen BK218.out 3; have hfz57_4 := blk_frozen BK218.out 4) | ((with_reducible refine gate_callee (f := 23) rfl ?_); refine goesL_ (some 67) rfl rfl Try.func23 (by kernel_rfl) rfl #[.int .u32 (((rd_T41 l0_2 x5_2).f1) % 4294967296), .int .i64 2] rfl (by (try simp only [List.map_toArray, List.map_cons, List.map_nil]); first | done | rfl | (simp only [List.length_drop, List.length_take]; rfl)) ?_; (with_reducible refine (octroiref01_Put.calls k2 (((rd_T41 l0_2 x5_2).f1) % 4294967296) 2 t226 _ A37.out).mono ?_); rintro e w58 ⟨v227, rfl, ho0, hb⟩; refine ⟨_, rfl, ?_⟩; have n0_ := Aside0.mk (Kd.R_elder' (by (with_reducible repeat (first | apply Kd.R_alloc | apply Kd.R_drewN | apply Kd.R_drew)); exact HO222.out) (Kd.R_base ho0) hb); have n1_ := Aside0.mk (Kd.R_elder' (by (with_reducible repeat (first | apply Kd.R_alloc | apply Kd.R_drewN | apply Kd.R_drew)); exact HO225.out) (Kd.R_base ho0) hb); have n2_ := Aside0.mk (Kd.R_lower (Kd.R_new' (Kd.R_new' ho0 (Kd.R_lt (by (with_reducible repeat (first | apply Kd.R_alloc | apply Kd.R_drewN | apply Kd.R_drew)); exact HO222.out))) (Kd.R_lt (by (with_reducible repeat (first | apply Kd.R_alloc | apply Kd.R_drewN | apply Kd.R_drew)); exact HO225.out))) (below_size (by repeat (first | (with_reducible first | exact HB.out | apply below_alloc | apply pw_below_drewN | apply below_drew1 | refine below_set ?_ GE207.out | refine below_set ?_ GE218.out) | exact HB.out)))); have n3_ := Aside0.mk (blk_below (g := gb207) (o := .cells #[.int .i64 a0_0, .bool false, .slice (some ad217) l0_2.length c0_2] 24 (0, 0)) (by (with_reducible repeat (first | refine blk_drewN ?_ _ | refine blk_drew ?_ | refine blk_alloc ?_ _)); exact BK207.out) hb); have n4_ := Aside0.mk (blk_below (g := gb218) (o := .cells #[.int .u32 ((rd_T41 l0_2 x5_2).f0.f0), .int .i64 ((rd_T41 l0_2 x5_2).f0.f1), .int .u16 ((rd_T41 l0_2 x5_2).f1), .int .u32 ((rd_T41 l0_2 x5_2).f2), .int .i64 ((rd_T41 l0_2 x5_2).f3)] 41 (0, 0)) (by (with_reducible repeat (first | refine blk_drewN ?_ _ | refine blk_drew ?_ | refine blk_alloc ?_ _)); exact BK218.out) hb); have n5_ := Aside0.mk (below_step (by repeat (first | (with_reducible first | exact HB.out | apply below_alloc | apply pw_below_drewN | apply below_drew1 | refine below_set ?_ GE207.out | refine below_set ?_ GE218.out) | exact HB.out)) hb); clear HO222; clear HO225; clear BK207; clear BK218; clear HB; have HO222 := n0_; have HO225 := n1_; have HO228 := n2_; have BK207 := n3_; have BK218 := n4_; have HB := n5_; clear n0_ n1_ n2_ n3_ n4_ n5_; (try clear hb); (try clear hb2); (try clear hk); (try clear hi); (try clear ho0); obtain ⟨Ao60, co60, eo60⟩ := Kd.R_slice HO228.out; subst eo60) | ((with_reducible refine gate_builtin (b := .append) (xs := #[.tmp 63, .tmp 67]) rfl ?_); (try (refine gate_guard (by rfl) ?_; dsimp only)); at_builtin; refine Kd.R_append_rows (Kd.int .u8) (w0 := w) w.heap.size rfl (.tmp 63) (.tmp 67) 26 5 (.int .u8 0) 1 rfl Try.underlying26 info5 rfl (by decide) (by omega) v224 y223 t226 _ _ _ (fun k_ => some k_ ≠ (.slice Ao56 y220.length co56 : Value).ownBlock ∧ some k_ ≠ (.slice Ao60 t226.length co60 : Value).ownBlock) (fun _ => False) rfl rfl ?aO ?aR (fun _ _ h => h) (fun _ h => h.elim) ?aF ?aB ?aS ?aL ?_; (case aR => repeat (first | exact (Kd.R_reads' HO228.out).2.2 | (with_reducible refine Kd.C_alloc ?_ _) | (with_reducible refine Kd.C_drewN ?_ _) | (with_reducible refine Kd.C_drew ?_))); (case aB => exact (by repeat (first | (with_reducible first | exact HB.out | apply below_alloc | apply pw_below_drewN | apply below_drew1 | refine below_set ?_ GE207.out | refine below_set ?_ GE218.out) | exact HB.out))); (case aF => exact (fun k_ hk => ⟨Kd.fresh' (Kd.R_lt (by (with_reducible repeat (first | apply Kd.R_alloc | apply Kd.R_drewN | apply Kd.R_drew)); exact HO222.out)) k_ hk, Kd.fresh' (Kd.R_lt (by (with_reducible repeat (first | apply Kd.R_alloc | apply Kd.R_drewN | apply Kd.R_drew)); exact HO228.out)) k_ hk⟩)); (case aO => exact (by (with_reducible repeat (first | apply Kd.R_alloc | apply Kd.R_drewN | apply Kd.R_drew)); exact HO225.out)); (case aS => exact (below_size (by repeat (first | (with_reducible first | exact HB.out | apply below_alloc | apply pw_below_drewN | apply below_drew1 | refine below_set ?_ GE207.out | refine below_set ?_ GE218.out) | exact HB.out)))); (case aL => have := LMc38.out; omega); intro v230 w59 ho hb hg hat; rw [← Ny229.out] at ho; have n0_ := Aside0.mk (blk_grown (g := gb207) (o := .cells #[.int .i64 a0_0, .bool false, .slice (some ad217) l0_2.length c0_2] 24 (0, 0)) (by (with_reducible repeat (first | refine blk_drewN ?_ _ | refine blk_drew ?_ | refine blk_alloc ?_ _)); exact BK207.out) hg (Kd.R_ne HO225.out BK207.out (by decide))); have n1_ := Aside0.mk (blk_grown (g := gb218) (o := .cells #[.int .u32 ((rd_T41 l0_2 x5_2).f0.f0), .int .i64 ((rd_T41 l0_2 x5_2).f0.f1), .int .u16 ((rd_T41 l0_2 x5_2).f1), .int .u32 ((rd_T41 l0_2 x5_2).f2), .int .i64 ((rd_T41 l0_2 x5_2).f3)] 41 (0, 0)) (by (with_reducible repeat (first | refine blk_drewN ?_ _ | refine blk_drew ?_ | refine blk_alloc ?_ _)); exact BK218.out) hg (Kd.R_ne HO225.out BK218.out (by decide))); have n2_ := Aside0.mk (Kd.R_after (ok := (fun k_ => some k_ ≠ (.slice Ao60 t226.length co60 : Value).ownBlock)) (by (with_reducible repeat (first | apply Kd.R_alloc | apply Kd.R_drewN | apply Kd.R_drew)); exact Kd.R_mono HO222.out (fun _ hk => ⟨hk.2, hk.1.2⟩)) hg hat); have n3_ := Aside0.mk (Kd.R_after (ok := (fun k_ => some k_ ≠ (.slice Ao56 y220.length co56 : Value).ownBlock)) (by (with_reducible repeat (first | apply Kd.R_alloc | apply Kd.R_drewN | apply Kd.R_drew)); exact Kd.R_mono HO228.out (fun _ hk => ⟨hk.1.2, hk.2⟩)) hg hat); have n4_ := Aside0.mk (hb); have n5_ := Aside0.mk (ho); clear BK207; clear BK218; clear HO222; clear HO228; clear HB; clear HO225; have BK207 := n0_; have BK218 := n1_; have HO222 := n2_; have HO228 := n3_; have HB := n4_; have HO231 := n5_; clear n0_ n1_ n2_ n3_ n4_ n5_; clear ho hb hg hat; have hcz61_0 : w59.cell? ⟨gb218, 0, none⟩ = some (.int .u32 ((rd_T41 l0_2 x5_2).f0.f0)) := (blk_cell BK218.out 0).trans rfl; have hcz61_1 : w59.cell? ⟨gb218, 1, none⟩ = some (.int .i64 ((rd_T41 l0_2 x5_2).f0.f1)) := (blk_cell BK218.out 1).trans rfl; have hcz61_2 : w59.cell? ⟨gb218, 2, none⟩ = some (.int .u16 ((rd_T41 l0_2 x5_2).f1)) := (blk_cell BK218.out 2).trans rfl; have hcz61_3 : w59.cell? ⟨gb218, 3, none⟩ = some (.int .u32 ((rd_T41 l0_2 x5_2).f2)) := (blk_cell BK218.out 3).trans rfl; have hcz61_4 : w59.cell? ⟨gb218, 4, none⟩ = some (.int .i64 ((rd_T41 l0_2 x5_2).f3)) := (blk_cell BK218.out 4).trans rfl; have hfz61_0 := blk_frozen BK218.out 0; have hfz61_1 := blk_frozen BK218.out 1; have hfz61_2 := blk_frozen BK218.out 2; have hfz61_3 := blk_frozen BK218.out 3; have hfz61_4 := blk_frozen BK218.out 4) | ((with_reducible refine gate_callee (f := 23) rfl ?_); refine goesL_ (some 73) rfl rfl Try.func23 (by kernel_rfl) rfl #[.int .u32 ((rd_T41 l0_2 x5_2).f0.f0), .int .i64 4] rfl (by (try simp only [List.map_toArray, List.map_cons, List.map_nil]); first | done | rfl | (simp only [List.length_drop, List.length_take]; rfl)) ?_; (with_reducible refine (octroiref01_Put.calls k2 ((rd_T41 l0_2 x5_2).f0.f0) 4 t232 _ A39.out).mono ?_); rintro e w62 ⟨v233, rfl, ho0, hb⟩; refine ⟨_, rfl, ?_⟩; have n0_ := Aside0.mk (Kd.R_elder' (by (with_reducible repeat (first | apply Kd.R_alloc | apply Kd.R_drewN | apply Kd.R_drew)); exact HO222.out) (Kd.R_base ho0) hb); have n1_ := Aside0.mk (Kd.R_elder' (by (with_reducible repeat (first | apply Kd.R_alloc | apply Kd.R_drewN | apply Kd.R_drew)); exact HO228.out) (Kd.R_base ho0) hb); have n2_ := Aside0.mk (Kd.R_elder' (by (with_reducible repeat (first | apply Kd.R_alloc | apply Kd.R_drewN | apply Kd.R_drew)); exact HO231.out) (Kd.R_base ho0) hb); have n3_ := Aside0.mk (Kd.R_lower (Kd.R_new' (Kd.R_new' (Kd.R_new' ho0 (Kd.R_lt (by (with_reducible repeat (first | apply Kd.R_alloc | apply Kd.R_drewN | apply Kd.R_drew)); exact HO222.out))) (Kd.R_lt (by (with_reducible repeat (first | apply Kd.R_alloc | apply Kd.R_drewN | apply Kd.R_drew)); exact HO228.out))) (Kd.R_lt (by (with_reducible repeat (first | apply Kd.R_alloc | apply Kd.R_drewN | apply Kd.R_drew)); exact HO231.out))) (below_size (by repeat (first | (with_reducible first | exact HB.out | apply below_alloc | apply pw_below_drewN | apply below_drew1 | refine below_set ?_ GE207.out | refine below_set ?_ GE218.out) | exact HB.out)))); have n4_ := Aside0.mk (blk_below (g := gb207) (o := .cells #[.int .i64 a0_0, .bool false, .slice (some ad217) l0_2.length c0_2] 24 (0, 0)) (by (with_reducible repeat (first | refine blk_drewN ?_ _ | refine blk_drew ?_ | refine blk_alloc ?_ _)); exact BK207.out) hb); have n5_ := Aside0.mk (blk_below (g := gb218) (o := .cells #[.int .u32 ((rd_T41 l0_2 x5_2).f0.f0), .int .i64 ((rd_T41 l0_2 x5_2).f0.f1), .int .u16 ((rd_T41 l0_2 x5_2).f1), .int .u32 ((rd_T41 l0_2 x5_2).f2), .int .i64 ((rd_T41 l0_2 x5_2).f3)] 41 (0, 0)) (by (with_reducible repeat (first | refine blk_drewN ?_ _ | refine blk_drew ?_ | refine blk_alloc ?_ _)); exact BK218.out) hb); have n6_ := Aside0.mk (below_step (by repeat (first | (with_reducible first | exact HB.out | apply below_alloc | apply pw_below_drewN | apply below_drew1 | refine below_set ?_ GE207.out | refine below_set ?_ GE218.out) | exact HB.out)) hb); clear HO222; clear HO228; clear HO231; clear BK207; clear BK218; clear HB; have HO222 := n0_; have HO228 := n1_; have HO231 := n2_; have HO234 := n3_; have BK207 := n4_; have BK218 := n5_; have HB := n6_; clear n0_ n1_ n2_ n3_ n4_ n5_ n6_; (try clear hb); (try clear hb2); (try clear hk); (try clear hi); (try clear ho0); obtain ⟨Ao64, co64, eo64⟩ := Kd.R_slice HO234.out; subst eo64) | ((with_reducible refine gate_builtin (b := .append) (xs := #[.tmp 69, .tmp 73]) rfl ?_); (try (refine gate_guard (by rfl) ?_; dsimp only)); at_builtin; refine Kd.R_append_rows (Kd.int .u8) (w0 := w) w.heap.size rfl (.tmp 69) (.tmp 73) 26 5 (.int .u8 0) 1 rfl Try.underlying26 info5 rfl (by decide) (by omega) v230 y229 t232 _ _ _ (fun k_ => some k_ ≠ (.slice Ao56 y220.length co56 : Value).ownBlock ∧ some k_ ≠ (.slice Ao60 t226.length co60 : Value).ownBlock ∧ some k_ ≠ (.slice Ao64 t232.length co64 : Value).ownBlock) (fun _ => False) rfl rfl ?aO ?aR (fun _ _ h => h) (fun _ h => h.elim) ?aF ?aB ?aS ?aL ?_; (case aR => repeat (first | exact (Kd.R_reads' HO234.out).2.2 | (with_reducible refine Kd.C_alloc ?_ _) | (with_reducible refine Kd.C_drewN ?_ _) | (with_reducible refine Kd.C_drew ?_))); (case aB => exact (by repeat (first | (with_reducible first | exact HB.out | apply below_alloc | apply pw_below_drewN | apply below_drew1 | refine below_set ?_ GE207.out | refine below_set ?_ GE218.out) | exact HB.out))); (case aF => exact (fun k_ hk => ⟨Kd.fresh' (Kd.R_lt (by (with_reducible repeat (first | apply Kd.R_alloc | apply Kd.R_drewN | apply Kd.R_drew)); exact HO222.out)) k_ hk, Kd.fresh' (Kd.R_lt (by (with_reducible repeat (first | apply Kd.R_alloc | apply Kd.R_drewN | apply Kd.R_drew)); exact HO228.out)) k_ hk, Kd.fresh' (Kd.R_lt (by (with_reducible repeat (first | apply Kd.R_alloc | apply Kd.R_drewN | apply Kd.R_drew)); exact HO234.out)) k_ hk⟩)); (case aO => exact (by (with_reducible repeat (first | apply Kd.R_alloc | apply Kd.R_drewN | apply Kd.R_drew)); exact Kd.R_mono HO231.out (fun _ hk => ⟨hk.1.1, ⟨hk.1.2, hk.2⟩⟩))); (case aS => exact (below_size (by repeat (first | (with_reducible first | exact HB.out | apply below_alloc | apply pw_below_drewN | apply below_drew1 | refine below_set ?_ GE207.out | refine below_set ?_ GE218.out) | exact HB.out)))); (case aL => have := LMc40.out; omega); intro v236 w63 ho hb hg hat; rw [← Ny235.out] at ho; have n0_ := Aside0.mk (blk_grown (g := gb207) (o := .cells #[.int .i64 a0_0, .bool false, .slice (some ad217) l0_2.length c0_2] 24 (0, 0)) (by (with_reducible repeat (first | refine blk_drewN ?_ _ | refine blk_drew ?_ | refine blk_alloc ?_ _)); exact BK207.out) hg (Kd.R_ne HO231.out BK207.out (by decide))); have n1_ := Aside0.mk (blk_grown (g := gb218) (o := .cells #[.int .u32 ((rd_T41 l0_2 x5_2).f0.f0), .int .i64 ((rd_T41 l0_2 x5_2).f0.f1), .int .u16 ((rd_T41 l0_2 x5_2).f1), .int .u32 ((rd_T41 l0_2 x5_2).f2), .int .i64 ((rd_T41 l0_2 x5_2).f3)] 41 (0, 0)) (by (with_reducible repeat (first | refine blk_drewN ?_ _ | refine blk_drew ?_ | refine blk_alloc ?_ _)); exact BK218.out) hg (Kd.R_ne HO231.out BK218.out (by decide))); have n2_ := Aside0.mk (Kd.R_after (ok := (fun k_ => some k_ ≠ (.slice Ao60 t226.length co60 : Value).ownBlock ∧ some k_ ≠ (.slice Ao64 t232.length co64 : Value).ownBlock)) (by (with_reducible repeat (first | apply Kd.R_alloc | apply Kd.R_drewN | apply Kd.R_drew)); exact Kd.R_mono HO222.out (fun _ hk => ⟨⟨hk.1.1, hk.2⟩, hk.1.2⟩)) hg hat); have n3_ := Aside0.mk (Kd.R_after (ok := (fun k_ => some k_ ≠ (.slice Ao56 y220.length co56 : Value).ownBlock ∧ some k_ ≠ (.slice Ao64 t232.length co64 : Value).ownBlock)) (by (with_reducible repeat (first | apply Kd.R_alloc | apply Kd.R_drewN | apply Kd.R_drew)); exact Kd.R_mono HO228.out (fun _ hk => ⟨⟨hk.1.1, hk.2⟩, hk.1.2⟩)) hg hat); have n4_ := Aside0.mk (Kd.R_after (ok := (fun k_ => some k_ ≠ (.slice Ao56 y220.length co56 : Value).ownBlock ∧ some k_ ≠ (.slice Ao60 t226.length co60 : Value).ownBlock)) (by (with_reducible repeat (first | apply Kd.R_alloc | apply Kd.R_drewN | apply Kd.R_drew)); exact Kd.R_mono HO234.out (fun _ hk => ⟨⟨hk.1.1.2, hk.1.2⟩, hk.2⟩)) hg hat); have n5_ := Aside0.mk (hb); have n6_ := Aside0.mk (ho); clear BK207; clear BK218; clear HO222; clear HO228; clear HO234; clear HB; clear HO231; have BK207 := n0_; have BK218 := n1_; have HO222 := n2_; have HO228 := n3_; have HO234 := n4_; have HB := n5_; have HO237 := n6_; clear n0_ n1_ n2_ n3_ n4_ n5_ n6_; clear ho hb hg hat; have hcz65_0 : w63.cell? ⟨gb218, 0, none⟩ = some (.int .u32 ((rd_T41 l0_2 x5_2).f0.f0)) := (blk_cell BK218.out 0).trans rfl; have hcz65_1 : w63.cell? ⟨gb218, 1, none⟩ = some (.int .i64 ((rd_T41 l0_2 x5_2).f0.f1)) := (blk_cell BK218.out 1).trans rfl; have hcz65_2 : w63.cell? ⟨gb218, 2, none⟩ = some (.int .u16 ((rd_T41 l0_2 x5_2).f1)) := (blk_cell BK218.out 2).trans rfl; have hcz65_3 : w63.cell? ⟨gb218, 3, none⟩ = some (.int .u32 ((rd_T41 l0_2 x5_2).f2)) := (blk_cell BK218.out 3).trans rfl; have hcz65_4 : w63.cell? ⟨gb218, 4, none⟩ = some (.int .i64 ((rd_T41 l0_2 x5_2).f3)) := (blk_cell BK218.out 4).trans rfl; have hfz65_0 := blk_frozen BK218.out 0; have hfz65_1 := blk_frozen BK218.out 1; have hfz65_2 := blk_frozen BK218.out 2; have hfz65_3 := blk_frozen BK218.out 3; have hfz65_4 := blk_frozen BK218.out 4) | ((with_reducible refine gate_callee (f := 24) rfl ?_); refine goesL_ (some 79) rfl rfl Try.func24 (by kernel_rfl) rfl #[.int .i64 ((rd_T41 l0_2 x5_2).f0.f1)] rfl (by (try simp only [List.map_toArray, List.map_cons, List.map_nil]); first | done | rfl | (simp only [List.length_drop, List.length_take]; rfl)) ?_; (with_reducible refine (octroiref02_Mask.calls k2 ((rd_T41 l0_2 x5_2).f0.f1) t238 _ A41.out).mono ?_); rintro e w' ⟨rfl, ⟨nd, rfl⟩⟩; refine ⟨_, rfl, ?_⟩) | ((with_reducible refine gate_callee (f := 23) rfl ?_); refine goesL_ (some 80) rfl rfl Try.func23 (by kernel_rfl) rfl #[.int .u32 t238, .int .i64 4] rfl (by (try simp only [List.map_toArray, List.map_cons, List.map_nil]); first | done | rfl | (simp only [List.length_drop, List.length_take]; rfl)) ?_; (with_reducible refine (octroiref01_Put.calls k2 t238 4 t239 _ A42.out).mono ?_); rintro e w66 ⟨v240, rfl, ho0, hb⟩; refine ⟨_, rfl, ?_⟩; have n0_ := Aside0.mk (Kd.R_elder' (by (with_reducible repeat (first | apply Kd.R_alloc | apply Kd.R_drewN | apply Kd.R_drew)); exact HO222.out) (Kd.R_base ho0) hb); have n1_ := Aside0.mk (Kd.R_elder' (by (with_reducible repeat (first | apply Kd.R_alloc | apply Kd.R_drewN | apply Kd.R_drew)); exact HO228.out) (Kd.R_base ho0) hb); have n2_ := Aside0.mk (Kd.R_elder' (by (with_reducible repeat (first | apply Kd.R_alloc | apply Kd.R_drewN | apply Kd.R_drew)); exact HO234.out) (Kd.R_base ho0) hb); have n3_ := Aside0.mk (Kd.R_elder' (by (with_reducible repeat (first | apply Kd.R_alloc | apply Kd.R_drewN | apply Kd.R_drew)); exact HO237.out) (Kd.R_base ho0) hb); have n4_ := Aside0.mk (Kd.R_lower (Kd.R_new' (Kd.R_new' (Kd.R_new' (Kd.R_new' ho0 (Kd.R_lt (by (with_reducible repeat (first | apply Kd.R_alloc | apply Kd.R_drewN | apply Kd.R_drew)); exact HO222.out))) (Kd.R_lt (by (with_reducible repeat (first | apply Kd.R_alloc | apply Kd.R_drewN | apply Kd.R_drew)); exact HO228.out))) (Kd.R_lt (by (with_reducible repeat (first | apply Kd.R_alloc | apply Kd.R_drewN | apply Kd.R_drew)); exact HO234.out))) (Kd.R_lt (by (with_reducible repeat (first | apply Kd.R_alloc | apply Kd.R_drewN | apply Kd.R_drew)); exact HO237.out))) (below_size (by repeat (first | (with_reducible first | exact HB.out | apply below_alloc | apply pw_below_drewN | apply below_drew1 | refine below_set ?_ GE207.out | refine below_set ?_ GE218.out) | exact HB.out)))); have n5_ := Aside0.mk (blk_below (g := gb207) (o := .cells #[.int .i64 a0_0, .bool false, .slice (some ad217) l0_2.length c0_2] 24 (0, 0)) (by (with_reducible repeat (first | refine blk_drewN ?_ _ | refine blk_drew ?_ | refine blk_alloc ?_ _)); exact BK207.out) hb); have n6_ := Aside0.mk (blk_below (g := gb218) (o := .cells #[.int .u32 ((rd_T41 l0_2 x5_2).f0.f0), .int .i64 ((rd_T41 l0_2 x5_2).f0.f1), .int .u16 ((rd_T41 l0_2 x5_2).f1), .int .u32 ((rd_T41 l0_2 x5_2).f2), .int .i64 ((rd_T41 l0_2 x5_2).f3)] 41 (0, 0)) (by (with_reducible repeat (first | refine blk_drewN ?_ _ | refine blk_drew ?_ | refine blk_alloc ?_ _)); exact BK218.out) hb); have n7_ := Aside0.mk (below_step (by repeat (first | (with_reducible first | exact HB.out | apply below_alloc | apply pw_below_drewN | apply below_drew1 | refine below_set ?_ GE207.out | refine below_set ?_ GE218.out) | exact HB.out)) hb); clear HO222; clear HO228; clear HO234; clear HO237; clear BK207; clear BK218; clear HB; have HO222 := n0_; have HO228 := n1_; have HO234 := n2_; have HO237 := n3_; have HO241 := n4_; have BK207 := n5_; have BK218 := n6_; have HB := n7_; clear n0_ n1_ n2_ n3_ n4_ n5_ n6_ n7_; (try clear hb); (try clear hb2); (try clear hk); (try clear hi); (try clear ho0); obtain ⟨Ao68, co68, eo68⟩ := Kd.R_slice HO241.out; subst eo68) | ((with_reducible refine gate_builtin (b := .append) (xs := #[.tmp 75, .tmp 80]) rfl ?_); (try (refine gate_guard (by rfl) ?_; dsimp only)); at_builtin; refine Kd.R_append_rows (Kd.int .u8) (w0 := w) w.heap.size rfl (.tmp 75) (.tmp 80) 26 5 (.int .u8 0) 1 rfl Try.underlying26 info5 rfl (by decide) (by omega) v236 y235 t239 _ _ _ (fun k_ => some k_ ≠ (.slice Ao56 y220.length co56 : Value).ownBlock ∧ some k_ ≠ (.slice Ao60 t226.length co60 : Value).ownBlock ∧ some k_ ≠ (.slice Ao64 t232.length co64 : Value).ownBlock ∧ some k_ ≠ (.slice Ao68 t239.length co68 : Value).ownBlock) (fun _ => False) rfl rfl ?aO ?aR (fun _ _ h => h) (fun _ h => h.elim) ?aF ?aB ?aS ?aL ?_; (case aR => repeat (first | exact (Kd.R_reads' HO241.out).2.2 | (with_reducible refine Kd.C_alloc ?_ _) | (with_reducible refine Kd.C_drewN ?_ _) | (with_reducible refine Kd.C_drew ?_))); (case aB => exact (by repeat (first | (with_reducible first | exact HB.out | apply below_alloc | apply pw_below_drewN | apply below_drew1 | refine below_set ?_ GE207.out | refine below_set ?_ GE218.out) | exact HB.out))); (case aF => exact (fun k_ hk => ⟨Kd.fresh' (Kd.R_lt (by (with_reducible repeat (first | apply Kd.R_alloc | apply Kd.R_drewN | apply Kd.R_drew)); exact HO222.out)) k_ hk, Kd.fresh' (Kd.R_lt (by (with_reducible repeat (first | apply Kd.R_alloc | apply Kd.R_drewN | apply Kd.R_drew)); exact HO228.out)) k_ hk, Kd.fresh' (Kd.R_lt (by (with_reducible repeat (first | apply Kd.R_alloc | apply Kd.R_drewN | apply Kd.R_drew)); exact HO234.out)) k_ hk, Kd.fresh' (Kd.R_lt (by (with_reducible repeat (first | apply Kd.R_alloc | apply Kd.R_drewN | apply Kd.R_drew)); exact HO241.out)) k_ hk⟩)); (case aO => exact (by (with_reducible repeat (first | apply Kd.R_alloc | apply Kd.R_drewN | apply Kd.R_drew)); exact Kd.R_mono HO237.out (fun _ hk => ⟨hk.1.1, ⟨hk.1.2.1, ⟨hk.1.2.2, hk.2⟩⟩⟩))); (case aS => exact (below_size (by repeat (first | (with_reducible first | exact HB.out | apply below_alloc | apply pw_below_drewN | apply below_drew1 | refine below_set ?_ GE207.out | refine below_set ?_ GE218.out) | exact HB.out)))); (case aL => have := LMc43.out; omega); intro v243 w67 ho hb hg hat; rw [← Ny242.out] at ho; have n0_ := Aside0.mk (blk_grown (g := gb207) (o := .cells #[.int .i64 a0_0, .bool false, .slice (some ad217) l0_2.length c0_2] 24 (0, 0)) (by (with_reducible repeat (first | refine blk_drewN ?_ _ | refine blk_drew ?_ | refine blk_alloc ?_ _)); exact BK207.out) hg (Kd.R_ne HO237.out BK207.out (by decide))); have n1_ := Aside0.mk (blk_grown (g := gb218) (o := .cells #[.int .u32 ((rd_T41 l0_2 x5_2).f0.f0), .int .i64 ((rd_T41 l0_2 x5_2).f0.f1), .int .u16 ((rd_T41 l0_2 x5_2).f1), .int .u32 ((rd_T41 l0_2 x5_2).f2), .int .i64 ((rd_T41 l0_2 x5_2).f3)] 41 (0, 0)) (by (with_reducible repeat (first | refine blk_drewN ?_ _ | refine blk_drew ?_ | refine blk_alloc ?_ _)); exact BK218.out) hg (Kd.R_ne HO237.out BK218.out (by decide))); have n2_ := Aside0.mk (Kd.R_after (ok := (fun k_ => some k_ ≠ (.slice Ao60 t226.length co60 : Value).ownBlock ∧ some k_ ≠ (.slice Ao64 t232.length co64 : Value).ownBlock ∧ some k_ ≠ (.slice Ao68 t239.length co68 : Value).ownBlock)) (by (with_reducible repeat (first | apply Kd.R_alloc | apply Kd.R_drewN | apply Kd.R_drew)); exact Kd.R_mono HO222.out (fun _ hk => ⟨⟨hk.1.1.1, ⟨hk.1.1.2, hk.2⟩⟩, hk.1.2⟩)) hg hat); have n3_ := Aside0.mk (Kd.R_after (ok := (fun k_ => some k_ ≠ (.slice Ao56 y220.length co56 : Value).ownBlock ∧ some k_ ≠ (.slice Ao64 t232.length co64 : Value).ownBlock ∧ some k_ ≠ (.slice Ao68 t239.length co68 : Value).ownBlock)) (by (with_reducible repeat (first | apply Kd.R_alloc | apply Kd.R_drewN | apply Kd.R_drew)); exact Kd.R_mono HO228.out (fun _ hk => ⟨⟨hk.1.1.1, ⟨hk.1.1.2, hk.2⟩⟩, hk.1.2⟩)) hg hat); have n4_ := Aside0.mk (Kd.R_after (ok := (fun k_ => some k_ ≠ (.slice Ao56 y220.length co56 : Value).ownBlock ∧ some k_ ≠ (.slice Ao60 t226.length co60 : Value).ownBlock ∧ some k_ ≠ (.slice Ao68 t239.length co68 : Value).ownBlock)) (by (with_reducible repeat (first | apply Kd.R_alloc | apply Kd.R_drewN | apply Kd.R_drew)); exact Kd.R_mono HO234.out (fun _ hk => ⟨⟨hk.1.1.1, ⟨hk.1.1.2, hk.2⟩⟩, hk.1.2⟩)) hg hat); have n5_ := Aside0.mk (Kd.R_after (ok := (fun k_ => some k_ ≠ (.slice Ao56 y220.length co56 : Value).ownBlock ∧ some k_ ≠ (.slice Ao60 t226.length co60 : Value).ownBlock ∧ some k_ ≠ (.slice Ao64 t232.length co64 : Value).ownBlock)) (by (with_reducible repeat (first | apply Kd.R_alloc | apply Kd.R_drewN | apply Kd.R_drew)); exact Kd.R_mono HO241.out (fun _ hk => ⟨⟨hk.1.1.1.2, ⟨hk.1.1.2, hk.1.2⟩⟩, hk.2⟩)) hg hat); have n6_ := Aside0.mk (hb); have n7_ := Aside0.mk (ho); clear BK207; clear BK218; clear HO222; clear HO228; clear HO234; clear HO241; clear HB; clear HO237; have BK207 := n0_; have BK218 := n1_; have HO222 := n2_; have HO228 := n3_; have HO234 := n4_; have HO241 := n5_; have HB := n6_; have HO244 := n7_; clear n0_ n1_ n2_ n3_ n4_ n5_ n6_ n7_; clear ho hb hg hat; have hcz69_0 : w67.cell? ⟨gb218, 0, none⟩ = some (.int .u32 ((rd_T41 l0_2 x5_2).f0.f0)) := (blk_cell BK218.out 0).trans rfl; have hcz69_1 : w67.cell? ⟨gb218, 1, none⟩ = some (.int .i64 ((rd_T41 l0_2 x5_2).f0.f1)) := (blk_cell BK218.out 1).trans rfl; have hcz69_2 : w67.cell? ⟨gb218, 2, none⟩ = some (.int .u16 ((rd_T41 l0_2 x5_2).f1)) := (blk_cell BK218.out 2).trans rfl; have hcz69_3 : w67.cell? ⟨gb218, 3, none⟩ = some (.int .u32 ((rd_T41 l0_2 x5_2).f2)) := (blk_cell BK218.out 3).trans rfl; have hcz69_4 : w67.cell? ⟨gb218, 4, none⟩ = some (.int .i64 ((rd_T41 l0_2 x5_2).f3)) := (blk_cell BK218.out 4).trans rfl; have hfz69_0 := blk_frozen BK218.out 0; have hfz69_1 := blk_frozen BK218.out 1; have hfz69_2 := blk_frozen BK218.out 2; have hfz69_3 := blk_frozen BK218.out 3; have hfz69_4 := blk_frozen BK218.out 4) | ((with_reducible refine gate_callee (f := 23) rfl ?_); refine goesL_ (some 85) rfl rfl Try.func23 (by kernel_rfl) rfl #[.int .u32 ((rd_T41 l0_2 x5_2).f2), .int .i64 4] rfl (by (try simp only [List.map_toArray, List.map_cons, List.map_nil]); first | done | rfl | (simp only [List.length_drop, List.length_take]; rfl)) ?_; (with_reducible refine (octroiref01_Put.calls k2 ((rd_T41 l0_2 x5_2).f2) 4 t245 _ A44.out).mono ?_); rintro e w70 ⟨v246, rfl, ho0, hb⟩; refine ⟨_, rfl, ?_⟩; have n0_ := Aside0.mk (Kd.R_elder' (by (with_reducible repeat (first | apply Kd.R_alloc | apply Kd.R_drewN | apply Kd.R_drew)); exact HO222.out) (Kd.R_base ho0) hb); have n1_ := Aside0.mk (Kd.R_elder' (by (with_reducible repeat (first | apply Kd.R_alloc | apply Kd.R_drewN | apply Kd.R_drew)); exact HO228.out) (Kd.R_base ho0) hb); have n2_ := Aside0.mk (Kd.R_elder' (by (with_reducible repeat (first | apply Kd.R_alloc | apply Kd.R_drewN | apply Kd.R_drew)); exact HO234.out) (Kd.R_base ho0) hb); have n3_ := Aside0.mk (Kd.R_elder' (by (with_reducible repeat (first | apply Kd.R_alloc | apply Kd.R_drewN | apply Kd.R_drew)); exact HO241.out) (Kd.R_base ho0) hb); have n4_ := Aside0.mk (Kd.R_elder' (by (with_reducible repeat (first | apply Kd.R_alloc | apply Kd.R_drewN | apply Kd.R_drew)); exact HO244.out) (Kd.R_base ho0) hb); have n5_ := Aside0.mk (Kd.R_lower (Kd.R_new' (Kd.R_new' (Kd.R_new' (Kd.R_new' (Kd.R_new' ho0 (Kd.R_lt (by (with_reducible repeat (first | apply Kd.R_alloc | apply Kd.R_drewN | apply Kd.R_drew)); exact HO222.out))) (Kd.R_lt (by (with_reducible repeat (first | apply Kd.R_alloc | apply Kd.R_drewN | apply Kd.R_drew)); exact HO228.out))) (Kd.R_lt (by (with_reducible repeat (first | apply Kd.R_alloc | apply Kd.R_drewN | apply Kd.R_drew)); exact HO234.out))) (Kd.R_lt (by (with_reducible repeat (first | apply Kd.R_alloc | apply Kd.R_drewN | apply Kd.R_drew)); exact HO241.out))) (Kd.R_lt (by (with_reducible repeat (first | apply Kd.R_alloc | apply Kd.R_drewN | apply Kd.R_drew)); exact HO244.out))) (below_size (by repeat (first | (with_reducible first | exact HB.out | apply below_alloc | apply pw_below_drewN | apply below_drew1 | refine below_set ?_ GE207.out | refine below_set ?_ GE218.out) | exact HB.out)))); have n6_ := Aside0.mk (blk_below (g := gb207) (o := .cells #[.int .i64 a0_0, .bool false, .slice (some ad217) l0_2.length c0_2] 24 (0, 0)) (by (with_reducible repeat (first | refine blk_drewN ?_ _ | refine blk_drew ?_ | refine blk_alloc ?_ _)); exact BK207.out) hb); have n7_ := Aside0.mk (blk_below (g := gb218) (o := .cells #[.int .u32 ((rd_T41 l0_2 x5_2).f0.f0), .int .i64 ((rd_T41 l0_2 x5_2).f0.f1), .int .u16 ((rd_T41 l0_2 x5_2).f1), .int .u32 ((rd_T41 l0_2 x5_2).f2), .int .i64 ((rd_T41 l0_2 x5_2).f3)] 41 (0, 0)) (by (with_reducible repeat (first | refine blk_drewN ?_ _ | refine blk_drew ?_ | refine blk_alloc ?_ _)); exact BK218.out) hb); have n8_ := Aside0.mk (below_step (by repeat (first | (with_reducible first | exact HB.out | apply below_alloc | apply pw_below_drewN | apply below_drew1 | refine below_set ?_ GE207.out | refine below_set ?_ GE218.out) | exact HB.out)) hb); clear HO222; clear HO228; clear HO234; clear HO241; clear HO244; clear BK207; clear BK218; clear HB; have HO222 := n0_; have HO228 := n1_; have HO234 := n2_; have HO241 := n3_; have HO244 := n4_; have HO247 := n5_; have BK207 := n6_; have BK218 := n7_; have HB := n8_; clear n0_ n1_ n2_ n3_ n4_ n5_ n6_ n7_ n8_; (try clear hb); (try clear hb2); (try clear hk); (try clear hi); (try clear ho0); obtain ⟨Ao72, co72, eo72⟩ := Kd.R_slice HO247.out; subst eo72) | ((with_reducible refine gate_builtin (b := .append) (xs := #[.tmp 82, .tmp 85]) rfl ?_); (try (refine gate_guard (by rfl) ?_; dsimp only)); at_builtin; refine Kd.R_append_rows (Kd.int .u8) (w0 := w) w.heap.size rfl (.tmp 82) (.tmp 85) 26 5 (.int .u8 0) 1 rfl Try.underlying26 info5 rfl (by decide) (by omega) v243 y242 t245 _ _ _ (fun k_ => some k_ ≠ (.slice Ao56 y220.length co56 : Value).ownBlock ∧ some k_ ≠ (.slice Ao60 t226.length co60 : Value).ownBlock ∧ some k_ ≠ (.slice Ao64 t232.length co64 : Value).ownBlock ∧ some k_ ≠ (.slice Ao68 t239.length co68 : Value).ownBlock ∧ some k_ ≠ (.slice Ao72 t245.length co72 : Value).ownBlock) (fun _ => False) rfl rfl ?aO ?aR (fun _ _ h => h) (fun _ h => h.elim) ?aF ?aB ?aS ?aL ?_; (case aR => repeat (first | exact (Kd.R_reads' HO247.out).2.2 | (with_reducible refine Kd.C_alloc ?_ _) | (with_reducible refine Kd.C_drewN ?_ _) | (with_reducible refine Kd.C_drew ?_))); (case aB => exact (by repeat (first | (with_reducible first | exact HB.out | apply below_alloc | apply pw_below_drewN | apply below_drew1 | refine below_set ?_ GE207.out | refine below_set ?_ GE218.out) | exact HB.out))); (case aF => exact (fun k_ hk => ⟨Kd.fresh' (Kd.R_lt (by (with_reducible repeat (first | apply Kd.R_alloc | apply Kd.R_drewN | apply Kd.R_drew)); exact HO222.out)) k_ hk, Kd.fresh' (Kd.R_lt (by (with_reducible repeat (first | apply Kd.R_alloc | apply Kd.R_drewN | apply Kd.R_drew)); exact HO228.out)) k_ hk, Kd.fresh' (Kd.R_lt (by (with_reducible repeat (first | apply Kd.R_alloc | apply Kd.R_drewN | apply Kd.R_drew)); exact HO234.out)) k_ hk, Kd.fresh' (Kd.R_lt (by (with_reducible repeat (first | apply Kd.R_alloc | apply Kd.R_drewN | apply Kd.R_drew)); exact HO241.out)) k_ hk, Kd.fresh' (Kd.R_lt (by (with_reducible repeat (first | apply Kd.R_alloc | apply Kd.R_drewN | apply Kd.R_drew)); exact HO247.out)) k_ hk⟩)); (case aO => exact (by (with_reducible repeat (first | apply Kd.R_alloc | apply Kd.R_drewN | apply Kd.R_drew)); exact Kd.R_mono HO244.out (fun _ hk => ⟨hk.1.1, ⟨hk.1.2.1, ⟨hk.1.2.2.1, ⟨hk.1.2.2.2, hk.2⟩⟩⟩⟩))); (case aS => exact (below_size (by repeat (first | (with_reducible first | exact HB.out | apply below_alloc | apply pw_below_drewN | apply below_drew1 | refine below_set ?_ GE207.out | refine below_set ?_ GE218.out) | exact HB.out)))); (case aL => have := LMc45.out; omega); intro v249 w71 ho hb hg hat; rw [← Ny248.out] at ho; have n0_ := Aside0.mk (blk_grown (g := gb207) (o := .cells #[.int .i64 a0_0, .bool false, .slice (some ad217) l0_2.length c0_2] 24 (0, 0)) (by (with_reducible repeat (first | refine blk_drewN ?_ _ | refine blk_drew ?_ | refine blk_alloc ?_ _)); exact BK207.out) hg (Kd.R_ne HO244.out BK207.out (by decide))); have n1_ := Aside0.mk (blk_grown (g := gb218) (o := .cells #[.int .u32 ((rd_T41 l0_2 x5_2).f0.f0), .int .i64 ((rd_T41 l0_2 x5_2).f0.f1), .int .u16 ((rd_T41 l0_2 x5_2).f1), .int .u32 ((rd_T41 l0_2 x5_2).f2), .int .i64 ((rd_T41 l0_2 x5_2).f3)] 41 (0, 0)) (by (with_reducible repeat (first | refine blk_drewN ?_ _ | refine blk_drew ?_ | refine blk_alloc ?_ _)); exact BK218.out) hg (Kd.R_ne HO244.out BK218.out (by decide))); have n2_ := Aside0.mk (Kd.R_after (ok := (fun k_ => some k_ ≠ (.slice Ao60 t226.length co60 : Value).ownBlock ∧ some k_ ≠ (.slice Ao64 t232.length co64 : Value).ownBlock ∧ some k_ ≠ (.slice Ao68 t239.length co68 : Value).ownBlock ∧ some k_ ≠ (.slice Ao72 t245.length co72 : Value).ownBlock)) (by (with_reducible repeat (first | apply Kd.R_alloc | apply Kd.R_drewN | apply Kd.R_drew)); exact Kd.R_mono HO222.out (fun _ hk => ⟨⟨hk.1.1.1, ⟨hk.1.1.2.1, ⟨hk.1.1.2.2, hk.2⟩⟩⟩, hk.1.2⟩)) hg hat); have n3_ := Aside0.mk (Kd.R_after (ok := (fun k_ => some k_ ≠ (.slice Ao56 y220.length co56 : Value).ownBlock ∧ some k_ ≠ (.slice Ao64 t232.length co64 : Value).ownBlock ∧ some k_ ≠ (.slice Ao68 t239.length co68 : Value).ownBlock ∧ some k_ ≠ (.slice Ao72 t245.length co72 : Value).ownBlock)) (by (with_reducible repeat (first | apply Kd.R_alloc | apply Kd.R_drewN | apply Kd.R_drew)); exact Kd.R_mono HO228.out (fun _ hk => ⟨⟨hk.1.1.1, ⟨hk.1.1.2.1, ⟨hk.1.1.2.2, hk.2⟩⟩⟩, hk.1.2⟩)) hg hat); have n4_ := Aside0.mk (Kd.R_after (ok := (fun k_ => some k_ ≠ (.slice Ao56 y220.length co56 : Value).ownBlock ∧ some k_ ≠ (.slice Ao60 t226.length co60 : Value).ownBlock ∧ some k_ ≠ (.slice Ao68 t239.length co68 : Value).ownBlock ∧ some k_ ≠ (.slice Ao72 t245.length co72 : Value).ownBlock)) (by (with_reducible repeat (first | apply Kd.R_alloc | apply Kd.R_drewN | apply Kd.R_drew)); exact Kd.R_mono HO234.out (fun _ hk => ⟨⟨hk.1.1.1, ⟨hk.1.1.2.1, ⟨hk.1.1.2.2, hk.2⟩⟩⟩, hk.1.2⟩)) hg hat); have n5_ := Aside0.mk (Kd.R_after (ok := (fun k_ => some k_ ≠ (.slice Ao56 y220.length co56 : Value).ownBlock ∧ some k_ ≠ (.slice Ao60 t226.length co60 : Value).ownBlock ∧ some k_ ≠ (.slice Ao64 t232.length co64 : Value).ownBlock ∧ some k_ ≠ (.slice Ao72 t245.length co72 : Value).ownBlock)) (by (with_reducible repeat (first | apply Kd.R_alloc | apply Kd.R_drewN | apply Kd.R_drew)); exact Kd.R_mono HO241.out (fun _ hk => ⟨⟨hk.1.1.1, ⟨hk.1.1.2.1, ⟨hk.1.1.2.2, hk.2⟩⟩⟩, hk.1.2⟩)) hg hat); have n6_ := Aside0.mk (Kd.R_after (ok := (fun k_ => some k_ ≠ (.slice Ao56 y220.length co56 : Value).ownBlock ∧ some k_ ≠ (.slice Ao60 t226.length co60 : Value).ownBlock ∧ some k_ ≠ (.slice Ao64 t232.length co64 : Value).ownBlock ∧ some k_ ≠ (.slice Ao68 t239.length co68 : Value).ownBlock)) (by (with_reducible repeat (first | apply Kd.R_alloc | apply Kd.R_drewN | apply Kd.R_drew)); exact Kd.R_mono HO247.out (fun _ hk => ⟨⟨hk.1.1.1.1.2, ⟨hk.1.1.1.2, ⟨hk.1.1.2, hk.1.2⟩⟩⟩, hk.2⟩)) hg hat); have n7_ := Aside0.mk (hb); have n8_ := Aside0.mk (ho); clear BK207; clear BK218; clear HO222; clear HO228; clear HO234; clear HO241; clear HO247; clear HB; clear HO244; have BK207 := n0_; have BK218 := n1_; have HO222 := n2_; have HO228 := n3_; have HO234 := n4_; have HO241 := n5_; have HO247 := n6_; have HB := n7_; have HO250 := n8_; clear n0_ n1_ n2_ n3_ n4_ n5_ n6_ n7_ n8_; clear ho hb hg hat; have hcz73_0 : w71.cell? ⟨gb218, 0, none⟩ = some (.int .u32 ((rd_T41 l0_2 x5_2).f0.f0)) := (blk_cell BK218.out 0).trans rfl; have hcz73_1 : w71.cell? ⟨gb218, 1, none⟩ = some (.int .i64 ((rd_T41 l0_2 x5_2).f0.f1)) := (blk_cell BK218.out 1).trans rfl; have hcz73_2 : w71.cell? ⟨gb218, 2, none⟩ = some (.int .u16 ((rd_T41 l0_2 x5_2).f1)) := (blk_cell BK218.out 2).trans rfl; have hcz73_3 : w71.cell? ⟨gb218, 3, none⟩ = some (.int .u32 ((rd_T41 l0_2 x5_2).f2)) := (blk_cell BK218.out 3).trans rfl; have hcz73_4 : w71.cell? ⟨gb218, 4, none⟩ = some (.int .i64 ((rd_T41 l0_2 x5_2).f3)) := (blk_cell BK218.out 4).trans rfl; have hfz73_0 := blk_frozen BK218.out 0; have hfz73_1 := blk_frozen BK218.out 1; have hfz73_2 := blk_frozen BK218.out 2; have hfz73_3 := blk_frozen BK218.out 3; have hfz73_4 := blk_frozen BK218.out 4) | ((with_reducible refine gate_callee (f := 23) rfl ?_); refine goesL_ (some 91) rfl rfl Try.func23 (by kernel_rfl) rfl #[.int .u32 (((rd_T41 l0_2 x5_2).f3) % 4294967296), .int .i64 4] rfl (by (try simp only [List.map_toArray, List.map_cons, List.map_nil]); first | done | rfl | (simp only [List.length_drop, List.length_take]; rfl)) ?_; (with_reducible refine (octroiref01_Put.calls k2 (((rd_T41 l0_2 x5_2).f3) % 4294967296) 4 t251 _ A46.out).mono ?_); rintro e w74 ⟨v252, rfl, ho0, hb⟩; refine ⟨_, rfl, ?_⟩; have n0_ := Aside0.mk (Kd.R_elder' (by (with_reducible repeat (first | apply Kd.R_alloc | apply Kd.R_drewN | apply Kd.R_drew)); exact HO222.out) (Kd.R_base ho0) hb); have n1_ := Aside0.mk (Kd.R_elder' (by (with_reducible repeat (first | apply Kd.R_alloc | apply Kd.R_drewN | apply Kd.R_drew)); exact HO228.out) (Kd.R_base ho0) hb); have n2_ := Aside0.mk (Kd.R_elder' (by (with_reducible repeat (first | apply Kd.R_alloc | apply Kd.R_drewN | apply Kd.R_drew)); exact HO234.out) (Kd.R_base ho0) hb); have n3_ := Aside0.mk (Kd.R_elder' (by (with_reducible repeat (first | apply Kd.R_alloc | apply Kd.R_drewN | apply Kd.R_drew)); exact HO241.out) (Kd.R_base ho0) hb); have n4_ := Aside0.mk (Kd.R_elder' (by (with_reducible repeat (first | apply Kd.R_alloc | apply Kd.R_drewN | apply Kd.R_drew)); exact HO247.out) (Kd.R_base ho0) hb); have n5_ := Aside0.mk (Kd.R_elder' (by (with_reducible repeat (first | apply Kd.R_alloc | apply Kd.R_drewN | apply Kd.R_drew)); exact HO250.out) (Kd.R_base ho0) hb); have n6_ := Aside0.mk (Kd.R_lower (Kd.R_new' (Kd.R_new' (Kd.R_new' (Kd.R_new' (Kd.R_new' (Kd.R_new' ho0 (Kd.R_lt (by (with_reducible repeat (first | apply Kd.R_alloc | apply Kd.R_drewN | apply Kd.R_drew)); exact HO222.out))) (Kd.R_lt (by (with_reducible repeat (first | apply Kd.R_alloc | apply Kd.R_drewN | apply Kd.R_drew)); exact HO228.out))) (Kd.R_lt (by (with_reducible repeat (first | apply Kd.R_alloc | apply Kd.R_drewN | apply Kd.R_drew)); exact HO234.out))) (Kd.R_lt (by (with_reducible repeat (first | apply Kd.R_alloc | apply Kd.R_drewN | apply Kd.R_drew)); exact HO241.out))) (Kd.R_lt (by (with_reducible repeat (first | apply Kd.R_alloc | apply Kd.R_drewN | apply Kd.R_drew)); exact HO247.out))) (Kd.R_lt (by (with_reducible repeat (first | apply Kd.R_alloc | apply Kd.R_drewN | apply Kd.R_drew)); exact HO250.out))) (below_size (by repeat (first | (with_reducible first | exact HB.out | apply below_alloc | apply pw_below_drewN | apply below_drew1 | refine below_set ?_ GE207.out | refine below_set ?_ GE218.out) | exact HB.out)))); have n7_ := Aside0.mk (blk_below (g := gb207) (o := .cells #[.int .i64 a0_0, .bool false, .slice (some ad217) l0_2.length c0_2] 24 (0, 0)) (by (with_reducible repeat (first | refine blk_drewN ?_ _ | refine blk_drew ?_ | refine blk_alloc ?_ _)); exact BK207.out) hb); have n8_ := Aside0.mk (blk_below (g := gb218) (o := .cells #[.int .u32 ((rd_T41 l0_2 x5_2).f0.f0), .int .i64 ((rd_T41 l0_2 x5_2).f0.f1), .int .u16 ((rd_T41 l0_2 x5_2).f1), .int .u32 ((rd_T41 l0_2 x5_2).f2), .int .i64 ((rd_T41 l0_2 x5_2).f3)] 41 (0, 0)) (by (with_reducible repeat (first | refine blk_drewN ?_ _ | refine blk_drew ?_ | refine blk_alloc ?_ _)); exact BK218.out) hb); have n9_ := Aside0.mk (below_step (by repeat (first | (with_reducible first | exact HB.out | apply below_alloc | apply pw_below_drewN | apply below_drew1 | refine below_set ?_ GE207.out | refine below_set ?_ GE218.out) | exact HB.out)) hb); clear HO222; clear HO228; clear HO234; clear HO241; clear HO247; clear HO250; clear BK207; clear BK218; clear HB; have HO222 := n0_; have HO228 := n1_; have HO234 := n2_; have HO241 := n3_; have HO247 := n4_; have HO250 := n5_; have HO253 := n6_; have BK207 := n7_; have BK218 := n8_; have HB := n9_; clear n0_ n1_ n2_ n3_ n4_ n5_ n6_ n7_ n8_ n9_; (try clear hb); (try clear hb2); (try clear hk); (try clear hi); (try clear ho0); obtain ⟨Ao76, co76, eo76⟩ := Kd.R_slice HO253.out; subst eo76) | ((with_reducible refine gate_builtin (b := .append) (xs := #[.tmp 87, .tmp 91]) rfl ?_); (try (refine gate_guard (by rfl) ?_; dsimp only)); at_builtin; refine Kd.R_append_rows (Kd.int .u8) (w0 := w) w.heap.size rfl (.tmp 87) (.tmp 91) 26 5 (.int .u8 0) 1 rfl Try.underlying26 info5 rfl (by decide) (by omega) v249 y248 t251 _ _ _ (fun k_ => some k_ ≠ (.slice Ao56 y220.length co56 : Value).ownBlock ∧ some k_ ≠ (.slice Ao60 t226.length co60 : Value).ownBlock ∧ some k_ ≠ (.slice Ao64 t232.length co64 : Value).ownBlock ∧ some k_ ≠ (.slice Ao68 t239.length co68 : Value).ownBlock ∧ some k_ ≠ (.slice Ao72 t245.length co72 : Value).ownBlock ∧ some k_ ≠ (.slice Ao76 t251.length co76 : Value).ownBlock) (fun _ => False) rfl rfl ?aO ?aR (fun _ _ h => h) (fun _ h => h.elim) ?aF ?aB ?aS ?aL ?_; (case aR => repeat (first | exact (Kd.R_reads' HO253.out).2.2 | (with_reducible refine Kd.C_alloc ?_ _) | (with_reducible refine Kd.C_drewN ?_ _) | (with_reducible refine Kd.C_drew ?_))); (case aB => exact (by repeat (first | (with_reducible first | exact HB.out | apply below_alloc | apply pw_below_drewN | apply below_drew1 | refine below_set ?_ GE207.out | refine below_set ?_ GE218.out) | exact HB.out))); (case aF => exact (fun k_ hk => ⟨Kd.fresh' (Kd.R_lt (by (with_reducible repeat (first | apply Kd.R_alloc | apply Kd.R_drewN | apply Kd.R_drew)); exact HO222.out)) k_ hk, Kd.fresh' (Kd.R_lt (by (with_reducible repeat (first | apply Kd.R_alloc | apply Kd.R_drewN | apply Kd.R_drew)); exact HO228.out)) k_ hk, Kd.fresh' (Kd.R_lt (by (with_reducible repeat (first | apply Kd.R_alloc | apply Kd.R_drewN | apply Kd.R_drew)); exact HO234.out)) k_ hk, Kd.fresh' (Kd.R_lt (by (with_reducible repeat (first | apply Kd.R_alloc | apply Kd.R_drewN | apply Kd.R_drew)); exact HO241.out)) k_ hk, Kd.fresh' (Kd.R_lt (by (with_reducible repeat (first | apply Kd.R_alloc | apply Kd.R_drewN | apply Kd.R_drew)); exact HO247.out)) k_ hk, Kd.fresh' (Kd.R_lt (by (with_reducible repeat (first | apply Kd.R_alloc | apply Kd.R_drewN | apply Kd.R_drew)); exact HO253.out)) k_ hk⟩)); (case aO => exact (by (with_reducible repeat (first | apply Kd.R_alloc | apply Kd.R_drewN | apply Kd.R_drew)); exact Kd.R_mono HO250.out (fun _ hk => ⟨hk.1.1, ⟨hk.1.2.1, ⟨hk.1.2.2.1, ⟨hk.1.2.2.2.1, ⟨hk.1.2.2.2.2, hk.2⟩⟩⟩⟩⟩))); (case aS => exact (below_size (by repeat (first | (with_reducible first | exact HB.out | apply below_alloc | apply pw_below_drewN | apply below_drew1 | refine below_set ?_ GE207.out | refine below_set ?_ GE218.out) | exact HB.out)))); (case aL => have := LMc47.out; omega); intro v255 w75 ho hb hg hat; rw [← Ny254.out] at ho; have n0_ := Aside0.mk (blk_grown (g := gb207) (o := .cells #[.int .i64 a0_0, .bool false, .slice (some ad217) l0_2.length c0_2] 24 (0, 0)) (by (with_reducible repeat (first | refine blk_drewN ?_ _ | refine blk_drew ?_ | refine blk_alloc ?_ _)); exact BK207.out) hg (Kd.R_ne HO250.out BK207.out (by decide))); have n1_ := Aside0.mk (blk_grown (g := gb218) (o := .cells #[.int .u32 ((rd_T41 l0_2 x5_2).f0.f0), .int .i64 ((rd_T41 l0_2 x5_2).f0.f1), .int .u16 ((rd_T41 l0_2 x5_2).f1), .int .u32 ((rd_T41 l0_2 x5_2).f2), .int .i64 ((rd_T41 l0_2 x5_2).f3)] 41 (0, 0)) (by (with_reducible repeat (first | refine blk_drewN ?_ _ | refine blk_drew ?_ | refine blk_alloc ?_ _)); exact BK218.out) hg (Kd.R_ne HO250.out BK218.out (by decide))); have n2_ := Aside0.mk (Kd.R_after (ok := (fun k_ => some k_ ≠ (.slice Ao60 t226.length co60 : Value).ownBlock ∧ some k_ ≠ (.slice Ao64 t232.length co64 : Value).ownBlock ∧ some k_ ≠ (.slice Ao68 t239.length co68 : Value).ownBlock ∧ some k_ ≠ (.slice Ao72 t245.length co72 : Value).ownBlock ∧ some k_ ≠ (.slice Ao76 t251.length co76 : Value).ownBlock)) (by (with_reducible repeat (first | apply Kd.R_alloc | apply Kd.R_drewN | apply Kd.R_drew)); exact Kd.R_mono HO222.out (fun _ hk => ⟨⟨hk.1.1.1, ⟨hk.1.1.2.1, ⟨hk.1.1.2.2.1, ⟨hk.1.1.2.2.2, hk.2⟩⟩⟩⟩, hk.1.2⟩)) hg hat); have n3_ := Aside0.mk (Kd.R_after (ok := (fun k_ => some k_ ≠ (.slice Ao56 y220.length co56 : Value).ownBlock ∧ some k_ ≠ (.slice Ao64 t232.length co64 : Value).ownBlock ∧ some k_ ≠ (.slice Ao68 t239.length co68 : Value).ownBlock ∧ some k_ ≠ (.slice Ao72 t245.length co72 : Value).ownBlock ∧ some k_ ≠ (.slice Ao76 t251.length co76 : Value).ownBlock)) (by (with_reducible repeat (first | apply Kd.R_alloc | apply Kd.R_drewN | apply Kd.R_drew)); exact Kd.R_mono HO228.out (fun _ hk => ⟨⟨hk.1.1.1, ⟨hk.1.1.2.1, ⟨hk.1.1.2.2.1, ⟨hk.1.1.2.2.2, hk.2⟩⟩⟩⟩, hk.1.2⟩)) hg hat); have n4_ := Aside0.mk (Kd.R_after (ok := (fun k_ => some k_ ≠ (.slice Ao56 y220.length co56 : Value).ownBlock ∧ some k_ ≠ (.slice Ao60 t226.length co60 : Value).ownBlock ∧ some k_ ≠ (.slice Ao68 t239.length co68 : Value).ownBlock ∧ some k_ ≠ (.slice Ao72 t245.length co72 : Value).ownBlock ∧ some k_ ≠ (.slice Ao76 t251.length co76 : Value).ownBlock)) (by (with_reducible repeat (first | apply Kd.R_alloc | apply Kd.R_drewN | apply Kd.R_drew)); exact Kd.R_mono HO234.out (fun _ hk => ⟨⟨hk.1.1.1, ⟨hk.1.1.2.1, ⟨hk.1.1.2.2.1, ⟨hk.1.1.2.2.2, hk.2⟩⟩⟩⟩, hk.1.2⟩)) hg hat); have n5_ := Aside0.mk (Kd.R_after (ok := (fun k_ => some k_ ≠ (.slice Ao56 y220.length co56 : Value).ownBlock ∧ some k_ ≠ (.slice Ao60 t226.length co60 : Value).ownBlock ∧ some k_ ≠ (.slice Ao64 t232.length co64 : Value).ownBlock ∧ some k_ ≠ (.slice Ao72 t245.length co72 : Value).ownBlock ∧ some k_ ≠ (.slice Ao76 t251.length co76 : Value).ownBlock)) (by (with_reducible repeat (first | apply Kd.R_alloc | apply Kd.R_drewN | apply Kd.R_drew)); exact Kd.R_mono HO241.out (fun _ hk => ⟨⟨hk.1.1.1, ⟨hk.1.1.2.1, ⟨hk.1.1.2.2.1, ⟨hk.1.1.2.2.2, hk.2⟩⟩⟩⟩, hk.1.2⟩)) hg hat); have n6_ := Aside0.mk (Kd.R_after (ok := (fun k_ => some k_ ≠ (.slice Ao56 y220.length co56 : Value).ownBlock ∧ some k_ ≠ (.slice Ao60 t226.length co60 : Value).ownBlock ∧ some k_ ≠ (.slice Ao64 t232.length co64 : Value).ownBlock ∧ some k_ ≠ (.slice Ao68 t239.length co68 : Value).ownBlock ∧ some k_ ≠ (.slice Ao76 t251.length co76 : Value).ownBlock)) (by (with_reducible repeat (first | apply Kd.R_alloc | apply Kd.R_drewN | apply Kd.R_drew)); exact Kd.R_mono HO247.out (fun _ hk => ⟨⟨hk.1.1.1, ⟨hk.1.1.2.1, ⟨hk.1.1.2.2.1, ⟨hk.1.1.2.2.2, hk.2⟩⟩⟩⟩, hk.1.2⟩)) hg hat); have n7_ := Aside0.mk (Kd.R_after (ok := (fun k_ => some k_ ≠ (.slice Ao56 y220.length co56 : Value).ownBlock ∧ some k_ ≠ (.slice Ao60 t226.length co60 : Value).ownBlock ∧ some k_ ≠ (.slice Ao64 t232.length co64 : Value).ownBlock ∧ some k_ ≠ (.slice Ao68 t239.length co68 : Value).ownBlock ∧ some k_ ≠ (.slice Ao72 t245.length co72 : Value).ownBlock)) (by (with_reducible repeat (first | apply Kd.R_alloc | apply Kd.R_drewN | apply Kd.R_drew)); exact Kd.R_mono HO253.out (fun _ hk => ⟨⟨hk.1.1.1.1.1.2, ⟨hk.1.1.1.1.2, ⟨hk.1.1.1.2, ⟨hk.1.1.2, hk.1.2⟩⟩⟩⟩, hk.2⟩)) hg hat); have n8_ := Aside0.mk (hb); have n9_ := Aside0.mk (ho); clear BK207; clear BK218; clear HO222; clear HO228; clear HO234; clear HO241; clear HO247; clear HO253; clear HB; clear HO250; have BK207 := n0_; have BK218 := n1_; have HO222 := n2_; have HO228 := n3_; have HO234 := n4_; have HO241 := n5_; have HO247 := n6_; have HO253 := n7_; have HB := n8_; have HO256 := n9_; clear n0_ n1_ n2_ n3_ n4_ n5_ n6_ n7_ n8_ n9_; clear ho hb hg hat))
                                  go_roundg k2
                                  case measure => have := HJ4.out; have := HK2.out; omega
                                  case rel => exact ⟨(y254), (wrap64 (x5_2 + 1)), (by first | rfl | (simp; done) | (simp [*]; done)), H', ⟨by have := HJ4.out; have := HK2.out; omega⟩, ⟨by (with_reducible repeat (first | apply Kd.R_alloc | apply Kd.R_drewN | apply Kd.R_drew)); exact Kd.R_mono HO256.out (fun _ hk => trivial)⟩, ⟨by (with_reducible repeat (first | refine blk_drewN ?_ _ | refine blk_drew ?_ | refine blk_alloc ?_ _)); exact BK207.out⟩, ⟨by repeat (first | (with_reducible first | exact HB.out | apply below_alloc | apply pw_below_drewN | apply below_drew1 | refine below_set ?_ GE207.out | refine below_set ?_ GE218.out) | exact HB.out)⟩⟩
                                · rw [if_neg c47] at H
                                  exact absurd H (by simp)
                              · rw [if_neg c45] at H
                                exact absurd H (by simp)
                            · rw [if_neg c43] at H
                              exact absurd H (by simp)
                          · rw [if_neg c40] at H
                            exact absurd H (by simp)
                        · rw [if_neg c38] at H
                          exact absurd H (by simp)
                      · rw [if_neg c36] at H
                        exact absurd H (by simp)
                    · replace c35 := Bool.eq_false_iff.mpr c35
                      subst c35
                      have H1 : (some (([] : List Int), 1)) = some (r1, r2) := by rw [if_neg (show ¬ (false = true) by decide)] at H; exact H
                      clear H
                      have H := H1
                      clear H1
                      simp only [Option.some.injEq, Prod.mk.injEq] at H
                      obtain ⟨rfl, rfl⟩ := H
                      have hcz77_0 : wr.cell? ⟨gb207, 0, none⟩ = some (.int .i64 a0_0) := (blk_cell BK207.out 0).trans rfl
                      have hcz77_1 : wr.cell? ⟨gb207, 1, none⟩ = some (.bool false) := (blk_cell BK207.out 1).trans rfl
                      have hcz77_2 : wr.cell? ⟨gb207, 2, none⟩ = some (.slice A0_2 l0_2.length c0_2) := (blk_cell BK207.out 2).trans rfl
                      have hfz77_0 := blk_frozen BK207.out 0
                      have hfz77_1 := blk_frozen BK207.out 1
                      have hfz77_2 := blk_frozen BK207.out 2
                      have p217 : 0 ≤ (x5_2 : Int) := of_decide_eq_true (by first | (with_reducible assumption) | assumption)
                      have q217 : x5_2 < (l0_2.length : Int) := of_decide_eq_true (by first | (with_reducible assumption) | assumption)
                      obtain ⟨ad217, e217, hx217_0, hx217_1, hx217_2, hx217_3, hx217_4⟩ := at_T41 HR0_2.out x5_2 p217 q217
                      cases e217
                      replace hx217_0 := (HB.out.cell (World.block_lt_of_cell? w _ hx217_0)).trans hx217_0
                      replace hx217_1 := (HB.out.cell (World.block_lt_of_cell? w _ hx217_1)).trans hx217_1
                      replace hx217_2 := (HB.out.cell (World.block_lt_of_cell? w _ hx217_2)).trans hx217_2
                      replace hx217_3 := (HB.out.cell (World.block_lt_of_cell? w _ hx217_3)).trans hx217_3
                      replace hx217_4 := (HB.out.cell (World.block_lt_of_cell? w _ hx217_4)).trans hx217_4
                      replace p217 := eq_true p217
                      replace q217 := eq_true q217
                      go_wp2_with (first | ((with_reducible refine gate_dst (N := 6) rfl ?_); (try (refine gate_guard (by rfl) ?_; dsimp only)); refine box_event ?hg (N := 6) ?hd (cs := #[.int .u32 0, .int .i64 0, .int .u16 0, .int .u32 0, .int .i64 0]) (t := 41) ?hr ?_; (case hd => rfl); (case hg => rfl); (case hr => first | (go_simp; done) | (go_simp; rfl)); intro gb218 hg w78 hbox hb; have n0_ := Aside0.mk (Kd.R_below (by (with_reducible repeat (first | apply Kd.R_alloc | apply Kd.R_drewN | apply Kd.R_drew)); exact HO_4.out) hb); have n1_ := Aside0.mk (blk_below (g := gb207) (o := .cells #[.int .i64 a0_0, .bool false, .slice (some ad217) l0_2.length c0_2] 24 (0, 0)) (by (with_reducible repeat (first | refine blk_drewN ?_ _ | refine blk_drew ?_ | refine blk_alloc ?_ _)); exact BK207.out) hb); have n2_ := Aside0.mk (below_step (by repeat (first | (with_reducible first | exact HB.out | apply below_alloc | apply pw_below_drewN | apply below_drew1 | refine below_set ?_ GE207.out) | exact HB.out)) hb); have n3_ := Aside0.mk (hbox); have n4_ := Aside0.mk ((by rw [hg]; exact (below_size (by repeat (first | (with_reducible first | exact HB.out | apply below_alloc | apply pw_below_drewN | apply below_drew1 | refine below_set ?_ GE207.out) | exact HB.out))) : w.heap.size ≤ gb218)); have n5_ := Aside0.mk ((by rw [hg]; exact (below_size (by repeat (first | (with_reducible first | exact HB.out | apply below_alloc | apply pw_below_drewN | apply below_drew1 | refine below_set ?_ GE207.out) | exact HB.out))) : w.heap.size ≤ gb218)); have n6_ := Aside0.mk ((by rw [hg]; exact Nat.ne_of_lt (blk_lt (g := gb207) (o := .cells #[.int .i64 a0_0, .bool false, .slice (some ad217) l0_2.length c0_2] 24 (0, 0)) (by (with_reducible repeat (first | refine blk_drewN ?_ _ | refine blk_drew ?_ | refine blk_alloc ?_ _)); exact BK207.out)) : gb207 ≠ gb218)); have n7_ := Aside0.mk ((by rw [hg]; exact Nat.ne_of_gt (blk_lt (g := gb207) (o := .cells #[.int .i64 a0_0, .bool false, .slice (some ad217) l0_2.length c0_2] 24 (0, 0)) (by (with_reducible repeat (first | refine blk_drewN ?_ _ | refine blk_drew ?_ | refine blk_alloc ?_ _)); exact BK207.out)) : gb218 ≠ gb207)); clear HO_4; clear BK207; clear HB; have HO_4 := n0_; have BK207 := n1_; have HB := n2_; have BK218 := n3_; have GW218 := n4_; have GE218 := n5_; have NB207_218 := n6_; have NB218_207 := n7_; clear n0_ n1_ n2_ n3_ n4_ n5_ n6_ n7_; clear hb hbox hg; have hnb79 := NB218_207.out; have hnc79 := NB207_218.out; have hcz80_0 : w78.cell? ⟨gb218, 0, none⟩ = some (.int .u32 0) := (blk_cell BK218.out 0).trans rfl; have hcz80_1 : w78.cell? ⟨gb218, 1, none⟩ = some (.int .i64 0) := (blk_cell BK218.out 1).trans rfl; have hcz80_2 : w78.cell? ⟨gb218, 2, none⟩ = some (.int .u16 0) := (blk_cell BK218.out 2).trans rfl; have hcz80_3 : w78.cell? ⟨gb218, 3, none⟩ = some (.int .u32 0) := (blk_cell BK218.out 3).trans rfl; have hcz80_4 : w78.cell? ⟨gb218, 4, none⟩ = some (.int .i64 0) := (blk_cell BK218.out 4).trans rfl; have hfz80_0 := blk_frozen BK218.out 0; have hfz80_1 := blk_frozen BK218.out 1; have hfz80_2 := blk_frozen BK218.out 2; have hfz80_3 := blk_frozen BK218.out 3; have hfz80_4 := blk_frozen BK218.out 4) | ((with_reducible refine gate_callee (f := 22) rfl ?_); refine goesL_ (some 57) rfl rfl Try.func22 (by kernel_rfl) rfl #[.agg #[.int .u32 ((rd_T41 l0_2 x5_2).f0.f0), .int .i64 ((rd_T41 l0_2 x5_2).f0.f1), .int .u16 ((rd_T41 l0_2 x5_2).f1), .int .u32 ((rd_T41 l0_2 x5_2).f2), .int .i64 ((rd_T41 l0_2 x5_2).f3)]] rfl (by (try simp only [List.map_toArray, List.map_cons, List.map_nil]); first | done | rfl | (simp only [List.length_drop, List.length_take]; rfl)) ?_; (with_reducible refine (octroiref05_entry.calls k2 ((rd_T41 l0_2 x5_2).f0.f0) ((rd_T41 l0_2 x5_2).f0.f1) ((rd_T41 l0_2 x5_2).f1) ((rd_T41 l0_2 x5_2).f2) ((rd_T41 l0_2 x5_2).f3) false _ A34.out).mono ?_); rintro e w81 ⟨rfl, hb⟩; refine ⟨_, rfl, ?_⟩; have n0_ := Aside0.mk (Kd.R_below (by (with_reducible repeat (first | apply Kd.R_alloc | apply Kd.R_drewN | apply Kd.R_drew)); exact (Kd.R_mono (Kd.R_far (p := ⟨gb218, 4, none⟩) (Kd.R_far (p := ⟨gb218, 3, none⟩) (Kd.R_far (p := ⟨gb218, 2, none⟩) (Kd.R_far (p := ⟨gb218, 1, none⟩) (Kd.R_far (p := ⟨gb218, 0, none⟩) (Kd.R_types HO_4.out BK218.out (by decide)) (fun _ hk => hk.2) (.int .u32 ((rd_T41 l0_2 x5_2).f0.f0))) (fun _ hk => hk.2) (.int .i64 ((rd_T41 l0_2 x5_2).f0.f1))) (fun _ hk => hk.2) (.int .u16 ((rd_T41 l0_2 x5_2).f1))) (fun _ hk => hk.2) (.int .u32 ((rd_T41 l0_2 x5_2).f2))) (fun _ hk => hk.2) (.int .i64 ((rd_T41 l0_2 x5_2).f3))) (fun _ h_ => h_.1))) hb); have n1_ := Aside0.mk (blk_below (g := gb207) (o := .cells #[.int .i64 a0_0, .bool false, .slice (some ad217) l0_2.length c0_2] 24 (0, 0)) (by (with_reducible repeat (first | refine blk_drewN ?_ _ | refine blk_drew ?_ | refine blk_alloc ?_ _)); refine blk_far ?_ NB207_218.out _; (with_reducible repeat (first | refine blk_drewN ?_ _ | refine blk_drew ?_ | refine blk_alloc ?_ _)); refine blk_far ?_ NB207_218.out _; (with_reducible repeat (first | refine blk_drewN ?_ _ | refine blk_drew ?_ | refine blk_alloc ?_ _)); refine blk_far ?_ NB207_218.out _; (with_reducible repeat (first | refine blk_drewN ?_ _ | refine blk_drew ?_ | refine blk_alloc ?_ _)); refine blk_far ?_ NB207_218.out _; (with_reducible repeat (first | refine blk_drewN ?_ _ | refine blk_drew ?_ | refine blk_alloc ?_ _)); refine blk_far ?_ NB207_218.out _; (with_reducible repeat (first | refine blk_drewN ?_ _ | refine blk_drew ?_ | refine blk_alloc ?_ _)); exact BK207.out) hb); have n2_ := Aside0.mk (blk_below (g := gb218) (o := .cells #[.int .u32 ((rd_T41 l0_2 x5_2).f0.f0), .int .i64 ((rd_T41 l0_2 x5_2).f0.f1), .int .u16 ((rd_T41 l0_2 x5_2).f1), .int .u32 ((rd_T41 l0_2 x5_2).f2), .int .i64 ((rd_T41 l0_2 x5_2).f3)] 41 (0, 0)) (by (with_reducible repeat (first | refine blk_drewN ?_ _ | refine blk_drew ?_ | refine blk_alloc ?_ _)); refine blk_put (cs := #[.int .u32 ((rd_T41 l0_2 x5_2).f0.f0), .int .i64 ((rd_T41 l0_2 x5_2).f0.f1), .int .u16 ((rd_T41 l0_2 x5_2).f1), .int .u32 ((rd_T41 l0_2 x5_2).f2), .int .i64 0]) ?_ 4 _ rfl; (with_reducible repeat (first | refine blk_drewN ?_ _ | refine blk_drew ?_ | refine blk_alloc ?_ _)); refine blk_put (cs := #[.int .u32 ((rd_T41 l0_2 x5_2).f0.f0), .int .i64 ((rd_T41 l0_2 x5_2).f0.f1), .int .u16 ((rd_T41 l0_2 x5_2).f1), .int .u32 0, .int .i64 0]) ?_ 3 _ rfl; (with_reducible repeat (first | refine blk_drewN ?_ _ | refine blk_drew ?_ | refine blk_alloc ?_ _)); refine blk_put (cs := #[.int .u32 ((rd_T41 l0_2 x5_2).f0.f0), .int .i64 ((rd_T41 l0_2 x5_2).f0.f1), .int .u16 0, .int .u32 0, .int .i64 0]) ?_ 2 _ rfl; (with_reducible repeat (first | refine blk_drewN ?_ _ | refine blk_drew ?_ | refine blk_alloc ?_ _)); refine blk_put (cs := #[.int .u32 ((rd_T41 l0_2 x5_2).f0.f0), .int .i64 0, .int .u16 0, .int .u32 0, .int .i64 0]) ?_ 1 _ rfl; (with_reducible repeat (first | refine blk_drewN ?_ _ | refine blk_drew ?_ | refine blk_alloc ?_ _)); refine blk_put (cs := #[.int .u32 0, .int .i64 0, .int .u16 0, .int .u32 0, .int .i64 0]) ?_ 0 _ rfl; (with_reducible repeat (first | refine blk_drewN ?_ _ | refine blk_drew ?_ | refine blk_alloc ?_ _)); exact BK218.out) hb); have n3_ := Aside0.mk (below_step (by repeat (first | (with_reducible first | exact HB.out | apply below_alloc | apply pw_below_drewN | apply below_drew1 | refine below_set ?_ GE207.out | refine below_set ?_ GE218.out) | exact HB.out)) hb); clear HO_4; clear BK207; clear BK218; clear HB; have HO_4 := n0_; have BK207 := n1_; have BK218 := n2_; have HB := n3_; clear n0_ n1_ n2_ n3_; (try clear hb); (try clear hb2); (try clear hk); (try clear hi)))
                      go_ret2
                      exact ⟨_, by first | rfl | (simp [errW_none, errW_some] <;> rfl) | (simp [*, errW_none, errW_some] <;> rfl), by first | exact Kd.R_nil _ _ _ _ _ | exact Kd.N_nil _ _ _ _ _ | exact Kd.V_nil _ _ _ _ _ | exact Kd.Q_nil _ _ _ _ _ | exact Kd.S_nil _ _ _ _ _, by repeat (first | (with_reducible first | exact HB.out | apply below_alloc | apply pw_below_drewN | apply below_drew1 | refine below_set ?_ GE207.out | refine below_set ?_ GE218.out) | exact HB.out)⟩
                  · rw [if_neg c33] at H
                    exact absurd H (by simp)
                · rw [if_neg c32] at H
                  have c32b0 : decide (x5_2 < (l0_2.length : Int)) = false := decide_eq_false c32
                  clear c32
                  simp only [Option.some.injEq, Prod.mk.injEq] at H
                  obtain ⟨rfl, rfl⟩ := H
                  have hcz82_0 : wr.cell? ⟨gb207, 0, none⟩ = some (.int .i64 a0_0) := (blk_cell BK207.out 0).trans rfl
                  have hcz82_1 : wr.cell? ⟨gb207, 1, none⟩ = some (.bool false) := (blk_cell BK207.out 1).trans rfl
                  have hcz82_2 : wr.cell? ⟨gb207, 2, none⟩ = some (.slice A0_2 l0_2.length c0_2) := (blk_cell BK207.out 2).trans rfl
                  have hfz82_0 := blk_frozen BK207.out 0
                  have hfz82_1 := blk_frozen BK207.out 1
                  have hfz82_2 := blk_frozen BK207.out 2
                  go_wp2
                  go_ret2
                  exact ⟨_, by first | rfl | (simp [errW_none, errW_some] <;> rfl) | (simp [*, errW_none, errW_some] <;> rfl), by (with_reducible repeat (first | apply Kd.R_alloc | apply Kd.R_drewN | apply Kd.R_drew)); exact HO_4.out, by repeat (first | (with_reducible first | exact HB.out | apply below_alloc | apply pw_below_drewN | apply below_drew1 | refine below_set ?_ GE207.out) | exact HB.out)⟩

end Go.Proofs.Ytahllmihgpaaeaa.PRippktEncodes
