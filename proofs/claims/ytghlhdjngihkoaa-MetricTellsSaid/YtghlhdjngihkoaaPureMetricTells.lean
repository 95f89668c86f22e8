/-
Whether any vector may be, is reached, how good it is, and whether it is better than any other one, is what the document says. No condition beyond the statement's own.
-/
import Derived.Test.YtghlhdjngihkoaaPMetricTellsx4
import Derived.Laws.BitsAllLaws
namespace Go.Proofs.Ytghlhdjngihkoaa.Pure
open Go.RowKit Go.Proofs.Ytghlhdjngihkoaa.PMetricTells Go.Proofs.YtghlhdjngihkoaaW.PrintWords Go.Proofs.YtghlhdjngihkoaaW.PrintLast Go.Proofs.YtghlhdjngihkoaaW.PrintMore

theorem i64_of {x : Int} (h : (Lit.int .i64 x).wf = true) : -9223372036854775808 ≤ x ∧ x ≤ 9223372036854775807 := by
  simp [Lit.wf, IntKind.min, IntKind.max, IntKind.bits, IntKind.signed] at h
  omega
theorem w64 {x : Int} (h : -9223372036854775808 ≤ x ∧ x ≤ 9223372036854775807) : wrap64 x = x := by unfold wrap64; omega
theorem wrap64_eq (x : Int) : wrap64 x = (x + 9223372036854775808) % 18446744073709551616 - 9223372036854775808 := by unfold wrap64; rfl
theorem awake_now : octroilaw04_awake.f = some true := by decide +kernel
def mayP (b d h : Int) : Prop := 1 ≤ b ∧ b ≤ 10000000 ∧ 0 ≤ d ∧ d ≤ 16777216 ∧ 0 ≤ h ∧ h ≤ 100
instance (b d h : Int) : Decidable (mayP b d h) := by unfold mayP; infer_instance
def reachP (b d h : Int) : Prop := mayP b d h ∧ d < 16777216 ∧ h < 100
instance (b d h : Int) : Decidable (reachP b d h) := by unfold reachP; infer_instance
theorem may_eq (b d h : Int) : metric_May.f b d h = some (decide (mayP b d h)) := by
  unfold metric_May.f
  repeat' split
  all_goals (congr 1; symm; first | (rw [decide_eq_false_iff_not]; unfold mayP; omega) | (rw [decide_eq_decide]; unfold mayP; omega))
theorem reached_eq (b d h : Int) : metric_Reached.f b d h = some (decide (reachP b d h)) := by
  unfold metric_Reached.f
  rw [may_eq, Option.bind_some]
  by_cases m : mayP b d h
  · rw [if_pos (by simpa using m)]
    by_cases c : d < 16777216
    · rw [if_pos c]
      congr 1
      rw [decide_eq_decide]
      unfold reachP
      constructor
      · intro k; exact ⟨m, c, k⟩
      · intro k; exact k.2.2
    · rw [if_neg c]
      congr 1
      symm
      rw [decide_eq_false_iff_not]
      intro k
      exact c k.2.1
  · rw [if_neg (by simpa using m)]
    congr 1
    symm
    rw [decide_eq_false_iff_not]
    intro k
    exact m k.1
/-- How good a path is. -/
def ofv (b d h : Int) : Int := if reachP b d h then (if 256 * (10000000 / b + d) ≤ 4294967294 then 256 * (10000000 / b + d) else 4294967294) else 4294967295
theorem quo_bound (b : Int) (h : 1 ≤ b) : 0 ≤ 10000000 / b ∧ 10000000 / b ≤ 10000000 :=
  ⟨Int.ediv_nonneg (by omega) (by omega), by
    have := Int.ediv_le_self (a := 10000000) b (by omega)
    exact this⟩
theorem of_eq (b d h : Int) : metric_Of.f b d h = some (ofv b d h) := by
  unfold metric_Of.f ofv
  rw [reached_eq, Option.bind_some]
  by_cases hr : reachP b d h
  · rw [if_pos (by simpa using hr), if_pos hr]
    have hr' := hr
    unfold reachP mayP at hr'
    have hq := quo_bound b (by omega)
    rw [if_neg (by omega), Int.tdiv_eq_ediv_of_nonneg (by omega)]
    generalize 10000000 / b = q at *
    rw [w64 (x := q) (by omega), w64 (x := q + d) (by omega), w64 (x := 256 * (q + d)) (by omega)]
    unfold mn
    repeat' split
    all_goals first | rfl | omega
  · rw [if_neg (by simpa using hr), if_neg hr]
def bet (b d h b' d' h' : Int) : Prop := ofv b d h < ofv b' d' h' ∨ ofv b d h = ofv b' d' h' ∧ h < h'
instance (b d h b' d' h' : Int) : Decidable (bet b d h b' d' h') := by unfold bet; infer_instance

theorem better_eq (b d h b' d' h' : Int) : metric_Better.f b d h b' d' h' = some (decide (bet b d h b' d' h')) := by
  unfold metric_Better.f
  rw [of_eq, of_eq, Option.bind_some, Option.bind_some]
  repeat' split
  all_goals (congr 1; symm; first | (rw [decide_eq_true_eq]; unfold bet; omega) | (rw [decide_eq_false_iff_not]; unfold bet; omega) | (rw [decide_eq_decide]; unfold bet; omega))

theorem rmay_eq (b d h : Int) : octroiref04_May.f b d h = metric_May.f b d h := rfl
theorem rreached_eq (b d h : Int) : octroiref04_Reached.f b d h = metric_Reached.f b d h := rfl
theorem rof_eq (b d h : Int) : octroiref04_Of.f b d h = some (ofv b d h) := by
  unfold octroiref04_Of.f ofv
  rw [rreached_eq, reached_eq, Option.bind_some]
  by_cases hr : reachP b d h
  · rw [if_pos (by simpa using hr), if_pos hr]
    have hr' := hr
    unfold reachP mayP at hr'
    have hq := quo_bound b (by omega)
    rw [if_neg (by omega), Int.tdiv_eq_ediv_of_nonneg (by omega)]
    generalize 10000000 / b = q at *
    rw [w64 (x := q) (by omega), w64 (x := q + d) (by omega), w64 (x := 256 * (q + d)) (by omega)]
    repeat' split
    all_goals first | rfl | omega
  · rw [if_neg (by simpa using hr), if_neg hr]
theorem rbetter_eq (b d h b' d' h' : Int) : octroiref04_Better.f b d h b' d' h' = some (decide (bet b d h b' d' h')) := by
  unfold octroiref04_Better.f
  rw [rof_eq, rof_eq, Option.bind_some, Option.bind_some]
  repeat' split
  all_goals (congr 1; symm; first | (rw [decide_eq_true_eq]; unfold bet; omega) | (rw [decide_eq_false_iff_not]; unfold bet; omega) | (rw [decide_eq_decide]; unfold bet; omega))
theorem MetricTells : octroilaw04_MetricTells.Pure := by
  intro b d h b' d' h' _ _ _ _ _ _
  unfold octroilaw04_MetricTells.f
  rw [awake_now, rmay_eq, rreached_eq, may_eq, reached_eq, of_eq, rof_eq, better_eq, rbetter_eq]
  simp

end Go.Proofs.Ytghlhdjngihkoaa.Pure
