/-
Hops, and costs, never go beyond what is not reached, and a link of one more is never less. No condition beyond the statement's own.
-/
import Derived.Test.YtghlhdjngihkoaaPMetricHopsx3
import Derived.Laws.BitsAllLaws
namespace Go.Proofs.Ytghlhdjngihkoaa.Pure
open Go.RowKit Go.Proofs.Ytghlhdjngihkoaa.PMetricHops Go.Proofs.YtghlhdjngihkoaaW.PrintWords Go.Proofs.YtghlhdjngihkoaaW.PrintLast Go.Proofs.YtghlhdjngihkoaaW.PrintMore

theorem i64_of {x : Int} (h : (Lit.int .i64 x).wf = true) : -9223372036854775808 ≤ x ∧ x ≤ 9223372036854775807 := by
  simp [Lit.wf, IntKind.min, IntKind.max, IntKind.bits, IntKind.signed] at h
  omega
theorem w64 {x : Int} (h : -9223372036854775808 ≤ x ∧ x ≤ 9223372036854775807) : wrap64 x = x := by unfold wrap64; omega
theorem wrap64_eq (x : Int) : wrap64 x = (x + 9223372036854775808) % 18446744073709551616 - 9223372036854775808 := by unfold wrap64; rfl
theorem awake_now : octroilaw04_awake.f = some true := by decide +kernel
def mayP (b d h : Int) : Prop := 1 ≤ b ∧ b ≤ 10000000 ∧ 0 ≤ d ∧ d ≤ 16777216 ∧ 0 ≤ h ∧ h ≤ 100
instance (b d h : Int) : Decidable (mayP b d h) := by unfold mayP; infer_instance
def reachP (b d h : Int) : Prop := mayP b d h ∧ d < 16777216 ∧ h < 100
instance (b d h : Int) : Decidable (reachP b d h) := by unfold reachP; infer_instance
theorem may_eq (b d h : Int) : metric_May.f b d h = some (decide (mayP b d h)) := by
  unfold metric_May.f
  repeat' split
  all_goals (congr 1; symm; first | (rw [decide_eq_false_iff_not]; unfold mayP; omega) | (rw [decide_eq_decide]; unfold mayP; omega))
theorem reached_eq (b d h : Int) : metric_Reached.f b d h = some (decide (reachP b d h)) := by
  unfold metric_Reached.f
  rw [may_eq, Option.bind_some]
  by_cases m : mayP b d h
  · rw [if_pos (by simpa using m)]
    by_cases c : d < 16777216
    · rw [if_pos c]
      congr 1
      rw [decide_eq_decide]
      unfold reachP
      constructor
      · intro k; exact ⟨m, c, k⟩
      · intro k; exact k.2.2
    · rw [if_neg c]
      congr 1
      symm
      rw [decide_eq_false_iff_not]
      intro k
      exact c k.2.1
  · rw [if_neg (by simpa using m)]
    congr 1
    symm
    rw [decide_eq_false_iff_not]
    intro k
    exact m k.1
/-- How good a path is. -/
def ofv (b d h : Int) : Int := if reachP b d h then (if 256 * (10000000 / b + d) ≤ 4294967294 then 256 * (10000000 / b + d) else 4294967294) else 4294967295
theorem quo_bound (b : Int) (h : 1 ≤ b) : 0 ≤ 10000000 / b ∧ 10000000 / b ≤ 10000000 :=
  ⟨Int.ediv_nonneg (by omega) (by omega), by
    have := Int.ediv_le_self (a := 10000000) b (by omega)
    exact this⟩
theorem of_eq (b d h : Int) : metric_Of.f b d h = some (ofv b d h) := by
  unfold metric_Of.f ofv
  rw [reached_eq, Option.bind_some]
  by_cases hr : reachP b d h
  · rw [if_pos (by simpa using hr), if_pos hr]
    have hr' := hr
    unfold reachP mayP at hr'
    have hq := quo_bound b (by omega)
    rw [if_neg (by omega), Int.tdiv_eq_ediv_of_nonneg (by omega)]
    generalize 10000000 / b = q at *
    rw [w64 (x := q) (by omega), w64 (x := q + d) (by omega), w64 (x := 256 * (q + d)) (by omega)]
    unfold mn
    repeat' split
    all_goals first | rfl | omega
  · rw [if_neg (by simpa using hr), if_neg hr]
def bet (b d h b' d' h' : Int) : Prop := ofv b d h < ofv b' d' h' ∨ ofv b d h = ofv b' d' h' ∧ h < h'
instance (b d h b' d' h' : Int) : Decidable (bet b d h b' d' h') := by unfold bet; infer_instance

def addv (a b m : Int) : Int := if mx a 0 + mx b 0 ≤ mx m 0 then mx a 0 + mx b 0 else mx m 0
theorem add_eq (a b m : Int) (ha : -9223372036854775808 ≤ a ∧ a ≤ 9223372036854775807) (hb : -9223372036854775808 ≤ b ∧ b ≤ 9223372036854775807) (hm : -9223372036854775808 ≤ m ∧ m ≤ 9223372036854775807) :
    num_Add.f a b m = some (addv a b m) := by
  unfold num_Add.f addv mn mx
  simp only [wrap64_eq]
  repeat' split
  all_goals first | rfl | (congr 1; omega) | omega

theorem MetricHops : octroilaw04_MetricHops.Pure := by
  intro a b ha hb
  have ha := i64_of ha
  have hb := i64_of hb
  refine ⟨30, ?_⟩
  unfold octroilaw04_MetricHops.f
  rw [awake_now, Option.bind_some]
  by_cases h0 : a < 0
  · rw [if_pos h0]
    simp [octroilaw04_MetricHops.j0]
  rw [if_neg h0]
  by_cases h1 : b < 0
  · rw [if_pos h1]
    simp [octroilaw04_MetricHops.j0]
  rw [if_neg h1]
  by_cases h2 : b > 1000000
  · simp [octroilaw04_MetricHops.j0, h2]
  rw [decide_eq_false h2]
  simp only [octroilaw04_MetricHops.j0]
  rw [if_neg (by simp)]
  unfold metric_Hops.f metric_Cost.f
  rw [w64 (x := b + 1) (by omega), add_eq a b 16 ha hb (by omega), add_eq a b 65535 ha hb (by omega), add_eq a (b + 1) 16 ha (by omega) (by omega), add_eq a (b + 1) 65535 ha (by omega) (by omega)]
  simp only [Option.bind_some, if_true]
  have e : ∀ b m : Int, 0 ≤ b → 0 ≤ m → addv a b m = if a + b ≤ m then a + b else m := fun b m hb hm => by
    unfold addv mx
    repeat' split
    all_goals omega
  rw [e b 16 (by omega) (by omega), e b 65535 (by omega) (by omega), e (b + 1) 16 (by omega) (by omega), e (b + 1) 65535 (by omega) (by omega)]
  rw [if_pos (by split <;> omega), if_pos (by split <;> omega), if_pos (by repeat' split <;> omega), if_pos (by repeat' split <;> omega)]
  congr 1
  rw [decide_eq_true_eq]
  repeat' split
  all_goals omega

end Go.Proofs.Ytghlhdjngihkoaa.Pure
