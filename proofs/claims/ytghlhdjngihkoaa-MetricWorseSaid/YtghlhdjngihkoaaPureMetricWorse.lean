/-
A link ahead of a path never makes it better; with hops of its own it makes it worse, as long as it is reached at all. No condition beyond the statement's own.
-/
import Derived.Test.YtghlhdjngihkoaaPMetricWorsex4
import Derived.Laws.BitsAllLaws
namespace Go.Proofs.Ytghlhdjngihkoaa.Pure
open Go.RowKit Go.Proofs.Ytghlhdjngihkoaa.PMetricWorse Go.Proofs.YtghlhdjngihkoaaW.PrintWords Go.Proofs.YtghlhdjngihkoaaW.PrintLast Go.Proofs.YtghlhdjngihkoaaW.PrintMore

theorem i64_of {x : Int} (h : (Lit.int .i64 x).wf = true) : -9223372036854775808 ≤ x ∧ x ≤ 9223372036854775807 := by
  simp [Lit.wf, IntKind.min, IntKind.max, IntKind.bits, IntKind.signed] at h
  omega
theorem w64 {x : Int} (h : -9223372036854775808 ≤ x ∧ x ≤ 9223372036854775807) : wrap64 x = x := by unfold wrap64; omega
theorem wrap64_eq (x : Int) : wrap64 x = (x + 9223372036854775808) % 18446744073709551616 - 9223372036854775808 := by unfold wrap64; rfl
theorem awake_now : octroilaw04_awake.f = some true := by decide +kernel
def mayP (b d h : Int) : Prop := 1 ≤ b ∧ b ≤ 10000000 ∧ 0 ≤ d ∧ d ≤ 16777216 ∧ 0 ≤ h ∧ h ≤ 100
instance (b d h : Int) : Decidable (mayP b d h) := by unfold mayP; infer_instance
def reachP (b d h : Int) : Prop := mayP b d h ∧ d < 16777216 ∧ h < 100
instance (b d h : Int) : Decidable (reachP b d h) := by unfold reachP; infer_instance
theorem may_eq (b d h : Int) : metric_May.f b d h = some (decide (mayP b d h)) := by
  unfold metric_May.f
  repeat' split
  all_goals (congr 1; symm; first | (rw [decide_eq_false_iff_not]; unfold mayP; omega) | (rw [decide_eq_decide]; unfold mayP; omega))
theorem reached_eq (b d h : Int) : metric_Reached.f b d h = some (decide (reachP b d h)) := by
  unfold metric_Reached.f
  rw [may_eq, Option.bind_some]
  by_cases m : mayP b d h
  · rw [if_pos (by simpa using m)]
    by_cases c : d < 16777216
    · rw [if_pos c]
      congr 1
      rw [decide_eq_decide]
      unfold reachP
      constructor
      · intro k; exact ⟨m, c, k⟩
      · intro k; exact k.2.2
    · rw [if_neg c]
      congr 1
      symm
      rw [decide_eq_false_iff_not]
      intro k
      exact c k.2.1
  · rw [if_neg (by simpa using m)]
    congr 1
    symm
    rw [decide_eq_false_iff_not]
    intro k
    exact m k.1
/-- How good a path is. -/
def ofv (b d h : Int) : Int := if reachP b d h then (if 256 * (10000000 / b + d) ≤ 4294967294 then 256 * (10000000 / b + d) else 4294967294) else 4294967295
theorem quo_bound (b : Int) (h : 1 ≤ b) : 0 ≤ 10000000 / b ∧ 10000000 / b ≤ 10000000 :=
  ⟨Int.ediv_nonneg (by omega) (by omega), by
    have := Int.ediv_le_self (a := 10000000) b (by omega)
    exact this⟩
theorem of_eq (b d h : Int) : metric_Of.f b d h = some (ofv b d h) := by
  unfold metric_Of.f ofv
  rw [reached_eq, Option.bind_some]
  by_cases hr : reachP b d h
  · rw [if_pos (by simpa using hr), if_pos hr]
    have hr' := hr
    unfold reachP mayP at hr'
    have hq := quo_bound b (by omega)
    rw [if_neg (by omega), Int.tdiv_eq_ediv_of_nonneg (by omega)]
    generalize 10000000 / b = q at *
    rw [w64 (x := q) (by omega), w64 (x := q + d) (by omega), w64 (x := 256 * (q + d)) (by omega)]
    unfold mn
    repeat' split
    all_goals first | rfl | omega
  · rw [if_neg (by simpa using hr), if_neg hr]
def bet (b d h b' d' h' : Int) : Prop := ofv b d h < ofv b' d' h' ∨ ofv b d h = ofv b' d' h' ∧ h < h'
instance (b d h b' d' h' : Int) : Decidable (bet b d h b' d' h') := by unfold bet; infer_instance

theorem better_eq (b d h b' d' h' : Int) : metric_Better.f b d h b' d' h' = some (decide (bet b d h b' d' h')) := by
  unfold metric_Better.f
  rw [of_eq, of_eq, Option.bind_some, Option.bind_some]
  repeat' split
  all_goals (congr 1; symm; first | (rw [decide_eq_true_eq]; unfold bet; omega) | (rw [decide_eq_false_iff_not]; unfold bet; omega) | (rw [decide_eq_decide]; unfold bet; omega))

/-- A number within its bounds. -/
def cl (n m : Int) : Int := mx 0 (mn n m)
theorem cl_bound (n m : Int) (hm : 0 ≤ m) : 0 ≤ cl n m ∧ cl n m ≤ m := by
  unfold cl mx mn
  repeat' split
  all_goals omega
def jd (d d' : Int) : Int := cl (cl d 16777216 + cl d' 16777216) 16777216
def jh (h h' : Int) : Int := cl (cl h 100 + cl h' 100) 100
theorem join_eq (b d h b' d' h' : Int) : metric_Join.f b d h b' d' h' = some (mn b b', jd d d', jh h h') := by
  have e : ∀ n m, metric_within.f n m = some (cl n m) := fun _ _ => rfl
  have l : ∀ b d h, metric_length.f b d h = some (cl d 16777216, cl h 100) := fun b d h => by unfold metric_length.f; rw [e, e]; rfl
  unfold metric_Join.f
  rw [l, l]
  simp only [Option.bind_some]
  have h1 := cl_bound d 16777216 (by omega)
  have h2 := cl_bound d' 16777216 (by omega)
  have h3 := cl_bound h 100 (by omega)
  have h4 := cl_bound h' 100 (by omega)
  rw [if_pos (by omega), if_pos (by omega), if_pos (by omega), if_pos (by omega), if_pos (by omega), if_pos (by omega), if_pos (by omega), if_pos (by omega), if_pos (by omega), if_pos (by omega), e, Option.bind_some, if_pos (by omega), if_pos (by omega), e]
  rfl

theorem quo_mono (b c : Int) (hc : 1 ≤ c) (h : c ≤ b) : 10000000 / b ≤ 10000000 / c := by
  obtain ⟨b, rfl⟩ := Int.eq_ofNat_of_zero_le (show 0 ≤ b by omega)
  obtain ⟨c, rfl⟩ := Int.eq_ofNat_of_zero_le (show 0 ≤ c by omega)
  have := Nat.div_le_div_left (a := 10000000) (b := b) (c := c) (by omega) (by omega)
  have e : ∀ n : Nat, (10000000 : Int) / (n : Int) = ((10000000 / n : Nat) : Int) := fun n => by rw [Int.natCast_ediv]; rfl
  rw [e, e]
  omega
theorem ofv_worse (b d h b' d' h' : Int) (m : mayP b d h) (m' : mayP b' d' h') : ofv b d h ≤ ofv (mn b b') (jd d d') (jh h h') := by
  unfold mayP at m m'
  have e0 : mn b b' ≤ b ∧ 1 ≤ mn b b' := by unfold mn; split <;> omega
  have e1 : d ≤ jd d d' := by unfold jd cl mx mn; repeat' split <;> omega
  have e2 : h ≤ jh h h' := by unfold jh cl mx mn; repeat' split <;> omega
  have hq := quo_mono b (mn b b') e0.2 e0.1
  unfold ofv
  by_cases r : reachP (mn b b') (jd d d') (jh h h')
  · have r0 : reachP b d h := by unfold reachP mayP at *; omega
    rw [if_pos r, if_pos r0]
    generalize 10000000 / b = q at *
    generalize 10000000 / mn b b' = q' at *
    repeat' split
    all_goals omega
  · rw [if_neg r]
    repeat' split
    all_goals omega
theorem MetricWorse : octroilaw04_MetricWorse.Pure := by
  intro b d h b' d' h' _ _ _ _ _ _
  refine ⟨30, ?_⟩
  unfold octroilaw04_MetricWorse.f
  rw [awake_now]
  simp only [may_eq, Option.bind_some]
  have skip : octroilaw04_MetricWorse.j0 30 true true b d h b' d' h' = some true := by simp [octroilaw04_MetricWorse.j0]
  by_cases m : mayP b d h
  · rw [if_pos (by simpa using m)]
    by_cases m' : mayP b' d' h'
    · rw [decide_eq_true m']
      have hw := ofv_worse b d h b' d' h' m m'
      have hm := m
      have hm' := m'
      unfold mayP at hm hm'
      have e0 : mn b b' ≤ b ∧ 1 ≤ mn b b' ∧ mn b b' ≤ b' := by unfold mn; split <;> omega
      have e1 : d ≤ jd d d' ∧ d' ≤ jd d d' ∧ jd d d' ≤ 16777216 := by unfold jd cl mx mn; repeat' split <;> omega
      have e2 : h ≤ jh h h' ∧ h' ≤ jh h h' ∧ jh h h' ≤ 100 ∧ (1 ≤ h' → h < 100 → h < jh h h') := by unfold jh cl mx mn; repeat' split <;> omega
      have mj : mayP (mn b b') (jd d d') (jh h h') := by unfold mayP; omega
      have nb : ¬ bet (mn b b') (jd d d') (jh h h') b d h := by unfold bet; omega
      simp only [octroilaw04_MetricWorse.j0, octroilaw04_MetricWorse.j1, join_eq, may_eq, of_eq, better_eq, reached_eq, Option.bind_some, Bool.not_true, Bool.false_eq_true, if_false, if_true]
      rw [if_pos (by simpa using mj), if_neg (by omega), if_neg (by simpa using nb)]
      have tail : (if h' = 0 then some true else if decide (reachP b d h) = true then some (decide (bet b d h (mn b b') (jd d d') (jh h h'))) else some true) = some true := by
        by_cases z : h' = 0
        · rw [if_pos z]
        rw [if_neg z]
        by_cases r : reachP b d h
        · rw [if_pos (by simpa using r)]
          congr 1
          rw [decide_eq_true_eq]
          have := e2.2.2.2 (by omega) (by unfold reachP at r; omega)
          unfold bet
          omega
        · rw [if_neg (by simpa using r)]
      by_cases rj : reachP (mn b b') (jd d d') (jh h h')
      · have r1 : reachP b d h := by unfold reachP mayP at *; omega
        have r2 : reachP b' d' h' := by unfold reachP mayP at *; omega
        rw [if_pos (by simpa using rj), if_pos (by simpa using r1)]
        rw [if_neg (by simpa using r2)]
        exact tail
      · rw [if_neg (by simpa using rj)]
        exact tail
    · rw [decide_eq_false m']
      exact skip
  · rw [if_neg (by simpa using m)]
    exact skip

end Go.Proofs.Ytghlhdjngihkoaa.Pure
