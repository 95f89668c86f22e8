/-
Of two paths of one bandwidth the better one stays no worse when one link is joined to both. No condition beyond the statement's own.
-/
import Derived.Test.YtghlhdjngihkoaaPMetricKeepsx3
import Derived.Laws.BitsAllLaws
namespace Go.Proofs.Ytghlhdjngihkoaa.Pure
open Go.RowKit Go.Proofs.Ytghlhdjngihkoaa.PMetricKeeps Go.Proofs.YtghlhdjngihkoaaW.PrintWords Go.Proofs.YtghlhdjngihkoaaW.PrintLast Go.Proofs.YtghlhdjngihkoaaW.PrintMore

theorem i64_of {x : Int} (h : (Lit.int .i64 x).wf = true) : -9223372036854775808 ≤ x ∧ x ≤ 9223372036854775807 := by
  simp [Lit.wf, IntKind.min, IntKind.max, IntKind.bits, IntKind.signed] at h
  omega
theorem w64 {x : Int} (h : -9223372036854775808 ≤ x ∧ x ≤ 9223372036854775807) : wrap64 x = x := by unfold wrap64; omega
theorem wrap64_eq (x : Int) : wrap64 x = (x + 9223372036854775808) % 18446744073709551616 - 9223372036854775808 := by unfold wrap64; rfl
theorem awake_now : octroilaw04_awake.f = some true := by decide +kernel
def mayP (b d h : Int) : Prop := 1 ≤ b ∧ b ≤ 10000000 ∧ 0 ≤ d ∧ d ≤ 16777216 ∧ 0 ≤ h ∧ h ≤ 100
instance (b d h : Int) : Decidable (mayP b d h) := by unfold mayP; infer_instance
def reachP (b d h : Int) : Prop := mayP b d h ∧ d < 16777216 ∧ h < 100
instance (b d h : Int) : Decidable (reachP b d h) := by unfold reachP; infer_instance
theorem may_eq (b d h : Int) : metric_May.f b d h = some (decide (mayP b d h)) := by
  unfold metric_May.f
  repeat' split
  all_goals (congr 1; symm; first | (rw [decide_eq_false_iff_not]; unfold mayP; omega) | (rw [decide_eq_decide]; unfold mayP; omega))
theorem reached_eq (b d h : Int) : metric_Reached.f b d h = some (decide (reachP b d h)) := by
  unfold metric_Reached.f
  rw [may_eq, Option.bind_some]
  by_cases m : mayP b d h
  · rw [if_pos (by simpa using m)]
    by_cases c : d < 16777216
    · rw [if_pos c]
      congr 1
      rw [decide_eq_decide]
      unfold reachP
      constructor
      · intro k; exact ⟨m, c, k⟩
      · intro k; exact k.2.2
    · rw [if_neg c]
      congr 1
      symm
      rw [decide_eq_false_iff_not]
      intro k
      exact c k.2.1
  · rw [if_neg (by simpa using m)]
    congr 1
    symm
    rw [decide_eq_false_iff_not]
    intro k
    exact m k.1
/-- How good a path is. -/
def ofv (b d h : Int) : Int := if reachP b d h then (if 256 * (10000000 / b + d) ≤ 4294967294 then 256 * (10000000 / b + d) else 4294967294) else 4294967295
theorem quo_bound (b : Int) (h : 1 ≤ b) : 0 ≤ 10000000 / b ∧ 10000000 / b ≤ 10000000 :=
  ⟨Int.ediv_nonneg (by omega) (by omega), by
    have := Int.ediv_le_self (a := 10000000) b (by omega)
    exact this⟩
theorem of_eq (b d h : Int) : metric_Of.f b d h = some (ofv b d h) := by
  unfold metric_Of.f ofv
  rw [reached_eq, Option.bind_some]
  by_cases hr : reachP b d h
  · rw [if_pos (by simpa using hr), if_pos hr]
    have hr' := hr
    unfold reachP mayP at hr'
    have hq := quo_bound b (by omega)
    rw [if_neg (by omega), Int.tdiv_eq_ediv_of_nonneg (by omega)]
    generalize 10000000 / b = q at *
    rw [w64 (x := q) (by omega), w64 (x := q + d) (by omega), w64 (x := 256 * (q + d)) (by omega)]
    unfold mn
    repeat' split
    all_goals first | rfl | omega
  · rw [if_neg (by simpa using hr), if_neg hr]
def bet (b d h b' d' h' : Int) : Prop := ofv b d h < ofv b' d' h' ∨ ofv b d h = ofv b' d' h' ∧ h < h'
instance (b d h b' d' h' : Int) : Decidable (bet b d h b' d' h') := by unfold bet; infer_instance

/-- A number within its bounds. -/
def cl (n m : Int) : Int := mx 0 (mn n m)
theorem cl_bound (n m : Int) (hm : 0 ≤ m) : 0 ≤ cl n m ∧ cl n m ≤ m := by
  unfold cl mx mn
  repeat' split
  all_goals omega
def jd (d d' : Int) : Int := cl (cl d 16777216 + cl d' 16777216) 16777216
def jh (h h' : Int) : Int := cl (cl h 100 + cl h' 100) 100
theorem join_eq (b d h b' d' h' : Int) : metric_Join.f b d h b' d' h' = some (mn b b', jd d d', jh h h') := by
  have e : ∀ n m, metric_within.f n m = some (cl n m) := fun _ _ => rfl
  have l : ∀ b d h, metric_length.f b d h = some (cl d 16777216, cl h 100) := fun b d h => by unfold metric_length.f; rw [e, e]; rfl
  unfold metric_Join.f
  rw [l, l]
  simp only [Option.bind_some]
  have h1 := cl_bound d 16777216 (by omega)
  have h2 := cl_bound d' 16777216 (by omega)
  have h3 := cl_bound h 100 (by omega)
  have h4 := cl_bound h' 100 (by omega)
  rw [if_pos (by omega), if_pos (by omega), if_pos (by omega), if_pos (by omega), if_pos (by omega), if_pos (by omega), if_pos (by omega), if_pos (by omega), if_pos (by omega), if_pos (by omega), e, Option.bind_some, if_pos (by omega), if_pos (by omega), e]
  rfl

theorem ofv_keeps (b d h d' h' : Int) (h1 : 0 ≤ d) (h2 : 0 ≤ h) (hd : d ≤ d') (hh : h ≤ h') : ofv b d h ≤ ofv b d' h' := by
  unfold ofv
  by_cases r : reachP b d' h'
  · have r0 : reachP b d h := by unfold reachP mayP at *; omega
    rw [if_pos r, if_pos r0]
    generalize 10000000 / b = q
    repeat' split
    all_goals omega
  · rw [if_neg r]
    repeat' split
    all_goals omega
theorem MetricKeeps : octroilaw04_MetricKeeps.Pure := by
  intro a0 a1 a2 b0 b1 b2 c0 c1 c2 _ _ _ _ _ _ _ _ _
  refine ⟨30, ?_⟩
  unfold octroilaw04_MetricKeeps.f
  rw [awake_now]
  simp only [may_eq, Option.bind_some]
  have skip : octroilaw04_MetricKeeps.j0 30 true true a0 a1 a2 a0 b1 b2 c0 c1 c2 = some true := by simp [octroilaw04_MetricKeeps.j0]
  by_cases ha : mayP a0 a1 a2
  · rw [if_pos (by simpa using ha)]
    by_cases hb : mayP a0 b1 b2
    · rw [if_pos (by simpa using hb)]
      by_cases hc : mayP c0 c1 c2
      · rw [if_pos (by simpa using hc)]
        by_cases h1 : a1 > b1
        · rw [if_pos h1]
          exact skip
        rw [if_neg h1]
        by_cases h2 : a2 > b2
        · rw [decide_eq_true h2]
          exact skip
        rw [decide_eq_false h2]
        unfold mayP at ha hb hc
        have e1 : 0 ≤ jd a1 c1 ∧ jd a1 c1 ≤ jd b1 c1 := by unfold jd cl mx mn; repeat' split <;> omega
        have e2 : 0 ≤ jh a2 c2 ∧ jh a2 c2 ≤ jh b2 c2 := by unfold jh cl mx mn; repeat' split <;> omega
        simp only [octroilaw04_MetricKeeps.j0, join_eq, of_eq, Option.bind_some, Bool.false_eq_true, if_false, if_true]
        rw [if_pos (ofv_keeps _ _ _ _ _ e1.1 e2.1 e1.2 e2.2)]
        congr 1
        rw [decide_eq_true_eq]
        exact ofv_keeps _ _ _ _ _ (by omega) (by omega) (by omega) (by omega)
      · rw [if_neg (by simpa using hc)]
        exact skip
    · rw [if_neg (by simpa using hb)]
      exact skip
  · rw [if_neg (by simpa using ha)]
    exact skip

end Go.Proofs.Ytghlhdjngihkoaa.Pure
