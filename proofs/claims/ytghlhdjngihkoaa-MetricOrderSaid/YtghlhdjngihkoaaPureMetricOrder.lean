/-
The order of two links ahead of a path plays no part; nor does which one is joined first. No condition beyond the statement's own.
-/
import Derived.Test.YtghlhdjngihkoaaPMetricOrderx3
import Derived.Laws.BitsAllLaws
namespace Go.Proofs.Ytghlhdjngihkoaa.Pure
open Go.RowKit Go.Proofs.Ytghlhdjngihkoaa.PMetricOrder Go.Proofs.YtghlhdjngihkoaaW.PrintWords Go.Proofs.YtghlhdjngihkoaaW.PrintLast Go.Proofs.YtghlhdjngihkoaaW.PrintMore

theorem i64_of {x : Int} (h : (Lit.int .i64 x).wf = true) : -9223372036854775808 ≤ x ∧ x ≤ 9223372036854775807 := by
  simp [Lit.wf, IntKind.min, IntKind.max, IntKind.bits, IntKind.signed] at h
  omega
theorem w64 {x : Int} (h : -9223372036854775808 ≤ x ∧ x ≤ 9223372036854775807) : wrap64 x = x := by unfold wrap64; omega
theorem wrap64_eq (x : Int) : wrap64 x = (x + 9223372036854775808) % 18446744073709551616 - 9223372036854775808 := by unfold wrap64; rfl
theorem awake_now : octroilaw04_awake.f = some true := by decide +kernel
def mayP (b d h : Int) : Prop := 1 ≤ b ∧ b ≤ 10000000 ∧ 0 ≤ d ∧ d ≤ 16777216 ∧ 0 ≤ h ∧ h ≤ 100
instance (b d h : Int) : Decidable (mayP b d h) := by unfold mayP; infer_instance
def reachP (b d h : Int) : Prop := mayP b d h ∧ d < 16777216 ∧ h < 100
instance (b d h : Int) : Decidable (reachP b d h) := by unfold reachP; infer_instance
theorem may_eq (b d h : Int) : metric_May.f b d h = some (decide (mayP b d h)) := by
  unfold metric_May.f
  repeat' split
  all_goals (congr 1; symm; first | (rw [decide_eq_false_iff_not]; unfold mayP; omega) | (rw [decide_eq_decide]; unfold mayP; omega))
theorem reached_eq (b d h : Int) : metric_Reached.f b d h = some (decide (reachP b d h)) := by
  unfold metric_Reached.f
  rw [may_eq, Option.bind_some]
  by_cases m : mayP b d h
  · rw [if_pos (by simpa using m)]
    by_cases c : d < 16777216
    · rw [if_pos c]
      congr 1
      rw [decide_eq_decide]
      unfold reachP
      constructor
      · intro k; exact ⟨m, c, k⟩
      · intro k; exact k.2.2
    · rw [if_neg c]
      congr 1
      symm
      rw [decide_eq_false_iff_not]
      intro k
      exact c k.2.1
  · rw [if_neg (by simpa using m)]
    congr 1
    symm
    rw [decide_eq_false_iff_not]
    intro k
    exact m k.1
/-- How good a path is. -/
def ofv (b d h : Int) : Int := if reachP b d h then (if 256 * (10000000 / b + d) ≤ 4294967294 then 256 * (10000000 / b + d) else 4294967294) else 4294967295
theorem quo_bound (b : Int) (h : 1 ≤ b) : 0 ≤ 10000000 / b ∧ 10000000 / b ≤ 10000000 :=
  ⟨Int.ediv_nonneg (by omega) (by omega), by
    have := Int.ediv_le_self (a := 10000000) b (by omega)
    exact this⟩
theorem of_eq (b d h : Int) : metric_Of.f b d h = some (ofv b d h) := by
  unfold metric_Of.f ofv
  rw [reached_eq, Option.bind_some]
  by_cases hr : reachP b d h
  · rw [if_pos (by simpa using hr), if_pos hr]
    have hr' := hr
    unfold reachP mayP at hr'
    have hq := quo_bound b (by omega)
    rw [if_neg (by omega), Int.tdiv_eq_ediv_of_nonneg (by omega)]
    generalize 10000000 / b = q at *
    rw [w64 (x := q) (by omega), w64 (x := q + d) (by omega), w64 (x := 256 * (q + d)) (by omega)]
    unfold mn
    repeat' split
    all_goals first | rfl | omega
  · rw [if_neg (by simpa using hr), if_neg hr]
def bet (b d h b' d' h' : Int) : Prop := ofv b d h < ofv b' d' h' ∨ ofv b d h = ofv b' d' h' ∧ h < h'
instance (b d h b' d' h' : Int) : Decidable (bet b d h b' d' h') := by unfold bet; infer_instance

/-- A number within its bounds. -/
def cl (n m : Int) : Int := mx 0 (mn n m)
theorem cl_bound (n m : Int) (hm : 0 ≤ m) : 0 ≤ cl n m ∧ cl n m ≤ m := by
  unfold cl mx mn
  repeat' split
  all_goals omega
def jd (d d' : Int) : Int := cl (cl d 16777216 + cl d' 16777216) 16777216
def jh (h h' : Int) : Int := cl (cl h 100 + cl h' 100) 100
theorem join_eq (b d h b' d' h' : Int) : metric_Join.f b d h b' d' h' = some (mn b b', jd d d', jh h h') := by
  have e : ∀ n m, metric_within.f n m = some (cl n m) := fun _ _ => rfl
  have l : ∀ b d h, metric_length.f b d h = some (cl d 16777216, cl h 100) := fun b d h => by unfold metric_length.f; rw [e, e]; rfl
  unfold metric_Join.f
  rw [l, l]
  simp only [Option.bind_some]
  have h1 := cl_bound d 16777216 (by omega)
  have h2 := cl_bound d' 16777216 (by omega)
  have h3 := cl_bound h 100 (by omega)
  have h4 := cl_bound h' 100 (by omega)
  rw [if_pos (by omega), if_pos (by omega), if_pos (by omega), if_pos (by omega), if_pos (by omega), if_pos (by omega), if_pos (by omega), if_pos (by omega), if_pos (by omega), if_pos (by omega), e, Option.bind_some, if_pos (by omega), if_pos (by omega), e]
  rfl

theorem j_in (a b m : Int) (h1 : 0 ≤ a) (h2 : a ≤ m) (h3 : 0 ≤ b) (h4 : b ≤ m) : cl (cl a m + cl b m) m = if a + b ≤ m then a + b else m := by
  have ea : cl a m = a := by unfold cl mx mn; repeat' split <;> omega
  have eb : cl b m = b := by unfold cl mx mn; repeat' split <;> omega
  rw [ea, eb]
  unfold cl mx mn
  repeat' split
  all_goals omega
theorem j_three (a b c m : Int) (h1 : 0 ≤ a ∧ a ≤ m) (h2 : 0 ≤ b ∧ b ≤ m) (h3 : 0 ≤ c ∧ c ≤ m) :
    cl (cl (cl (cl a m + cl b m) m) m + cl c m) m = if a + b + c ≤ m then a + b + c else m := by
  have hb := cl_bound (cl a m + cl b m) m (by omega)
  rw [j_in _ c m hb.1 hb.2 h3.1 h3.2, j_in a b m h1.1 h1.2 h2.1 h2.2]
  repeat' split
  all_goals omega
theorem j_three' (a b c m : Int) (h1 : 0 ≤ a ∧ a ≤ m) (h2 : 0 ≤ b ∧ b ≤ m) (h3 : 0 ≤ c ∧ c ≤ m) :
    cl (cl a m + cl (cl (cl b m + cl c m) m) m) m = if a + b + c ≤ m then a + b + c else m := by
  have hb := cl_bound (cl b m + cl c m) m (by omega)
  rw [j_in a _ m h1.1 h1.2 hb.1 hb.2, j_in b c m h2.1 h2.2 h3.1 h3.2]
  repeat' split
  all_goals omega
theorem MetricOrder : octroilaw04_MetricOrder.Pure := by
  intro a0 a1 a2 b0 b1 b2 c0 c1 c2 _ _ _ _ _ _ _ _ _
  refine ⟨30, ?_⟩
  unfold octroilaw04_MetricOrder.f
  rw [awake_now]
  simp only [may_eq, Option.bind_some]
  have skip : octroilaw04_MetricOrder.j0 30 true true a0 a1 a2 b0 b1 b2 c0 c1 c2 = some true := by simp [octroilaw04_MetricOrder.j0]
  by_cases ha : mayP a0 a1 a2
  · rw [if_pos (by simpa using ha)]
    by_cases hb : mayP b0 b1 b2
    · rw [if_pos (by simpa using hb)]
      by_cases hc : mayP c0 c1 c2
      · rw [decide_eq_true hc]
        unfold mayP at ha hb hc
        have e1 : mn (mn a0 b0) c0 = mn (mn a0 c0) b0 := by unfold mn; repeat' split <;> omega
        have e2 : jd (jd a1 b1) c1 = jd (jd a1 c1) b1 := by
          unfold jd
          rw [j_three a1 b1 c1 _ (by omega) (by omega) (by omega), j_three a1 c1 b1 _ (by omega) (by omega) (by omega)]
          repeat' split
          all_goals omega
        have e3 : jh (jh a2 b2) c2 = jh (jh a2 c2) b2 := by
          unfold jh
          rw [j_three a2 b2 c2 _ (by omega) (by omega) (by omega), j_three a2 c2 b2 _ (by omega) (by omega) (by omega)]
          repeat' split
          all_goals omega
        have e4 : mn (mn a0 b0) c0 = mn a0 (mn b0 c0) := by unfold mn; repeat' split <;> omega
        have e5 : jd (jd a1 b1) c1 = jd a1 (jd b1 c1) := by
          unfold jd
          rw [j_three a1 b1 c1 _ (by omega) (by omega) (by omega), j_three' a1 b1 c1 _ (by omega) (by omega) (by omega)]
        have e6 : jh (jh a2 b2) c2 = jh a2 (jh b2 c2) := by
          unfold jh
          rw [j_three a2 b2 c2 _ (by omega) (by omega) (by omega), j_three' a2 b2 c2 _ (by omega) (by omega) (by omega)]
        simp only [octroilaw04_MetricOrder.j0, join_eq, Option.bind_some, Bool.not_true, Bool.false_eq_true, if_false, if_true]
        rw [← e1, ← e2, ← e3, ← e4, ← e5, ← e6]
        simp
      · rw [decide_eq_false hc]
        exact skip
    · rw [if_neg (by simpa using hb)]
      exact skip
  · rw [if_neg (by simpa using ha)]
    exact skip

end Go.Proofs.Ytghlhdjngihkoaa.Pure
