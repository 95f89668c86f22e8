/-
Any path with any link ahead of it is what the document says. No condition beyond the statement's own.
-/
import Derived.Test.YtghlhdjngihkoaaPMetricJoinsx5
import Derived.Laws.BitsAllLaws
namespace Go.Proofs.Ytghlhdjngihkoaa.Pure
open Go.RowKit Go.Proofs.Ytghlhdjngihkoaa.PMetricJoins Go.Proofs.YtghlhdjngihkoaaW.PrintWords Go.Proofs.YtghlhdjngihkoaaW.PrintLast Go.Proofs.YtghlhdjngihkoaaW.PrintMore

theorem i64_of {x : Int} (h : (Lit.int .i64 x).wf = true) : -9223372036854775808 ≤ x ∧ x ≤ 9223372036854775807 := by
  simp [Lit.wf, IntKind.min, IntKind.max, IntKind.bits, IntKind.signed] at h
  omega
theorem w64 {x : Int} (h : -9223372036854775808 ≤ x ∧ x ≤ 9223372036854775807) : wrap64 x = x := by unfold wrap64; omega
theorem wrap64_eq (x : Int) : wrap64 x = (x + 9223372036854775808) % 18446744073709551616 - 9223372036854775808 := by unfold wrap64; rfl
theorem awake_now : octroilaw04_awake.f = some true := by decide +kernel
def mayP (b d h : Int) : Prop := 1 ≤ b ∧ b ≤ 10000000 ∧ 0 ≤ d ∧ d ≤ 16777216 ∧ 0 ≤ h ∧ h ≤ 100
instance (b d h : Int) : Decidable (mayP b d h) := by unfold mayP; infer_instance
def reachP (b d h : Int) : Prop := mayP b d h ∧ d < 16777216 ∧ h < 100
instance (b d h : Int) : Decidable (reachP b d h) := by unfold reachP; infer_instance
theorem may_eq (b d h : Int) : metric_May.f b d h = some (decide (mayP b d h)) := by
  unfold metric_May.f
  repeat' split
  all_goals (congr 1; symm; first | (rw [decide_eq_false_iff_not]; unfold mayP; omega) | (rw [decide_eq_decide]; unfold mayP; omega))
theorem reached_eq (b d h : Int) : metric_Reached.f b d h = some (decide (reachP b d h)) := by
  unfold metric_Reached.f
  rw [may_eq, Option.bind_some]
  by_cases m : mayP b d h
  · rw [if_pos (by simpa using m)]
    by_cases c : d < 16777216
    · rw [if_pos c]
      congr 1
      rw [decide_eq_decide]
      unfold reachP
      constructor
      · intro k; exact ⟨m, c, k⟩
      · intro k; exact k.2.2
    · rw [if_neg c]
      congr 1
      symm
      rw [decide_eq_false_iff_not]
      intro k
      exact c k.2.1
  · rw [if_neg (by simpa using m)]
    congr 1
    symm
    rw [decide_eq_false_iff_not]
    intro k
    exact m k.1
/-- How good a path is. -/
def ofv (b d h : Int) : Int := if reachP b d h then (if 256 * (10000000 / b + d) ≤ 4294967294 then 256 * (10000000 / b + d) else 4294967294) else 4294967295
theorem quo_bound (b : Int) (h : 1 ≤ b) : 0 ≤ 10000000 / b ∧ 10000000 / b ≤ 10000000 :=
  ⟨Int.ediv_nonneg (by omega) (by omega), by
    have := Int.ediv_le_self (a := 10000000) b (by omega)
    exact this⟩
theorem of_eq (b d h : Int) : metric_Of.f b d h = some (ofv b d h) := by
  unfold metric_Of.f ofv
  rw [reached_eq, Option.bind_some]
  by_cases hr : reachP b d h
  · rw [if_pos (by simpa using hr), if_pos hr]
    have hr' := hr
    unfold reachP mayP at hr'
    have hq := quo_bound b (by omega)
    rw [if_neg (by omega), Int.tdiv_eq_ediv_of_nonneg (by omega)]
    generalize 10000000 / b = q at *
    rw [w64 (x := q) (by omega), w64 (x := q + d) (by omega), w64 (x := 256 * (q + d)) (by omega)]
    unfold mn
    repeat' split
    all_goals first | rfl | omega
  · rw [if_neg (by simpa using hr), if_neg hr]
def bet (b d h b' d' h' : Int) : Prop := ofv b d h < ofv b' d' h' ∨ ofv b d h = ofv b' d' h' ∧ h < h'
instance (b d h b' d' h' : Int) : Decidable (bet b d h b' d' h') := by unfold bet; infer_instance

/-- A number within its bounds. -/
def cl (n m : Int) : Int := mx 0 (mn n m)
theorem cl_bound (n m : Int) (hm : 0 ≤ m) : 0 ≤ cl n m ∧ cl n m ≤ m := by
  unfold cl mx mn
  repeat' split
  all_goals omega
def jd (d d' : Int) : Int := cl (cl d 16777216 + cl d' 16777216) 16777216
def jh (h h' : Int) : Int := cl (cl h 100 + cl h' 100) 100
theorem join_eq (b d h b' d' h' : Int) : metric_Join.f b d h b' d' h' = some (mn b b', jd d d', jh h h') := by
  have e : ∀ n m, metric_within.f n m = some (cl n m) := fun _ _ => rfl
  have l : ∀ b d h, metric_length.f b d h = some (cl d 16777216, cl h 100) := fun b d h => by unfold metric_length.f; rw [e, e]; rfl
  unfold metric_Join.f
  rw [l, l]
  simp only [Option.bind_some]
  have h1 := cl_bound d 16777216 (by omega)
  have h2 := cl_bound d' 16777216 (by omega)
  have h3 := cl_bound h 100 (by omega)
  have h4 := cl_bound h' 100 (by omega)
  rw [if_pos (by omega), if_pos (by omega), if_pos (by omega), if_pos (by omega), if_pos (by omega), if_pos (by omega), if_pos (by omega), if_pos (by omega), if_pos (by omega), if_pos (by omega), e, Option.bind_some, if_pos (by omega), if_pos (by omega), e]
  rfl

def addv (a b m : Int) : Int := if mx a 0 + mx b 0 ≤ mx m 0 then mx a 0 + mx b 0 else mx m 0
theorem add_eq (a b m : Int) (ha : -9223372036854775808 ≤ a ∧ a ≤ 9223372036854775807) (hb : -9223372036854775808 ≤ b ∧ b ≤ 9223372036854775807) (hm : -9223372036854775808 ≤ m ∧ m ≤ 9223372036854775807) :
    num_Add.f a b m = some (addv a b m) := by
  unfold num_Add.f addv mn mx
  simp only [wrap64_eq]
  repeat' split
  all_goals first | rfl | (congr 1; omega) | omega

theorem refAdd_eq (a b m : Int) (ha : -9223372036854775808 ≤ a ∧ a ≤ 9223372036854775807) (hb : -9223372036854775808 ≤ b ∧ b ≤ 9223372036854775807) (hm : -9223372036854775808 ≤ m ∧ m ≤ 9223372036854775807) :
    octroiref01_Add.f 30 a b m = some (addv a b m) := by
  unfold octroiref01_Add.f
  simp only [octroiref01_Add.j0, octroiref01_Add.j1]
  unfold addv mx
  simp only [wrap64_eq]
  repeat' split
  all_goals first | rfl | (congr 1; omega) | omega

theorem cl_cases (a m : Int) (hm : 0 ≤ m) : (a < 0 ∧ cl a m = 0 ∧ mx a 0 = 0) ∨ (0 ≤ a ∧ a ≤ m ∧ cl a m = a ∧ mx a 0 = a) ∨ (m < a ∧ cl a m = m ∧ mx a 0 = a) := by
  unfold cl mx mn
  repeat' split
  all_goals omega
theorem sum_cl (a b m : Int) (hm : 0 ≤ m) : cl (cl a m + cl b m) m = addv a b m := by
  have hm0 : mx m 0 = m := by unfold mx; split <;> omega
  unfold addv
  rw [hm0]
  rcases cl_cases a m hm with ⟨h1, e1, f1⟩ | ⟨h1, h1', e1, f1⟩ | ⟨h1, e1, f1⟩ <;> rcases cl_cases b m hm with ⟨h2, e2, f2⟩ | ⟨h2, h2', e2, f2⟩ | ⟨h2, e2, f2⟩ <;> rw [e1, e2, f1, f2] <;> (unfold cl mx mn; repeat' split) <;> omega
theorem MetricJoins : octroilaw04_MetricJoins.Pure := by
  intro b d h b' d' h' _ hd hh _ hd' hh'
  have hd := i64_of hd
  have hh := i64_of hh
  have hd' := i64_of hd'
  have hh' := i64_of hh'
  refine ⟨30, ?_⟩
  unfold octroilaw04_MetricJoins.f
  rw [awake_now, join_eq]
  unfold octroiref04_Join.f
  rw [refAdd_eq d d' 16777216 hd hd' (by omega), refAdd_eq h h' 100 hh hh' (by omega)]
  simp only [Option.bind_some, if_true]
  have e1 : jd d d' = addv d d' 16777216 := sum_cl d d' 16777216 (by omega)
  have e2 : jh h h' = addv h h' 100 := sum_cl h h' 100 (by omega)
  rw [e1, e2]
  unfold mn
  by_cases c : b' < b
  · rw [if_pos c, if_pos c]
    simp
  · rw [if_neg c, if_neg c]
    simp

end Go.Proofs.Ytghlhdjngihkoaa.Pure
