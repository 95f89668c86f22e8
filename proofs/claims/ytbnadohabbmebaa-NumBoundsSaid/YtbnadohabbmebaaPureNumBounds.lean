/-
A sum under a bound never goes beyond it, nor below either number, as long as that does not; its order plays no part. No condition beyond the statement's own.
-/
import Derived.Test.YtbnadohabbmebaaPNumBoundsx1
import Derived.Laws.BitsAllLaws
namespace Go.Proofs.Ytbnadohabbmebaa.Pure
open Go.RowKit Go.Proofs.Ytbnadohabbmebaa.PNumBounds Go.Proofs.YtbnadohabbmebaaW.PrintWords Go.Proofs.YtbnadohabbmebaaW.PrintLast Go.Proofs.YtbnadohabbmebaaW.PrintMore

theorem byte_of {x : Int} (h : (Lit.int .u8 x).wf = true) : 0 ≤ x ∧ x ≤ 255 := by
  simp [Lit.wf, IntKind.min, IntKind.max, IntKind.bits, IntKind.signed] at h
  omega
theorem u16_of {x : Int} (h : (Lit.int .u16 x).wf = true) : 0 ≤ x ∧ x ≤ 65535 := by
  simp [Lit.wf, IntKind.min, IntKind.max, IntKind.bits, IntKind.signed] at h
  omega
theorem u32_of {x : Int} (h : (Lit.int .u32 x).wf = true) : 0 ≤ x ∧ x ≤ 4294967295 := by
  simp [Lit.wf, IntKind.min, IntKind.max, IntKind.bits, IntKind.signed] at h
  omega
theorem i64_of {x : Int} (h : (Lit.int .i64 x).wf = true) : -9223372036854775808 ≤ x ∧ x ≤ 9223372036854775807 := by
  simp [Lit.wf, IntKind.min, IntKind.max, IntKind.bits, IntKind.signed] at h
  omega
theorem w64 {x : Int} (h : -9223372036854775808 ≤ x ∧ x ≤ 9223372036854775807) : wrap64 x = x := by unfold wrap64; omega
theorem wu16 (x : Int) : IntKind.u16.wrap x = x % 65536 := IntKind.wrap_u16 x
theorem awake_now : octroilaw01_awake.f 30 = some true := by decide +kernel
theorem awake_ev : Ev octroilaw01_awake.f true := Ev.of octroilaw01_awake.mono awake_now
theorem of_ev {g : Nat → Option Bool} (h : Ev g true) : ∃ k, g k = some true := h.rounds

theorem newer_eq (x y : Int) : num_Newer.f x y = some (decide (x ≠ y ∧ (x - y) % 65536 < 32768)) := by
  unfold num_Newer.f
  rw [wu16]
  split
  · simp [*]
  · simp [*]
def addv (a b m : Int) : Int := if mx a 0 + mx b 0 ≤ mx m 0 then mx a 0 + mx b 0 else mx m 0
theorem add_eq (a b m : Int) (ha : -9223372036854775808 ≤ a ∧ a ≤ 9223372036854775807) (hb : -9223372036854775808 ≤ b ∧ b ≤ 9223372036854775807) (hm : -9223372036854775808 ≤ m ∧ m ≤ 9223372036854775807) :
    num_Add.f a b m = some (addv a b m) := by
  unfold num_Add.f addv mn mx wrap64
  repeat' split
  all_goals first | rfl | (congr 1; omega) | omega

theorem NumBounds : octroilaw01_NumBounds.Pure := by
  intro a b m ha hb hm
  have ha := i64_of ha
  have hb := i64_of hb
  have hm := i64_of hm
  refine ⟨30, ?_⟩
  unfold octroilaw01_NumBounds.f
  rw [awake_now]
  simp only [Option.bind_some, octroilaw01_NumBounds.j0, add_eq a b m ha hb hm, add_eq b a m hb ha hm, if_true]
  by_cases h0 : a < 0
  · rw [if_pos h0]
  rw [if_neg h0]
  by_cases h1 : b < 0
  · rw [if_pos h1]
  rw [if_neg h1]
  by_cases h2 : m < 0
  · simp [h2]
  rw [if_neg (by simpa using h2)]
  have e : addv a b m = if a + b ≤ m then a + b else m := by
    unfold addv mx
    repeat' split
    all_goals omega
  have e' : addv b a m = addv a b m := by
    unfold addv mx
    repeat' split
    all_goals omega
  have h3 : addv a b m ≤ m := by rw [e]; split <;> omega
  rw [if_pos h3, e', if_pos rfl]
  by_cases h4 : addv a b m = m
  · rw [if_pos h4]
    simp [h4]
  · have h5 : addv a b m = a + b := by
      rw [e] at h4 ⊢
      split
      · rfl
      · rename_i h; rw [if_neg h] at h4; exact absurd rfl h4
    rw [if_pos (by omega), if_pos (by omega)]

end Go.Proofs.Ytbnadohabbmebaa.Pure
