/-
Of two numbers that go round just one is newer, unless they are the same, or 2^15 apart; the next one is newer. No condition beyond the statement's own.
-/
import Derived.Test.YtbnadohabbmebaaPNumOrderx1
import Derived.Laws.BitsAllLaws
namespace Go.Proofs.Ytbnadohabbmebaa.Pure
open Go.RowKit Go.Proofs.Ytbnadohabbmebaa.PNumOrder Go.Proofs.YtbnadohabbmebaaW.PrintWords Go.Proofs.YtbnadohabbmebaaW.PrintLast Go.Proofs.YtbnadohabbmebaaW.PrintMore

theorem byte_of {x : Int} (h : (Lit.int .u8 x).wf = true) : 0 ≤ x ∧ x ≤ 255 := by
  simp [Lit.wf, IntKind.min, IntKind.max, IntKind.bits, IntKind.signed] at h
  omega
theorem u16_of {x : Int} (h : (Lit.int .u16 x).wf = true) : 0 ≤ x ∧ x ≤ 65535 := by
  simp [Lit.wf, IntKind.min, IntKind.max, IntKind.bits, IntKind.signed] at h
  omega
theorem u32_of {x : Int} (h : (Lit.int .u32 x).wf = true) : 0 ≤ x ∧ x ≤ 4294967295 := by
  simp [Lit.wf, IntKind.min, IntKind.max, IntKind.bits, IntKind.signed] at h
  omega
theorem i64_of {x : Int} (h : (Lit.int .i64 x).wf = true) : -9223372036854775808 ≤ x ∧ x ≤ 9223372036854775807 := by
  simp [Lit.wf, IntKind.min, IntKind.max, IntKind.bits, IntKind.signed] at h
  omega
theorem w64 {x : Int} (h : -9223372036854775808 ≤ x ∧ x ≤ 9223372036854775807) : wrap64 x = x := by unfold wrap64; omega
theorem wu16 (x : Int) : IntKind.u16.wrap x = x % 65536 := IntKind.wrap_u16 x
theorem awake_now : octroilaw01_awake.f 30 = some true := by decide +kernel
theorem awake_ev : Ev octroilaw01_awake.f true := Ev.of octroilaw01_awake.mono awake_now
theorem of_ev {g : Nat → Option Bool} (h : Ev g true) : ∃ k, g k = some true := h.rounds

theorem newer_eq (x y : Int) : num_Newer.f x y = some (decide (x ≠ y ∧ (x - y) % 65536 < 32768)) := by
  unfold num_Newer.f
  rw [wu16]
  split
  · simp [*]
  · simp [*]
def addv (a b m : Int) : Int := if mx a 0 + mx b 0 ≤ mx m 0 then mx a 0 + mx b 0 else mx m 0
theorem add_eq (a b m : Int) (ha : -9223372036854775808 ≤ a ∧ a ≤ 9223372036854775807) (hb : -9223372036854775808 ≤ b ∧ b ≤ 9223372036854775807) (hm : -9223372036854775808 ≤ m ∧ m ≤ 9223372036854775807) :
    num_Add.f a b m = some (addv a b m) := by
  unfold num_Add.f addv mn mx wrap64
  repeat' split
  all_goals first | rfl | (congr 1; omega) | omega

theorem NumOrder : octroilaw01_NumOrder.Pure := by
  intro x y hx hy
  have hx := u16_of hx
  have hy := u16_of hy
  refine ⟨30, ?_⟩
  unfold octroilaw01_NumOrder.f
  rw [awake_now]
  simp only [Option.bind_some, octroilaw01_NumOrder.j0, newer_eq, wu16, if_true]
  by_cases h0 : (x - y) % 65536 = 0
  · rw [if_pos h0]
    obtain rfl : x = y := by omega
    simp
  · rw [if_neg h0]
    by_cases h1 : (x - y) % 65536 = 32768
    · have h2 : (y - x) % 65536 = 32768 := by omega
      simp [h1, h2]
    · have h2 : ¬ ((x - y) % 65536 == 32768) = true := by simpa using h1
      rw [if_neg h2]
      have h3 : (decide (x ≠ y ∧ (x - y) % 65536 < 32768) != decide (y ≠ x ∧ (y - x) % 65536 < 32768)) = true := by
        by_cases h4 : (x - y) % 65536 < 32768
        · have h5 : ¬ (y - x) % 65536 < 32768 := by omega
          have h6 : x ≠ y := by omega
          simp [h4, h5, h6]
        · have h5 : (y - x) % 65536 < 32768 := by omega
          have h6 : y ≠ x := by omega
          simp [h4, h5, h6]
      rw [if_pos h3]
      congr 1
      rw [decide_eq_true_iff]
      omega

end Go.Proofs.Ytbnadohabbmebaa.Pure
