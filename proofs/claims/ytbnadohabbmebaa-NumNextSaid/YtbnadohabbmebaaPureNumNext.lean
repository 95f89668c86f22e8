/-
A number that is newer than another one is so, too, when both are raised by one number. No condition beyond the statement's own.
-/
import Derived.Test.YtbnadohabbmebaaPNumNextx1
import Derived.Laws.BitsAllLaws
namespace Go.Proofs.Ytbnadohabbmebaa.Pure
open Go.RowKit Go.Proofs.Ytbnadohabbmebaa.PNumNext Go.Proofs.YtbnadohabbmebaaW.PrintWords Go.Proofs.YtbnadohabbmebaaW.PrintLast Go.Proofs.YtbnadohabbmebaaW.PrintMore

theorem byte_of {x : Int} (h : (Lit.int .u8 x).wf = true) : 0 ≤ x ∧ x ≤ 255 := by
  simp [Lit.wf, IntKind.min, IntKind.max, IntKind.bits, IntKind.signed] at h
  omega
theorem u16_of {x : Int} (h : (Lit.int .u16 x).wf = true) : 0 ≤ x ∧ x ≤ 65535 := by
  simp [Lit.wf, IntKind.min, IntKind.max, IntKind.bits, IntKind.signed] at h
  omega
theorem u32_of {x : Int} (h : (Lit.int .u32 x).wf = true) : 0 ≤ x ∧ x ≤ 4294967295 := by
  simp [Lit.wf, IntKind.min, IntKind.max, IntKind.bits, IntKind.signed] at h
  omega
theorem i64_of {x : Int} (h : (Lit.int .i64 x).wf = true) : -9223372036854775808 ≤ x ∧ x ≤ 9223372036854775807 := by
  simp [Lit.wf, IntKind.min, IntKind.max, IntKind.bits, IntKind.signed] at h
  omega
theorem w64 {x : Int} (h : -9223372036854775808 ≤ x ∧ x ≤ 9223372036854775807) : wrap64 x = x := by unfold wrap64; omega
theorem wu16 (x : Int) : IntKind.u16.wrap x = x % 65536 := IntKind.wrap_u16 x
theorem awake_now : octroilaw01_awake.f 30 = some true := by decide +kernel
theorem awake_ev : Ev octroilaw01_awake.f true := Ev.of octroilaw01_awake.mono awake_now
theorem of_ev {g : Nat → Option Bool} (h : Ev g true) : ∃ k, g k = some true := h.rounds

theorem newer_eq (x y : Int) : num_Newer.f x y = some (decide (x ≠ y ∧ (x - y) % 65536 < 32768)) := by
  unfold num_Newer.f
  rw [wu16]
  split
  · simp [*]
  · simp [*]
def addv (a b m : Int) : Int := if mx a 0 + mx b 0 ≤ mx m 0 then mx a 0 + mx b 0 else mx m 0
theorem add_eq (a b m : Int) (ha : -9223372036854775808 ≤ a ∧ a ≤ 9223372036854775807) (hb : -9223372036854775808 ≤ b ∧ b ≤ 9223372036854775807) (hm : -9223372036854775808 ≤ m ∧ m ≤ 9223372036854775807) :
    num_Add.f a b m = some (addv a b m) := by
  unfold num_Add.f addv mn mx wrap64
  repeat' split
  all_goals first | rfl | (congr 1; omega) | omega

theorem NumNext : octroilaw01_NumNext.Pure := by
  intro x y z hx hy hz
  have hx := u16_of hx
  have hy := u16_of hy
  have hz := u16_of hz
  refine ⟨30, ?_⟩
  unfold octroilaw01_NumNext.f
  rw [awake_now]
  simp only [Option.bind_some, newer_eq, wu16, if_true]
  have h3 : (decide (x ≠ y ∧ (x - y) % 65536 < 32768) == decide ((x + z) % 65536 ≠ (y + z) % 65536 ∧ ((x + z) % 65536 - (y + z) % 65536) % 65536 < 32768)) = true := by
    rw [beq_iff_eq, decide_eq_decide]
    omega
  rw [if_pos h3]
  simp

end Go.Proofs.Ytbnadohabbmebaa.Pure
