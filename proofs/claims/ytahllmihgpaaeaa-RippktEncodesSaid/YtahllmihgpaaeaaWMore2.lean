/-
Further steps of a walk: a call of a function value that is known, a cut by three indices.
-/
import Derived.Test.YtahllmihgpaaeaaWWords
import Derived.Test.YtahllmihgpaaeaaWLast
import Derived.Test.YtahllmihgpaaeaaWMore
namespace Go.Proofs.YtahllmihgpaaeaaW.More2
open Go Go.RowKit Go.Proofs.YtahllmihgpaaeaaW.PrintWords Go.Proofs.YtahllmihgpaaeaaW.PrintLast Go.Proofs.YtahllmihgpaaeaaW.PrintMore
section
variable {P : Program} {ops : Array Oper} {Q : Exit → Act → World → Prop} {rest : List Oper} {o : Oper} {a : Act} {W : World}
/-- The operation is a call of the function value in this place. -/
theorem gate_calleeT {t : Tmp} {as : Array Operand} {ts : Array TypeId} (_ho : o.op = .call { callee := .value (.tmp t), args := as, argTypes := ts }) (h : wpList P ops Q (o :: rest) a W) : wpList P ops Q (o :: rest) a W := h
theorem goesLT_ {oi : Oper} {w : World} {t : Tmp} {f : FuncId} (ht : a.eval (.tmp t) = .func (.func f) #[] #[]) (N : Option Tmp) (hd : oi.dst = N) (hg : oi.guard = none) {fn : Func} {as : Array Operand} {ts : Array TypeId} (hf : P.funcs[f]? = some fn) (hname : (fn.name == "runtime.NumGoroutine") = false) (hb : fn.body.isSome = true) (args : Array Value)
    (hop : oi.op = .call { callee := .value (.tmp t), args := as, argTypes := ts }) (hargs : as.map a.eval = args)
    (h : Calls P f args w fun e w' => ∃ v, e = .returned v ∧ wpList P ops Q rest (a.put N v) w') : wpList P ops Q (oi :: rest) a w := by
  refine wpList_plain hg fun K hK => ?_
  have he := enters_ hf hname hb args w
  have hrun : (execOp a.eval oi).run P w = .ok (.enter f args) w := by
    unfold execOp
    simp [hop, resolve, Deferred.ofValue, invoke, ht, hargs, he]
  unfold Oper.wp
  rw [hrun, Oper.upon_enter]
  refine h.mono fun e w'' hh => ?_
  obtain ⟨v, rfl, hk⟩ := hh
  subst hd
  exact hK _ _ hk
end
theorem cell_set_any {w : World} {p q : Addr} {u v : Value} (h : w.cell? q = some u) (hv : q = p → v = u) : (w.setCell p v).cell? q = some u := by
  by_cases e : p = q
  · subst e
    rw [World.cell?_setCell_same w p v h, hv rfl]
  · rw [World.cell?_setCell_other w p q v e]
    exact h
section
variable {α : Type} {P : Program}
theorem cut_to3 (t e : TypeId) (kh : IntKind) {i : TypeInfo} (ht : P.underlying t = some (.slice e)) (hi : P.info? e = some i) (A : Option Addr) (n c : Nat) (j : Int) (h0 : 0 ≤ j) (hm : j ≤ n) (hc : n ≤ c) :
    ∀ W : World, (Instr.slice t (.slice A n c) none (some (.int kh j)) (some (.int kh j))).run P W = .ok (.slice A j.toNat j.toNat) W := by
  intro W
  have hel : P.elem t = e := by simp [Program.elem, ht]
  have hu : P.underlying t = some (.slice (P.elem t)) := by rw [hel]; exact ht
  have ha : (A.map fun x => x.add 0) = A := by cases A <;> simp [Addr.add]
  rw [run_slice_hm W t A n c hu kh kh j j h0 (Int.le_refl _) (by omega), hel]
  simp [sizeOf, typeInfo, hi, sliced, Result.andThen, ha]
/-- xs[:j:j] of a slice that came in. -/
theorem print_take3_of (enc : α → Value) (d : α) (t e : TypeId) (kl : IntKind) {i : TypeInfo} (ht : P.underlying t = some (.slice e)) (hi : P.info? e = some i) (hsz : i.size = 1) (A : Option Addr) (c : Nat) (xs : List α) (j : Int) (h0 : 0 ≤ j) (hm : j ≤ xs.length) (hc : xs.length ≤ c) :
    (∀ W : World, (Instr.slice t (.slice A xs.length c) none (some (.int kl j)) (some (.int kl j))).run P W = .ok (.slice A (xs.take j.toNat).length j.toNat) W) ∧
      (∀ w : World, ReadsOf enc d w A xs.length xs → ReadsOf enc d w A (xs.take j.toNat).length (xs.take j.toNat)) ∧ (xs.take j.toNat).length ≤ j.toNat := by
  have hl : (xs.take j.toNat).length = j.toNat := by rw [List.length_take]; omega
  refine ⟨fun W => ?_, fun w h => by rw [hl]; exact h.take_ j.toNat (by omega), by rw [hl]; omega⟩
  have hel : P.elem t = e := by simp [Program.elem, ht]
  have hu : P.underlying t = some (.slice (P.elem t)) := by rw [hel]; exact ht
  have ha : (A.map fun x => x.add 0) = A := by cases A <;> simp [Addr.add]
  rw [run_slice_hm W t A xs.length c hu kl kl j j h0 (Int.le_refl _) (by omega), hel, hl]
  simp [sizeOf, typeInfo, hi, hsz, sliced, Result.andThen, ha]
end
end Go.Proofs.YtahllmihgpaaeaaW.More2
