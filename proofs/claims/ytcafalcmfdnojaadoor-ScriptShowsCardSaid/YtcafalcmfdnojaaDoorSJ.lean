/- A range over a function: the loop's record, its rounds, what is done when it is over. -/
import Derived.Test.YtcafalcmfdnojaaDoorSU
import Derived.RangeFuncRecord
import Derived.RangeFuncIn
import Derived.RangeFuncLeaves
set_option linter.unusedVariables false
namespace Go.Proofs.YtcafalcmfdnojaaDoorS
section
variable {P : Program} {I : Ctx}
theorem Inv.put {w0 w : World} {K0 : List Nat} {h : Mem} (hi : Inv w0 K0 I h w) {i b : Nat} {o : Obj} (hb : h[i]? = some (b, o)) (o' : Obj) : Inv w0 K0 I (h.set i (b, o')) (w.putObj b o') := by
  have hw := hi.own _ _ (List.mem_of_getElem? hb)
  have hlt := (Array.getElem?_eq_some_iff.1 hw).1
  exact hi.set hb ⟨rfl, rfl, rfl, by simp [World.putObj]⟩ (World.putObj_heap_same hlt) (fun k hk => World.putObj_heap_other hk)
theorem Wp.beginRound {f : Ctl} {l i : Nat} {r : Loop} {k : List Item} {τ : List Value} {h : Mem} {Q : Value → Mem → Prop} (hf : f.rd = some l) (hu : h[i]? = some (l, .loop r)) (hr : r.state = .ready)
    (hw : Wp P f k τ I (h.set i (l, .loop { r with state := .busy })) Q) : Wp P f (.beginRound :: k) τ I h Q := by
  intro w0 K0 w hi b cs hb hk hrd
  have hl := hi.own _ _ (List.mem_of_getElem? hu)
  obtain ⟨v, h', w', hq, hi', h1⟩ := hw w0 K0 _ (hi.put hu (.loop { r with state := .busy })) b cs hb hk hrd
  exact ⟨v, h', w', hq, hi', h1.head (stepR_beginRound (hrd.trans hf) (run_beginRound hl hr))⟩
theorem Wp.roundEnd {f : Ctl} {l i : Nat} {r : Loop} {τ : List Value} {h : Mem} {Q : Value → Mem → Prop} (hf : f.rd = some l) (hu : h[i]? = some (l, .loop r))
    (hq : Q (.bool true) (h.set i (l, .loop { r with state := .ready, pending := none }))) : Wp P f [] τ I h Q := by
  intro w0 K0 w hi b cs hb hk hrd
  have hl := hi.own _ _ (List.mem_of_getElem? hu)
  refine ⟨_, _, _, hq, hi.put hu _, ?_⟩
  unfold Ends
  rw [hf]
  intro c cs' e
  subst e
  exact .one (stepR_round_end (hrd.trans hf) hk (run_endRound none hl))
theorem Wp.roundRet {f : Ctl} {l i : Nat} {r : Loop} {k : List Item} {τ : List Value} {h : Mem} {Q : Value → Mem → Prop} (hf : f.rd = some l) (hu : h[i]? = some (l, .loop r))
    (hq : Q (.bool false) (h.set i (l, .loop { r with state := .done, pending := some .ret }))) : Wp P f (.code .ret :: k) τ I h Q := by
  intro w0 K0 w hi b cs hb hk hrd
  have hl := hi.own _ _ (List.mem_of_getElem? hu)
  refine ⟨_, _, _, hq, hi.put hu _, ?_⟩
  unfold Ends
  rw [hf]
  intro c cs' e
  subst e
  exact .one (stepR_round_ret (hrd.trans hf) hk (run_endRound (some .ret) hl))
theorem RoundFn.of {l : Nat} {fn : FuncId} {τ : List Value} {ac bd : Code} {h : Mem} {Q : Value → Mem → Prop} (hw : Wp P { fn := fn, rd := some l } [.code ac, .beginRound, .code bd] τ I h Q) : RoundFn P l fn ⟨τ⟩ ac bd I h Q := by
  intro w0 K0 w hi c cs
  let b : Frame := Frame.round l fn ⟨τ⟩ ac bd .normal
  obtain ⟨v, h', w', hq, hi', h1⟩ := hw w0 K0 w hi b (c :: cs) rfl rfl rfl
  refine ⟨v, h', w', hq, hi', ?_⟩
  unfold Ends at h1
  exact h1 c cs rfl
theorem Wp.rangeFunc {f : Ctl} {g : Operand} {ps : Array Tmp} {ac bd : Code} {k : List Item} {τ : List Value} {h : Mem} {Q : Value → Mem → Prop} {fn : FuncId} {caps : List Value} (hrd : f.rd = none) (hg : evl τ g = .func (.func fn) #[] ⟨caps⟩) (hca : callable P fn)
    (hw : ∀ D L, Live I ((L, Obj.loop { state := .ready, pending := none, fn := f.fn, tmps := ⟨τ⟩, params := ps, assign := ac, body := bd, defers := D }) :: (D, Obj.deferred (some [])) :: h) →
      ∃ hc hr, ((L, Obj.loop { state := .ready, pending := none, fn := f.fn, tmps := ⟨τ⟩, params := ps, assign := ac, body := bd, defers := D }) :: (D, Obj.deferred (some [])) :: h).Perm (hc ++ hr) ∧
        Fn P fn ⟨.func (.yield L) #[] #[] :: caps⟩ (plus I hr) hc (fun _ h1 => ∃ i r, (h1 ++ hr)[i]? = some (L, .loop r) ∧ r.state ≠ .busy ∧
          Wp P { f with ds := { target := .collected D, args := #[] } :: f.ds } ((r.pending.map Item.code).toList ++ k) τ I ((h1 ++ hr).set i (L, .loop { r with state := .exhausted })) Q)) :
    Wp P f (.code (.rangeFunc g ps ac bd) :: k) τ I h Q := by
  intro w0 K0 w hi b cs hb hk hro
  obtain ⟨_, _, hi1⟩ := hi.new (.deferred (some []))
  obtain ⟨_, _, hi2⟩ := hi1.new (.loop { state := .ready, pending := none, fn := f.fn, tmps := ⟨τ⟩, params := ps, assign := ac, body := bd, defers := w.heap.size })
  have he : (Instr.enterLoop b.fn (act τ f.ds).tmps ps ac bd b.roundOf).run P w = .ok (w.heap.size + 1, [{ target := .collected w.heap.size, args := #[] }])
      ((w.alloc (.deferred (some []))).alloc (.loop { state := .ready, pending := none, fn := f.fn, tmps := (act τ f.ds).tmps, params := ps, assign := ac, body := bd, defers := w.heap.size })) := by
    rw [hro, hrd, run_enterLoop_outer, hb]
  have hsz : (w.heap.push (Obj.deferred (some []))).size = w.heap.size + 1 := by simp
  simp only [hsz] at hi2
  obtain ⟨hc, hr, hp, hf⟩ := hw w.heap.size (w.heap.size + 1) ⟨w0, K0, _, hi2⟩
  have hff := hf.frame
  have hev : (act τ f.ds).eval g = .func (.func fn) #[] ⟨caps⟩ := by rw [act_eval]; exact hg
  have hres : ∀ w1, (resolve (act τ f.ds).eval (rangeCall g (w.heap.size + 1)) 0).run P w1 = .ok { target := .fn (.func fn) ⟨caps⟩, args := #[.func (.yield (w.heap.size + 1)) #[] #[]] } w1 := by
    intro w1
    simp only [resolve, hev, Deferred.ofValue]
    show Result.ok _ w1 = _
    congr 1
    congr 1
    simp
    rfl
  have hinv : ∀ w1, (invoke (.fn (.func fn) ⟨caps⟩) #[.func (.yield (w.heap.size + 1)) #[] #[]]).run P w1 = .ok (.enter fn ⟨.func (.yield (w.heap.size + 1)) #[] #[] :: caps⟩) w1 := by
    intro w1
    simp only [invoke]
    rw [show (#[.func (.yield (w.heap.size + 1)) #[] #[]] ++ (⟨caps⟩ : Array Value)) = ⟨.func (.yield (w.heap.size + 1)) #[] #[] :: caps⟩ by simp]
    exact run_callFunc hca
  have henter := stepR_rangeFunc (b := b) (a := act τ f.ds) (k := k) (cs := cs) he (hres _) (hinv _)
  obtain ⟨e, w2, fr, ⟨v, h2, rfl, ⟨h3, rfl, i, r, hu, hnb, hwp⟩, hi3⟩, hsteps, _, hleave⟩ := hff.2 w0 K0 _ (hi2.perm hp) (b.atR { act τ f.ds with defers := [{ target := .collected w.heap.size, args := #[] }] ++ (act τ f.ds).defers } (.inRangeFunc (w.heap.size + 1) :: k) :: cs)
  have hl := hi3.own _ _ (List.mem_of_getElem? hu)
  have hend := run_endLoop (P := P) hl hnb
  obtain ⟨v', h', w', hq', hi', h4⟩ := hwp w0 K0 _ (hi3.put hu (.loop { r with state := .exhausted })) b cs hb hk hro
  refine ⟨v', h', w', hq', hi', Ends.head henter (Ends.steps hsteps (Ends.head (step_leave_returned hleave) ?_))⟩
  rw [finish_atR_inRangeFunc]
  exact Ends.head (stepR_endRangeFunc hend) h4
/-- The end of a function that has ranged over one. -/
theorem Wp.retD {f : Ctl} {fn : Func} {D i : Nat} {todo : List Item} {τ : List Value} {h : Mem} {Q : Value → Mem → Prop} (hfr : f.rd = none) (hds : f.ds = [{ target := .collected D, args := #[] }]) (ht : todo = [] ∨ ∃ k, todo = .code .ret :: k) (hf : P.funcs[f.fn]? = some fn)
    (hu : h[i]? = some (D, .deferred (some []))) (hr : rwp P I (h.set i (D, .deferred none)) (results fn ⟨τ⟩) (fun v => Q v (h.set i (D, .deferred none)))) : Wp P f todo τ I h Q := by
  intro w0 K0 w hi b cs hb hk hrd
  have hl := hi.own _ _ (List.mem_of_getElem? hu)
  have hi2 := hi.put hu (.deferred none)
  obtain ⟨v, hrun, hq⟩ := rwp_run hi2 _ hr
  rw [hfr] at hrd
  rw [← hb] at hf
  rw [hds]
  have hgo : ∀ td, Ends P f (lone { b.atR (act τ [{ target := .collected D, args := #[] }]) td with mode := .returning } cs w) cs v (w.putObj D (.deferred none)) := by
    intro td
    have h1 := step_collected (P := P) (fr := { b.atR (act τ [{ target := .collected D, args := #[] }]) td with mode := .returning }) (cs := cs) (w := w) (d := { target := .collected D, args := #[] }) (r := D) (ds := []) (calls := []) (by simp) rfl rfl (run_takeDeferred hl)
    exact Ends.leave hfr (.one h1) hb ⟨rfl, rfl, hk, fn, hf, hrun⟩
  rcases ht with rfl | ⟨k, rfl⟩
  · exact ⟨v, _, _, hq, hi2, Ends.head (stepR_end hrd) (hgo _)⟩
  · exact ⟨v, _, _, hq, hi2, Ends.head (stepR_ret hrd) (hgo _)⟩
theorem rw_results {fn : Func} {τ : List Value} {h : Mem} {Q : Value → Prop} (hr : rwp P I h (fn.results.toList.mapM (resOne τ)) (fun vs => Q (wrapRes vs))) : rwp P I h (results fn ⟨τ⟩) Q := by
  rw [results_eq, rwp_bind]
  exact hr
section
variable {f : Ctl} {Q : Value → Mem → Prop} {h : Mem}
theorem h_yld {l : Nat} {args : List Value} {k : Bool → Tr} {r : Loop} {Qc : Value → Mem → Prop} (hc hr : Mem) (hh : Has I h l (.loop r)) (hn : args.length = r.params.size) (hp : h.Perm (hc ++ hr))
    (hf : Live I h → RoundFn P l r.fn ((r.params.zip ⟨args⟩).foldl (fun tmps (t, a) => tmps.setIfInBounds t a) r.tmps) r.assign r.body (plus I hr) hc Qc)
    (hk : ∀ v h1, Qc v h1 → ∃ b, v = .bool b ∧ holds P f I Q (k b) (h1 ++ hr)) : holds P f I Q (.yld l args k) h :=
  fun hl => ⟨r, hh, hn, hc, hr, hp, (hf hl).mono hk⟩
end
end
end Go.Proofs.YtcafalcmfdnojaaDoorS
