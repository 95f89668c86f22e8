/- From a contract of the library's shelf to one of ours. -/
import Derived.Test.YtcafalcmfdnojaaDoorSU
import Derived.Test.YtcafalcmfdnojaaDoorSS
import Derived.Below
import Derived.Lib.LaidTab
namespace Go.Proofs.YtcafalcmfdnojaaDoorS
open Go.RowKit
section
variable {P : Program} {I : Ctx}
theorem below_same {w w' : World} (hb : Below w.heap.size w w') {b : Nat} {o : Obj} (h : w.heap[b]? = some o) : w'.heap[b]? = some o := by
  have := (Array.getElem?_eq_some_iff.1 h).1
  rw [hb.block b this]; exact h
theorem Inv.of_below {w0 w w' : World} {K0 : List Nat} {h : Mem} (hi : Inv w0 K0 I h w) (hb : Below w.heap.size w w') : Inv w0 K0 I h w' := by
  refine ⟨fun b o hm => below_same hb (hi.own b o hm), hi.nd, fun b o hc => ⟨below_same hb (hi.ctx b o hc).1, (hi.ctx b o hc).2⟩, hi.key, fun b hb1 hK => ?_, Nat.le_trans hi.size hb.size, hb.os.trans hi.os, hb.tape.trans hi.tape, hb.output.trans hi.output⟩
  rw [hb.block b (Nat.lt_of_lt_of_le hb1 hi.size)]; exact hi.frame b hb1 hK
/-- A block that was not there is held. -/
theorem Inv.take {w0 w w' : World} {K0 : List Nat} {h : Mem} (hi : Inv w0 K0 I h w) (hb : Below w.heap.size w w') {N : Nat} {o : Obj} (hN : w.heap.size ≤ N) (ho : w'.heap[N]? = some o) : Inv w0 K0 I ((N, o) :: h) w' := by
  have h2 := hi.of_below hb
  have hk : N ∉ keys h := fun hm => by have := hi.lt hm; omega
  refine ⟨fun b u hm => ?_, by rw [keys_cons]; exact List.nodup_cons.2 ⟨hk, hi.nd⟩, fun b u hc => ⟨(h2.ctx b u hc).1, ?_⟩, fun b hm => ?_, h2.frame, h2.size, h2.os, h2.tape, h2.output⟩
  · rcases List.mem_cons.1 hm with he | hm
    · injection he with h3 h4; subst h3; subst h4; exact ho
    · exact h2.own b u hm
  · rw [keys_cons]
    intro hm
    rcases List.mem_cons.1 hm with he | hm
    · have h3 := (Array.getElem?_eq_some_iff.1 (hi.ctx b u hc).1).1
      simp only at he
      omega
    · exact (hi.ctx b u hc).2 hm
  · rw [keys_cons] at hm
    rcases List.mem_cons.1 hm with he | hm
    · simp only at he; subst he; exact .inr (Nat.le_trans hi.size hN)
    · exact hi.key b hm
/-- The world is as the context says. -/
def OnI (I : Ctx) (w : World) : Prop := ∀ b o, I b = some o → w.heap[b]? = some o
theorem OnI.cell {w : World} (h : OnI I w) {a : Addr} {v : Value} (hc : CellIs I [] a v) : w.cell? a = some v := by
  obtain ⟨h1, cs, t, fz, h2, h3⟩ := hc
  rcases h2 with h2 | h2
  · simp at h2
  · simp [World.cell?, h _ _ h2, h1, h3]
theorem fn_calls {f : FuncId} {args : Array Value} {Qv : Value → Prop} (hca : callable P f) (hc : ∀ w, OnI I w → Calls P f args w fun e w' => ∃ v, e = .returned v ∧ Qv v ∧ Below w.heap.size w w') :
    Fn P f args I [] (fun v h' => Qv v ∧ h' = []) :=
  ⟨hca, fun _ _ w hi => (hc w (fun b o hb => (hi.ctx b o hb).1)).mono fun _ _ ⟨v, he, hv, hb⟩ => ⟨v, [], he, ⟨hv, rfl⟩, hi.of_below hb⟩⟩
theorem fn_calls1 {f : FuncId} {args : Array Value} {v : Value} (hca : callable P f) (hc : ∀ w, OnI I w → Calls P f args w fun e w' => e = .returned v ∧ Below w.heap.size w w') :
    Fn P f args I [] (fun u h' => u = v ∧ h' = []) :=
  fn_calls (Qv := fun u => u = v) hca fun w hw => (hc w hw).mono fun _ _ ⟨he, hb⟩ => ⟨v, he, rfl, hb⟩
theorem fn_callsN {f : FuncId} {args : Array Value} {Qv : Value → Nat → Obj → Prop} (hca : callable P f)
    (hc : ∀ w, OnI I w → Calls P f args w fun e w' => ∃ v N o, e = .returned v ∧ Qv v N o ∧ w.heap.size ≤ N ∧ w'.heap[N]? = some o ∧ Below w.heap.size w w') :
    Fn P f args I [] (fun v h' => ∃ N o, Qv v N o ∧ h' = [(N, o)]) :=
  ⟨hca, fun _ _ w hi => (hc w (fun b o hb => (hi.ctx b o hb).1)).mono fun _ _ ⟨v, N, o, he, hv, hN, ho, hb⟩ => ⟨v, [(N, o)], he, ⟨N, o, hv, rfl⟩, hi.take hb hN ho⟩⟩
def isIf (P : Program) (t : TypeId) : Bool := match P.underlying t with | some (.interface _) => true | _ => false
/-- Is that interface value nil? -/
def IfNil (v : Value) (b : Bool) : Prop := (b = true ∧ v = .nilIface) ∨ (b = false ∧ ∃ u p, v = .iface u p)
section
variable {f : Ctl} {Q : Value → Mem → Prop} {h : Mem} {k : (Nat → Leaf) → Tr}
theorem rw_ifNil {t : TypeId} {z : Operand} {v : Value} {b : Bool} {R : Next → Prop} {op : BinOp} (hop : op = .eql ∨ op = .neq) (ht : isIf P t = true) (hv : IfNil v b) (hr : R (.value (.bool (if op matches .eql then b else !b)))) :
    rwp P I h (eqN op t z (.const .nilIface) v .nilIface) R := by
  unfold isIf at ht
  cases hu : P.underlying t with
  | none => rw [hu] at ht; cases ht
  | some d =>
    rw [hu] at ht
    cases d <;> first | cases ht | skip
    unfold eqN
    refine rwp_vN ?_
    rcases hv with ⟨rfl, rfl⟩ | ⟨rfl, u, p, rfl⟩
    · have he : still P (Op.equal t .nilIface .nilIface) = some true := by
        unfold Op.equal Op.maxDepth
        rw [show (10000 : Nat) = 9999 + 1 from rfl, Op.equalIn, still_bind _ _ (still_underlying hu)]
        rfl
      have hg : ∀ op, still P (eqGuard op t z (.const .nilIface) .nilIface .nilIface) = some () := fun op => by cases op <;> first | rfl | (unfold eqGuard; cases z <;> rfl)
      refine rwp_still (hg op) ?_
      rcases hop with rfl | rfl
      · show rwp P I h (do pure (Value.bool ((← Op.equal t .nilIface .nilIface))) : Sem Value) _
        exact rwp_still he hr
      · show rwp P I h (do pure (Value.bool (!(← Op.equal t .nilIface .nilIface))) : Sem Value) _
        exact rwp_still he hr
    · have he : still P (Op.equal t (.iface u p) .nilIface) = some false := by
        unfold Op.equal Op.maxDepth
        rw [show (10000 : Nat) = 9999 + 1 from rfl, Op.equalIn, still_bind _ _ (still_underlying hu)]
        rfl
      refine rwp_still (a := ()) (by rcases hop with rfl | rfl <;> rfl) ?_
      rcases hop with rfl | rfl
      · show rwp P I h (do pure (Value.bool ((← Op.equal t (.iface u p) .nilIface))) : Sem Value) _
        exact rwp_still he hr
      · show rwp P I h (do pure (Value.bool (!(← Op.equal t (.iface u p) .nilIface))) : Sem Value) _
        exact rwp_still he hr
theorem h_ifE {t : TypeId} {z : Operand} {v : Value} (b : Bool) (ht : isIf P t = true) (hv : IfNil v b) (hk : holds P f I Q (k fun _ => { b := b }) h) : holds P f I Q (.rdn (eqN .eql t z (.const .nilIface) v .nilIface) (.one (.sc .bool)) k) h :=
  h_rdn _ (rw_ifNil (.inl rfl) ht hv rfl) hk
theorem h_ifN {t : TypeId} {z : Operand} {v : Value} (b : Bool) (ht : isIf P t = true) (hv : IfNil v b) (hk : holds P f I Q (k fun _ => { b := !b }) h) : holds P f I Q (.rdn (eqN .neq t z (.const .nilIface) v .nilIface) (.one (.sc .bool)) k) h :=
  h_rdn _ (rw_ifNil (.inr rfl) ht hv rfl) hk
theorem pn_addS {t : TypeId} {x y : List UInt8} {T : Tr} (hb : x.length + y.length ≤ 1000000000000) (hk : holds P f I Q T h) : holds P f I Q (.pin (binN .add t (.string (bS x)) (.string (bS y))) (.string (bS (x ++ y))) T) h := by
  refine h_pin ?_ hk
  unfold binN
  refine rwp_vN ?_
  refine rwp_still (a := ()) rfl ?_
  show rwp P I h (Op.stringOp .add (bS x) (bS y)) _
  unfold Op.stringOp
  simp only []
  rw [bS_size, bS_size, if_neg (by show ¬ (((x.length + y.length : Nat) : Int) > 9223372036854775807); omega), bS_append]
  rfl
end
end
end Go.Proofs.YtcafalcmfdnojaaDoorS
