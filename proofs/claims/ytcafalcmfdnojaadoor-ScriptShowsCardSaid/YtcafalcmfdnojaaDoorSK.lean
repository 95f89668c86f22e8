/- Words of the printed trees. -/
import Derived.Test.YtcafalcmfdnojaaDoorSH
import Derived.Test.YtcafalcmfdnojaaDoorChecked
import Derived.KernelRfl
set_option linter.unusedVariables false
namespace Go.Proofs.YtcafalcmfdnojaaDoorS
def sl : Code → Code | .seq a _ => a | c => c
def sr : Code → Code | .seq _ b => b | c => c
def ct : Code → Code | .cond _ a _ => a | c => c
def ce : Code → Code | .cond _ _ b => b | c => c
def ra : Code → Code | .rangeFunc _ _ a _ => a | c => c
def rb : Code → Code | .rangeFunc _ _ _ b => b | c => c
def bd : Code → Code | .block _ c => c | .loop c => c | .scope c => c | c => c
def unOf (pre : Nat → List (List Nat)) (r i j : Nat) : Bool := !(((pre r).getD j []).contains i) && !(((pre r).getD i []).contains j)
def vN (s : Sem Value) : Sem Next := do pure (.value (← s))
def eqN (op : BinOp) (t : TypeId) (x y : Operand) (a b : Value) : Sem Next := vN (do eqGuard op t x y a b; binOp op t a b)
def binN (op : BinOp) (t : TypeId) (a b : Value) : Sem Next := vN (do eqGuard op t (.tmp 0) (.tmp 0) a b; binOp op t a b)
def convN (src dst : TypeId) (x : Value) : Sem Next := vN (convert src dst x)
def buildN (t : TypeId) (ps : Array (Nat × Value)) : Sem Next := vN (Instr.build t ps)
def zeroB (P : Program) (t : TypeId) : Option Value := (P.info? t).bind (·.zero)
/-- An element type: its size in cells and in bytes, its zero. -/
structure ElemB (P : Program) (ts e : TypeId) (sz by_ : Nat) (z : Value) : Prop where
  u : P.underlying ts = some (.slice e)
  i : (P.info? e).map (fun i => (i.size, i.bytes, i.zero)) = some (sz, by_, some z)
  z : z.cells.size = sz
/-- What stands where nobody looks any more. -/
def jl (l : List (Nat × Value)) (t : Nat) : Value := match l.find? (fun p => p.1 == t) with | some p => p.2 | none => undef
def bitop (op : BinOp) (k : IntKind) (x y : Int) : Int :=
  let a := BitVec.ofInt k.bits x
  let b := BitVec.ofInt k.bits y
  match op with
  | .and => k.wrap (a &&& b).toNat
  | .or => k.wrap (a ||| b).toNat
  | .xor => k.wrap (a ^^^ b).toNat
  | .andNot => k.wrap (a &&& ~~~b).toNat
  | _ => 0
end Go.Proofs.YtcafalcmfdnojaaDoorS
