/-
  No cell of these rows narrows 'for every input' (looked for: loops, veiled, ifaces, maps, wideKeys, modest, calm, conditions, laid).
  DERIVED. THE GIVEN ROWS OF THIS SEAT. 3 by the template 'for every input the law returns true; each argument reads behind the call as it read before'; 0 by the template 'total and deterministic' (their statements: YtadanegddceleaaGreatTotals.lean).
  GIVEN WITH THE SEED: the statements are not yours to turn. If you find one false, say at which input.
  Laid BY PROGRAM, IN A SANDBOX (cutbox-rows.mjs): the forced cells as the released guide's own fill.sh prints them over the translation b24c439694bf0aa0… (all of the seat's roots in one cut). By AI agents, Wed Nov 11 2026. No macro, syntax, notation, axiom, sorry.
-/
import Derived.Test.YtadanegddceleaaGreatChecked
import GoSem.Claim
import GoSem.ClaimJoined
import GoSem.ClaimMapViews
import Derived.JoinedTies
import Derived.KernelRfl
namespace Go.Proofs.YtadanegddceleaaGreat
/- THE CELL 'sum', in the pinned program and in every row, IS THE sha256 OF THE DUMP (.gsa) THAT YtadanegddceleaaGreatProg.lean LOADS. Nothing in Lean hashes anything: it is a label: what it is worth is what the hold of that sum in a sandbox is worth. -/
noncomputable def Tryz.pinned : Pinned := { name := "ytadanegddceleaagreat", sum := "b24c439694bf0aa01c233d5c0504aa4291517452a12deb60e6fee2d0cde7925f", checked := Tryz.checked }
namespace Rows
def none {H : Type} : Left H := { results := [], args := [] }

/-- 'octroitop.TopForgets': WHATEVER THE INPUT: true; the input reads as it did. -/
def topForgetsSpec : ChangeSpec := { name := "topForgets", fn := fun _ => fun
  | [d1, d2, d3] => { results := [.lit (.bool true)], args := [d1, d2, d3] }
  | _ => none }
def topForgetsRow : OpenClaim := { program := "ytadanegddceleaagreat", sum := "b24c439694bf0aa01c233d5c0504aa4291517452a12deb60e6fee2d0cde7925f", func := "octroi/octroitop.TopForgets", spec := "topForgets", unfollowed := true, recurses := true, plainKeys := false, apart := false }
def TopForgetsSaid : Prop := topForgetsRow.holds Tryz.pinned (OpenSpec.ofChange topForgetsSpec)

/-- ITS FALSE NEIGHBOUR: 'it returns false'. Refute it at one input. -/
def topForgetsWrong : ChangeSpec := { name := "topForgets", fn := fun _ => fun
  | [d1, d2, d3] => { results := [.lit (.bool false)], args := [d1, d2, d3] }
  | _ => none }
def TopForgetsWrongFalsely : Prop := topForgetsRow.holds Tryz.pinned (OpenSpec.ofChange topForgetsWrong)

/-- 'octroitop.TopBabel': WHATEVER THE INPUT: true; the input reads as it did. -/
def topBabelSpec : ChangeSpec := { name := "topBabel", fn := fun _ => fun
  | [d1, d2, d3] => { results := [.lit (.bool true)], args := [d1, d2, d3] }
  | _ => none }
def topBabelRow : OpenClaim := { program := "ytadanegddceleaagreat", sum := "b24c439694bf0aa01c233d5c0504aa4291517452a12deb60e6fee2d0cde7925f", func := "octroi/octroitop.TopBabel", spec := "topBabel", unfollowed := true, recurses := true, plainKeys := false, apart := false }
def TopBabelSaid : Prop := topBabelRow.holds Tryz.pinned (OpenSpec.ofChange topBabelSpec)

/-- ITS FALSE NEIGHBOUR: 'it returns false'. Refute it at one input. -/
def topBabelWrong : ChangeSpec := { name := "topBabel", fn := fun _ => fun
  | [d1, d2, d3] => { results := [.lit (.bool false)], args := [d1, d2, d3] }
  | _ => none }
def TopBabelWrongFalsely : Prop := topBabelRow.holds Tryz.pinned (OpenSpec.ofChange topBabelWrong)

/-- 'octroitop.TopDual': WHATEVER THE INPUT: true; the input reads as it did. -/
def topDualSpec : ChangeSpec := { name := "topDual", fn := fun _ => fun
  | [d1, d2, d3] => { results := [.lit (.bool true)], args := [d1, d2, d3] }
  | _ => none }
def topDualRow : OpenClaim := { program := "ytadanegddceleaagreat", sum := "b24c439694bf0aa01c233d5c0504aa4291517452a12deb60e6fee2d0cde7925f", func := "octroi/octroitop.TopDual", spec := "topDual", unfollowed := true, recurses := true, plainKeys := false, apart := false }
def TopDualSaid : Prop := topDualRow.holds Tryz.pinned (OpenSpec.ofChange topDualSpec)

/-- ITS FALSE NEIGHBOUR: 'it returns false'. Refute it at one input. -/
def topDualWrong : ChangeSpec := { name := "topDual", fn := fun _ => fun
  | [d1, d2, d3] => { results := [.lit (.bool false)], args := [d1, d2, d3] }
  | _ => none }
def TopDualWrongFalsely : Prop := topDualRow.holds Tryz.pinned (OpenSpec.ofChange topDualWrong)

/- THE SECOND FORM. 'bulk': how many values and letters a reading holds, each counted each time it is reached (what is shared counts as often as it is met; a slice's spare places count too). A statement '..UptoSaid' is the law's where the arguments, and the package variables that the reading takes, are together of bulk at most 1048576: NARROWER than '..Said'. Prove '..Said' where nothing that the law and all that it calls make is longer than what came in: it says more and counts as full. Else prove '..UptoSaid'. A law counts once. -/
mutual
def uptoBulk {H : Type} : DataW H → Nat
  | .lit (.string bytes) => bytes.length + 1
  | .lit _ => 1
  | .nil => 1
  | .ptr d => uptoBulk d + 1
  | .slice elems spare => uptoBulkAll elems + uptoBulkAll spare + 1
  | .agg parts => uptoBulkAll parts + 1
  | .iface _ d => uptoBulk d + 1
  | .map entries => uptoBulkEntries entries + 1
  | .held _ => 1
def uptoBulkAll {H : Type} : List (DataW H) → Nat
  | [] => 0
  | d :: r => uptoBulk d + uptoBulkAll r
def uptoBulkEntries {H : Type} : List (Lit × DataW H) → Nat
  | [] => 0
  | x :: r => uptoBulkEntry x + uptoBulkEntries r
def uptoBulkEntry {H : Type} : Lit × DataW H → Nat
  | (.string bytes, d) => bytes.length + uptoBulk d + 1
  | (_, d) => uptoBulk d + 1
 end
def uptoSmall : (H : Type) → List (DataW H) → Bool := fun _ ds => decide (uptoBulkAll ds ≤ 1048576)
def OpenSpec.upto (s : _root_.Go.ChangeSpec) : _root_.Go.OpenSpec := { _root_.Go.OpenSpec.ofChange s with cond := some uptoSmall }

/-- 'octroitop.TopForgets', WHERE WHAT IT READS IS OF BULK AT MOST 1048576: true; the input reads as it did. -/
def topForgetsUptoRow : OpenClaim := { program := "ytadanegddceleaagreat", sum := "b24c439694bf0aa01c233d5c0504aa4291517452a12deb60e6fee2d0cde7925f", func := "octroi/octroitop.TopForgets", spec := "topForgets", unfollowed := true, recurses := true, plainKeys := false, apart := false, narrowed := true }
def TopForgetsUptoSaid : Prop := topForgetsUptoRow.holds Tryz.pinned (OpenSpec.upto topForgetsSpec)

/-- 'octroitop.TopBabel', WHERE WHAT IT READS IS OF BULK AT MOST 1048576: true; the input reads as it did. -/
def topBabelUptoRow : OpenClaim := { program := "ytadanegddceleaagreat", sum := "b24c439694bf0aa01c233d5c0504aa4291517452a12deb60e6fee2d0cde7925f", func := "octroi/octroitop.TopBabel", spec := "topBabel", unfollowed := true, recurses := true, plainKeys := false, apart := false, narrowed := true }
def TopBabelUptoSaid : Prop := topBabelUptoRow.holds Tryz.pinned (OpenSpec.upto topBabelSpec)

/-- 'octroitop.TopDual', WHERE WHAT IT READS IS OF BULK AT MOST 1048576: true; the input reads as it did. -/
def topDualUptoRow : OpenClaim := { program := "ytadanegddceleaagreat", sum := "b24c439694bf0aa01c233d5c0504aa4291517452a12deb60e6fee2d0cde7925f", func := "octroi/octroitop.TopDual", spec := "topDual", unfollowed := true, recurses := true, plainKeys := false, apart := false, narrowed := true }
def TopDualUptoSaid : Prop := topDualUptoRow.holds Tryz.pinned (OpenSpec.upto topDualSpec)

end Rows
end Go.Proofs.YtadanegddceleaaGreat
