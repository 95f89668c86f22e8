/-
  No cell of these rows narrows 'for every input' (looked for: loops, veiled, ifaces, maps, wideKeys, modest, calm, conditions, laid).
  DERIVED. THE GIVEN ROWS OF THIS SEAT. 8 by the template 'for every input the law returns true; each argument reads behind the call as it read before'; 0 by the template 'total and deterministic' (their statements: YtghlhdjngihkoaaTotals.lean).
  GIVEN WITH THE SEED: the statements are not yours to turn. If you find one false, say at which input.
  Laid BY PROGRAM, IN A SANDBOX (cutbox-rows.mjs): the forced cells as the released guide's own fill.sh prints them over the translation 4e97460b4c4ca6e7… (all of the seat's roots in one cut). By AI agents, Wed Nov 11 2026. No macro, syntax, notation, axiom, sorry.
-/
import Derived.Test.YtghlhdjngihkoaaChecked
import GoSem.Claim
import GoSem.ClaimJoined
import GoSem.ClaimMapViews
import Derived.JoinedTies
import Derived.KernelRfl
namespace Go.Proofs.Ytghlhdjngihkoaa
/- THE CELL 'sum', in the pinned program and in every row, IS THE sha256 OF THE DUMP (.gsa) THAT YtghlhdjngihkoaaProg.lean LOADS. Nothing in Lean hashes anything: it is a label: what it is worth is what the hold of that sum in a sandbox is worth. -/
noncomputable def Try.pinned : Pinned := { name := "ytghlhdjngihkoaa", sum := "4e97460b4c4ca6e7744387a8d13f8910aee1bcaa4f398aadbb3e4bdac6154960", checked := Try.checked }
namespace Rows
def none {H : Type} : Left H := { results := [], args := [] }

/-- 'octroilaw04.MetricJoins': WHATEVER THE INPUT: true; the input reads as it did. -/
def metricJoinsSpec : ChangeSpec := { name := "metricJoins", fn := fun _ => fun
  | [d1, d2] => { results := [.lit (.bool true)], args := [d1, d2] }
  | _ => none }
def metricJoinsRow : OpenClaim := { program := "ytghlhdjngihkoaa", sum := "4e97460b4c4ca6e7744387a8d13f8910aee1bcaa4f398aadbb3e4bdac6154960", func := "octroi/octroilaw04.MetricJoins", spec := "metricJoins", apart := false }
def MetricJoinsSaid : Prop := metricJoinsRow.holds Try.pinned (OpenSpec.ofChange metricJoinsSpec)

/-- ITS FALSE NEIGHBOUR: 'it returns false'. Refute it at one input. -/
def metricJoinsWrong : ChangeSpec := { name := "metricJoins", fn := fun _ => fun
  | [d1, d2] => { results := [.lit (.bool false)], args := [d1, d2] }
  | _ => none }
def MetricJoinsWrongFalsely : Prop := metricJoinsRow.holds Try.pinned (OpenSpec.ofChange metricJoinsWrong)

/-- 'octroilaw04.MetricOrder': WHATEVER THE INPUT: true; the input reads as it did. -/
def metricOrderSpec : ChangeSpec := { name := "metricOrder", fn := fun _ => fun
  | [d1, d2, d3] => { results := [.lit (.bool true)], args := [d1, d2, d3] }
  | _ => none }
def metricOrderRow : OpenClaim := { program := "ytghlhdjngihkoaa", sum := "4e97460b4c4ca6e7744387a8d13f8910aee1bcaa4f398aadbb3e4bdac6154960", func := "octroi/octroilaw04.MetricOrder", spec := "metricOrder", apart := false }
def MetricOrderSaid : Prop := metricOrderRow.holds Try.pinned (OpenSpec.ofChange metricOrderSpec)

/-- ITS FALSE NEIGHBOUR: 'it returns false'. Refute it at one input. -/
def metricOrderWrong : ChangeSpec := { name := "metricOrder", fn := fun _ => fun
  | [d1, d2, d3] => { results := [.lit (.bool false)], args := [d1, d2, d3] }
  | _ => none }
def MetricOrderWrongFalsely : Prop := metricOrderRow.holds Try.pinned (OpenSpec.ofChange metricOrderWrong)

/-- 'octroilaw04.MetricKeeps': WHATEVER THE INPUT: true; the input reads as it did. -/
def metricKeepsSpec : ChangeSpec := { name := "metricKeeps", fn := fun _ => fun
  | [d1, d2, d3] => { results := [.lit (.bool true)], args := [d1, d2, d3] }
  | _ => none }
def metricKeepsRow : OpenClaim := { program := "ytghlhdjngihkoaa", sum := "4e97460b4c4ca6e7744387a8d13f8910aee1bcaa4f398aadbb3e4bdac6154960", func := "octroi/octroilaw04.MetricKeeps", spec := "metricKeeps", apart := false }
def MetricKeepsSaid : Prop := metricKeepsRow.holds Try.pinned (OpenSpec.ofChange metricKeepsSpec)

/-- ITS FALSE NEIGHBOUR: 'it returns false'. Refute it at one input. -/
def metricKeepsWrong : ChangeSpec := { name := "metricKeeps", fn := fun _ => fun
  | [d1, d2, d3] => { results := [.lit (.bool false)], args := [d1, d2, d3] }
  | _ => none }
def MetricKeepsWrongFalsely : Prop := metricKeepsRow.holds Try.pinned (OpenSpec.ofChange metricKeepsWrong)

/-- 'octroilaw04.MetricSums': WHATEVER THE INPUT: true; the input reads as it did. -/
def metricSumsSpec : ChangeSpec := { name := "metricSums", fn := fun _ => fun
  | [d1, d2] => { results := [.lit (.bool true)], args := [d1, d2] }
  | _ => none }
def metricSumsRow : OpenClaim := { program := "ytghlhdjngihkoaa", sum := "4e97460b4c4ca6e7744387a8d13f8910aee1bcaa4f398aadbb3e4bdac6154960", func := "octroi/octroilaw04.MetricSums", spec := "metricSums", apart := false }
def MetricSumsSaid : Prop := metricSumsRow.holds Try.pinned (OpenSpec.ofChange metricSumsSpec)

/-- ITS FALSE NEIGHBOUR: 'it returns false'. Refute it at one input. -/
def metricSumsWrong : ChangeSpec := { name := "metricSums", fn := fun _ => fun
  | [d1, d2] => { results := [.lit (.bool false)], args := [d1, d2] }
  | _ => none }
def MetricSumsWrongFalsely : Prop := metricSumsRow.holds Try.pinned (OpenSpec.ofChange metricSumsWrong)

/-- 'octroilaw04.MetricHops': WHATEVER THE INPUT: true; the input reads as it did. -/
def metricHopsSpec : ChangeSpec := { name := "metricHops", fn := fun _ => fun
  | [d1, d2] => { results := [.lit (.bool true)], args := [d1, d2] }
  | _ => none }
def metricHopsRow : OpenClaim := { program := "ytghlhdjngihkoaa", sum := "4e97460b4c4ca6e7744387a8d13f8910aee1bcaa4f398aadbb3e4bdac6154960", func := "octroi/octroilaw04.MetricHops", spec := "metricHops", apart := false }
def MetricHopsSaid : Prop := metricHopsRow.holds Try.pinned (OpenSpec.ofChange metricHopsSpec)

/-- ITS FALSE NEIGHBOUR: 'it returns false'. Refute it at one input. -/
def metricHopsWrong : ChangeSpec := { name := "metricHops", fn := fun _ => fun
  | [d1, d2] => { results := [.lit (.bool false)], args := [d1, d2] }
  | _ => none }
def MetricHopsWrongFalsely : Prop := metricHopsRow.holds Try.pinned (OpenSpec.ofChange metricHopsWrong)

/-- 'octroilaw04.MetricTells': WHATEVER THE INPUT: true; the input reads as it did. -/
def metricTellsSpec : ChangeSpec := { name := "metricTells", fn := fun _ => fun
  | [d1, d2] => { results := [.lit (.bool true)], args := [d1, d2] }
  | _ => none }
def metricTellsRow : OpenClaim := { program := "ytghlhdjngihkoaa", sum := "4e97460b4c4ca6e7744387a8d13f8910aee1bcaa4f398aadbb3e4bdac6154960", func := "octroi/octroilaw04.MetricTells", spec := "metricTells", apart := false }
def MetricTellsSaid : Prop := metricTellsRow.holds Try.pinned (OpenSpec.ofChange metricTellsSpec)

/-- ITS FALSE NEIGHBOUR: 'it returns false'. Refute it at one input. -/
def metricTellsWrong : ChangeSpec := { name := "metricTells", fn := fun _ => fun
  | [d1, d2] => { results := [.lit (.bool false)], args := [d1, d2] }
  | _ => none }
def MetricTellsWrongFalsely : Prop := metricTellsRow.holds Try.pinned (OpenSpec.ofChange metricTellsWrong)

/-- 'octroilaw04.MetricWorse': WHATEVER THE INPUT: true; the input reads as it did. -/
def metricWorseSpec : ChangeSpec := { name := "metricWorse", fn := fun _ => fun
  | [d1, d2] => { results := [.lit (.bool true)], args := [d1, d2] }
  | _ => none }
def metricWorseRow : OpenClaim := { program := "ytghlhdjngihkoaa", sum := "4e97460b4c4ca6e7744387a8d13f8910aee1bcaa4f398aadbb3e4bdac6154960", func := "octroi/octroilaw04.MetricWorse", spec := "metricWorse", apart := false }
def MetricWorseSaid : Prop := metricWorseRow.holds Try.pinned (OpenSpec.ofChange metricWorseSpec)

/-- ITS FALSE NEIGHBOUR: 'it returns false'. Refute it at one input. -/
def metricWorseWrong : ChangeSpec := { name := "metricWorse", fn := fun _ => fun
  | [d1, d2] => { results := [.lit (.bool false)], args := [d1, d2] }
  | _ => none }
def MetricWorseWrongFalsely : Prop := metricWorseRow.holds Try.pinned (OpenSpec.ofChange metricWorseWrong)

/-- 'octroilaw04.MetricBest': WHATEVER THE INPUT: true; the input reads as it did. -/
def metricBestSpec : ChangeSpec := { name := "metricBest", fn := fun _ => fun
  | [d1, d2, d3] => { results := [.lit (.bool true)], args := [d1, d2, d3] }
  | _ => none }
def metricBestRow : OpenClaim := { program := "ytghlhdjngihkoaa", sum := "4e97460b4c4ca6e7744387a8d13f8910aee1bcaa4f398aadbb3e4bdac6154960", func := "octroi/octroilaw04.MetricBest", spec := "metricBest", apart := false }
def MetricBestSaid : Prop := metricBestRow.holds Try.pinned (OpenSpec.ofChange metricBestSpec)

/-- ITS FALSE NEIGHBOUR: 'it returns false'. Refute it at one input. -/
def metricBestWrong : ChangeSpec := { name := "metricBest", fn := fun _ => fun
  | [d1, d2, d3] => { results := [.lit (.bool false)], args := [d1, d2, d3] }
  | _ => none }
def MetricBestWrongFalsely : Prop := metricBestRow.holds Try.pinned (OpenSpec.ofChange metricBestWrong)

/- THE SECOND FORM. 'bulk': how many values and letters a reading holds, each counted each time it is reached (what is shared counts as often as it is met; a slice's spare places count too). A statement '..UptoSaid' is the law's where the arguments, and the package variables that the reading takes, are together of bulk at most 1048576: NARROWER than '..Said'. Prove '..Said' where nothing that the law and all that it calls make is longer than what came in: it says more and counts as full. Else prove '..UptoSaid'. A law counts once. -/
mutual
def uptoBulk {H : Type} : DataW H → Nat
  | .lit (.string bytes) => bytes.length + 1
  | .lit _ => 1
  | .nil => 1
  | .ptr d => uptoBulk d + 1
  | .slice elems spare => uptoBulkAll elems + uptoBulkAll spare + 1
  | .agg parts => uptoBulkAll parts + 1
  | .iface _ d => uptoBulk d + 1
  | .map entries => uptoBulkEntries entries + 1
  | .held _ => 1
def uptoBulkAll {H : Type} : List (DataW H) → Nat
  | [] => 0
  | d :: r => uptoBulk d + uptoBulkAll r
def uptoBulkEntries {H : Type} : List (Lit × DataW H) → Nat
  | [] => 0
  | x :: r => uptoBulkEntry x + uptoBulkEntries r
def uptoBulkEntry {H : Type} : Lit × DataW H → Nat
  | (.string bytes, d) => bytes.length + uptoBulk d + 1
  | (_, d) => uptoBulk d + 1
 end
def uptoSmall : (H : Type) → List (DataW H) → Bool := fun _ ds => decide (uptoBulkAll ds ≤ 1048576)
def OpenSpec.upto (s : _root_.Go.ChangeSpec) : _root_.Go.OpenSpec := { _root_.Go.OpenSpec.ofChange s with cond := some uptoSmall }

/-- 'octroilaw04.MetricJoins', WHERE WHAT IT READS IS OF BULK AT MOST 1048576: true; the input reads as it did. -/
def metricJoinsUptoRow : OpenClaim := { program := "ytghlhdjngihkoaa", sum := "4e97460b4c4ca6e7744387a8d13f8910aee1bcaa4f398aadbb3e4bdac6154960", func := "octroi/octroilaw04.MetricJoins", spec := "metricJoins", apart := false, narrowed := true }
def MetricJoinsUptoSaid : Prop := metricJoinsUptoRow.holds Try.pinned (OpenSpec.upto metricJoinsSpec)

/-- 'octroilaw04.MetricOrder', WHERE WHAT IT READS IS OF BULK AT MOST 1048576: true; the input reads as it did. -/
def metricOrderUptoRow : OpenClaim := { program := "ytghlhdjngihkoaa", sum := "4e97460b4c4ca6e7744387a8d13f8910aee1bcaa4f398aadbb3e4bdac6154960", func := "octroi/octroilaw04.MetricOrder", spec := "metricOrder", apart := false, narrowed := true }
def MetricOrderUptoSaid : Prop := metricOrderUptoRow.holds Try.pinned (OpenSpec.upto metricOrderSpec)

/-- 'octroilaw04.MetricKeeps', WHERE WHAT IT READS IS OF BULK AT MOST 1048576: true; the input reads as it did. -/
def metricKeepsUptoRow : OpenClaim := { program := "ytghlhdjngihkoaa", sum := "4e97460b4c4ca6e7744387a8d13f8910aee1bcaa4f398aadbb3e4bdac6154960", func := "octroi/octroilaw04.MetricKeeps", spec := "metricKeeps", apart := false, narrowed := true }
def MetricKeepsUptoSaid : Prop := metricKeepsUptoRow.holds Try.pinned (OpenSpec.upto metricKeepsSpec)

/-- 'octroilaw04.MetricSums', WHERE WHAT IT READS IS OF BULK AT MOST 1048576: true; the input reads as it did. -/
def metricSumsUptoRow : OpenClaim := { program := "ytghlhdjngihkoaa", sum := "4e97460b4c4ca6e7744387a8d13f8910aee1bcaa4f398aadbb3e4bdac6154960", func := "octroi/octroilaw04.MetricSums", spec := "metricSums", apart := false, narrowed := true }
def MetricSumsUptoSaid : Prop := metricSumsUptoRow.holds Try.pinned (OpenSpec.upto metricSumsSpec)

/-- 'octroilaw04.MetricHops', WHERE WHAT IT READS IS OF BULK AT MOST 1048576: true; the input reads as it did. -/
def metricHopsUptoRow : OpenClaim := { program := "ytghlhdjngihkoaa", sum := "4e97460b4c4ca6e7744387a8d13f8910aee1bcaa4f398aadbb3e4bdac6154960", func := "octroi/octroilaw04.MetricHops", spec := "metricHops", apart := false, narrowed := true }
def MetricHopsUptoSaid : Prop := metricHopsUptoRow.holds Try.pinned (OpenSpec.upto metricHopsSpec)

/-- 'octroilaw04.MetricTells', WHERE WHAT IT READS IS OF BULK AT MOST 1048576: true; the input reads as it did. -/
def metricTellsUptoRow : OpenClaim := { program := "ytghlhdjngihkoaa", sum := "4e97460b4c4ca6e7744387a8d13f8910aee1bcaa4f398aadbb3e4bdac6154960", func := "octroi/octroilaw04.MetricTells", spec := "metricTells", apart := false, narrowed := true }
def MetricTellsUptoSaid : Prop := metricTellsUptoRow.holds Try.pinned (OpenSpec.upto metricTellsSpec)

/-- 'octroilaw04.MetricWorse', WHERE WHAT IT READS IS OF BULK AT MOST 1048576: true; the input reads as it did. -/
def metricWorseUptoRow : OpenClaim := { program := "ytghlhdjngihkoaa", sum := "4e97460b4c4ca6e7744387a8d13f8910aee1bcaa4f398aadbb3e4bdac6154960", func := "octroi/octroilaw04.MetricWorse", spec := "metricWorse", apart := false, narrowed := true }
def MetricWorseUptoSaid : Prop := metricWorseUptoRow.holds Try.pinned (OpenSpec.upto metricWorseSpec)

/-- 'octroilaw04.MetricBest', WHERE WHAT IT READS IS OF BULK AT MOST 1048576: true; the input reads as it did. -/
def metricBestUptoRow : OpenClaim := { program := "ytghlhdjngihkoaa", sum := "4e97460b4c4ca6e7744387a8d13f8910aee1bcaa4f398aadbb3e4bdac6154960", func := "octroi/octroilaw04.MetricBest", spec := "metricBest", apart := false, narrowed := true }
def MetricBestUptoSaid : Prop := metricBestUptoRow.holds Try.pinned (OpenSpec.upto metricBestSpec)

end Rows
end Go.Proofs.Ytghlhdjngihkoaa
