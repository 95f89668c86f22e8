import Derived.Test.YtcafalcmfdnojaaDoorN18
import Derived.Test.YtcafalcmfdnojaaDoorSR
import Derived.Test.YtcafalcmfdnojaaDoorSW
import Derived.Test.YtcafalcmfdnojaaDoorRows
import Derived.Shelf.Vars
import Derived.WideWitness
set_option linter.unusedVariables false
set_option maxRecDepth 20000
namespace Go.Proofs.YtcafalcmfdnojaaDoorS
open Go.RowKit Go.Proofs.YtcafalcmfdnojaaDoor
def laidL : List (String × DataW Unit) := [("math/bits.deBruijn32tab", Rows.laid_math_bits_deBruijn32tab), ("math/bits.deBruijn64tab", Rows.laid_math_bits_deBruijn64tab), ("internal/strconv.uint64pow10", Rows.laid_internal_strconv_uint64pow10), ("unicode/utf8.acceptRanges", Rows.laid_unicode_utf8_acceptRanges), ("strconv.ErrRange", Rows.laid_strconv_ErrRange), ("strconv.ErrSyntax", Rows.laid_strconv_ErrSyntax), ("unicode/utf8.first", Rows.laid_unicode_utf8_first)]
theorem pow_data : (Rows.laid_internal_strconv_uint64pow10 : DataW Unit) = Lib.tabData .u64 Lib.pow10Tab := by kernel_rfl
theorem glob_of {W : World} (hL : laidMet Tryd.prog laidL W) (hsh : W.ShapedOpen Tryd.prog) : Glob (wC W) := by
  have h1 : Lib.TabIs Tryd.prog W "internal/strconv.uint64pow10" .u64 Lib.pow10Tab :=
    laid_tab (g := 3) (t := 114) (e := 96) (m := 20) hL (by rw [← pow_data]; simp [laidL]) (by kernel_rfl) (by kernel_rfl) Tryd.underlying114 Tryd.underlying96 (by kernel_rfl) (by kernel_rfl)
  have h2 : ∃ tp p, W.var? Tryd.prog "strconv.ErrSyntax" = some #[.iface tp p] := laid_if (g := 1) (t := 53) hL (by simp [laidL, Rows.laid_strconv_ErrSyntax]; exact ⟨rfl, rfl⟩) (by kernel_rfl) (by kernel_rfl) Tryd.underlying53
  have h3 : ∃ tp p, W.var? Tryd.prog "strconv.ErrRange" = some #[.iface tp p] := laid_if (g := 2) (t := 53) hL (by simp [laidL, Rows.laid_strconv_ErrRange]; exact ⟨rfl, rfl⟩) (by kernel_rfl) (by kernel_rfl) Tryd.underlying53
  have h4 : ∃ m, W.cell? ⟨0, 0, none⟩ = some (.int .i64 m) := cell_of_shapedOpen_int (t := 3) (zero := #[.int .i64 0]) hsh (of_decide_eq_true (by kernel_rfl)) (by kernel_rfl) rfl (by kernel_rfl) (by kernel_rfl) Tryd.underlying3
  intro w hw
  obtain ⟨t2, p2, h2⟩ := h2
  obtain ⟨t3, p3, h3⟩ := h3
  obtain ⟨m, h4⟩ := h4
  exact ⟨var_on h1 hw, ⟨t2, p2, var_on h2 hw⟩, ⟨t3, p3, var_on h3 hw⟩, m, cell_on h4 hw⟩
def cells2 : DataW Unit → Array Value
  | .agg l => (l.flatMap fun d => match d with | .lit (.int k z) => [Value.int k z] | .agg l2 => l2.map (fun e => match e with | .lit (.int k z) => Value.int k z | _ => undef) | _ => [undef]).toArray
  | _ => #[]
noncomputable def low : Nat := (World.holding Tryd.prog default ⟨#[], #[], []⟩).heap.size
noncomputable def laidWorld (os : Os) : World :=
  let w0 := World.holding Tryd.prog os ⟨#[.cells #[.string ⟨#[118, 97, 108, 117, 101, 32, 111, 117, 116, 32, 111, 102, 32, 114, 97, 110, 103, 101]⟩] 112, .cells #[.string ⟨#[105, 110, 118, 97, 108, 105, 100, 32, 115, 121, 110, 116, 97, 120]⟩] 112], #[], []⟩
  { w0 with heap := ((((((w0.heap.modify 6 (putC (cellsD Rows.laid_math_bits_deBruijn32tab))).modify 7 (putC (cellsD Rows.laid_math_bits_deBruijn64tab))).modify 3 (putC (cellsD Rows.laid_internal_strconv_uint64pow10))).modify 5 (putC (cells2 Rows.laid_unicode_utf8_acceptRanges))).modify 4 (putC (cellsD Rows.laid_unicode_utf8_first))).modify 2 (putC #[.iface 110 (.pointer (some ⟨low, 0, none⟩))])).modify 1 (putC #[.iface 110 (.pointer (some ⟨low + 1, 0, none⟩))]) }
theorem laidWorld_met (os : Os) (args : Array Value) : laidMet Tryd.prog laidL ((laidWorld os).forCall (fun _ _ => 0) ⟨#[], args, []⟩).memory :=
  laidMet_of_run' 8 (by kernel_rfl) (by kernel_rfl)
abbrev itE (_ : Ctx) (x : It) (cs : List Value) : Prop := cs = itC x
theorem rd_35 : Rd Tryd.prog 35 itE := by
  refine (Rd_struct Tryd.underlying35 (by kernel_rfl) (RdF_cons (sz := 1) (Rd_int Tryd.underlying3) rfl (by kernel_rfl) (RdF_cons (sz := 1) (Rd_int Tryd.underlying3) rfl (by kernel_rfl) (RdF_cons (sz := 1) (Rd_int Tryd.underlying3) rfl (by kernel_rfl) (RdF_one (sz := 1) (Rd_int Tryd.underlying3) rfl (by kernel_rfl)))))).map ?_
  rintro J ⟨x, y, z, w⟩ cs ⟨c1, d1, rfl, ⟨rfl, _⟩, c2, d2, rfl, ⟨rfl, _⟩, c3, d3, rfl, ⟨rfl, _⟩, ⟨rfl, _⟩⟩
  exact ⟨⟨x, y, z, w⟩, rfl⟩
theorem rd_23 : Rd Tryd.prog 23 (elSl itE) := Rd_slice (sz := 4) Tryd.underlying23 (by kernel_rfl) (fun J x c h => by rw [h]; rfl) rd_35
theorem it_rows {J : Ctx} : ∀ {l : List It} {cs : List Value}, rowC (itE J) l cs → cs = itCs l
  | [], _, h => h
  | x :: l, _, ⟨c, r, e, h1, h2⟩ => by rw [e, h1, it_rows h2]; rfl
theorem it_form {J : Ctx} {v : Value} {l : List It} (s : ∃ a n c, v = .slice a n c) (h : elSl itE J l v.cells.toList) : ∃ A c, v = .slice A l.length c ∧ RdC J [] A (itCs l) := by
  obtain ⟨A, c, cs, rfl, h1, h2⟩ := sl_form s h
  rw [it_rows h2] at h1
  exact ⟨A, c, rfl, h1⟩
theorem str_form (s : ByteArray) : s = bS s.data.toList := by cases s; rfl
section
variable {J : Ctx} (hg : Glob J) {v : Value} {l : List It}
include hg
theorem row_ScriptParses (a : ByteArray) : Fn Tryd.prog 3 #[.string a] J [] (fun v h' => v = .bool true ∧ h' = []) := by
  rw [str_form a]
  exact law_ScriptParses hg
theorem row_ScriptBack (s : ∃ a n c, v = .slice a n c) (h : elSl itE J l v.cells.toList) (a : ByteArray) : Fn Tryd.prog 4 #[v, .string a] J [] (fun v h' => v = .bool true ∧ h' = []) := by
  obtain ⟨A, c, rfl, hr⟩ := it_form s h
  rw [str_form a]
  exact law_ScriptBack hg hr
theorem row_ScriptJoins (a b : ByteArray) : Fn Tryd.prog 5 #[.string a, .string b] J [] (fun v h' => v = .bool true ∧ h' = []) := by
  rw [str_form a, str_form b]
  exact law_ScriptJoins hg
theorem row_ScriptLines (s : ∃ a n c, v = .slice a n c) (h : elSl itE J l v.cells.toList) : Fn Tryd.prog 6 #[v] J [] (fun v h' => v = .bool true ∧ h' = []) := by
  obtain ⟨A, c, rfl, hr⟩ := it_form s h
  exact law_ScriptLines hg hr
theorem row_ScriptShows (s : ∃ a n c, v = .slice a n c) (h : elSl itE J l v.cells.toList) (k : Int) (hk : (Lit.int .i64 k).wf = true) : Fn Tryd.prog 7 #[v, .int .i64 k] J [] (fun v h' => v = .bool true ∧ h' = []) := by
  obtain ⟨A, c, rfl, hr⟩ := it_form s h
  exact law_ScriptShows hg hr
end
end Go.Proofs.YtcafalcmfdnojaaDoorS
