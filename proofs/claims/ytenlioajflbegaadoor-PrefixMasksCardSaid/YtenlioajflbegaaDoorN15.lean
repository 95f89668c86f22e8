import Derived.Test.YtenlioajflbegaaDoorN14
import Derived.Test.YtenlioajflbegaaDoorSR
import Derived.Test.YtenlioajflbegaaDoorSW
import Derived.Test.YtenlioajflbegaaDoorRows
import Derived.Shelf.Vars
import Derived.WideWitness
set_option linter.unusedVariables false
set_option maxRecDepth 20000
namespace Go.Proofs.YtenlioajflbegaaDoorS
open Go.RowKit Go.Proofs.YtenlioajflbegaaDoor
def laidL : List (String × DataW Unit) := [("math/bits.deBruijn32tab", Rows.laid_math_bits_deBruijn32tab), ("math/bits.deBruijn64tab", Rows.laid_math_bits_deBruijn64tab), ("internal/strconv.uint64pow10", Rows.laid_internal_strconv_uint64pow10), ("strconv.ErrRange", Rows.laid_strconv_ErrRange), ("strconv.ErrSyntax", Rows.laid_strconv_ErrSyntax)]
theorem pow_data : (Rows.laid_internal_strconv_uint64pow10 : DataW Unit) = Lib.tabData .u64 Lib.pow10Tab := by kernel_rfl
theorem glob_of {W : World} (hL : laidMet Tryd.prog laidL W) (hsh : W.ShapedOpen Tryd.prog) : Glob (wC W) := by
  have h1 : Lib.TabIs Tryd.prog W "internal/strconv.uint64pow10" .u64 Lib.pow10Tab :=
    laid_tab (g := 3) (t := 91) (e := 53) (m := 20) hL (by rw [← pow_data]; simp [laidL]) (by kernel_rfl) (by kernel_rfl) Tryd.underlying91 Tryd.underlying53 (by kernel_rfl) (by kernel_rfl)
  have h2 : ∃ tp p, W.var? Tryd.prog "strconv.ErrSyntax" = some #[.iface tp p] := laid_if (g := 1) (t := 55) hL (by simp [laidL, Rows.laid_strconv_ErrSyntax]; exact ⟨rfl, rfl⟩) (by kernel_rfl) (by kernel_rfl) Tryd.underlying55
  have h3 : ∃ tp p, W.var? Tryd.prog "strconv.ErrRange" = some #[.iface tp p] := laid_if (g := 2) (t := 55) hL (by simp [laidL, Rows.laid_strconv_ErrRange]; exact ⟨rfl, rfl⟩) (by kernel_rfl) (by kernel_rfl) Tryd.underlying55
  have h4 : ∃ m, W.cell? ⟨0, 0, none⟩ = some (.int .i64 m) := cell_of_shapedOpen_int (t := 3) (zero := #[.int .i64 0]) hsh (of_decide_eq_true (by kernel_rfl)) (by kernel_rfl) rfl (by kernel_rfl) (by kernel_rfl) Tryd.underlying3
  intro w hw
  obtain ⟨t2, p2, h2⟩ := h2
  obtain ⟨t3, p3, h3⟩ := h3
  obtain ⟨m, h4⟩ := h4
  exact ⟨var_on h1 hw, ⟨t2, p2, var_on h2 hw⟩, ⟨t3, p3, var_on h3 hw⟩, m, cell_on h4 hw⟩
noncomputable def low : Nat := (World.holding Tryd.prog default ⟨#[], #[], []⟩).heap.size
noncomputable def laidWorld (os : Os) : World :=
  let w0 := World.holding Tryd.prog os ⟨#[.cells #[.string ⟨#[118, 97, 108, 117, 101, 32, 111, 117, 116, 32, 111, 102, 32, 114, 97, 110, 103, 101]⟩] 99, .cells #[.string ⟨#[105, 110, 118, 97, 108, 105, 100, 32, 115, 121, 110, 116, 97, 120]⟩] 99], #[], []⟩
  { w0 with heap := ((((w0.heap.modify 4 (putC (cellsD Rows.laid_math_bits_deBruijn32tab))).modify 5 (putC (cellsD Rows.laid_math_bits_deBruijn64tab))).modify 3 (putC (cellsD Rows.laid_internal_strconv_uint64pow10))).modify 2 (putC #[.iface 97 (.pointer (some ⟨low, 0, none⟩))])).modify 1 (putC #[.iface 97 (.pointer (some ⟨low + 1, 0, none⟩))]) }
theorem laidWorld_met (os : Os) (args : Array Value) : laidMet Tryd.prog laidL ((laidWorld os).forCall (fun _ _ => 0) ⟨#[], args, []⟩).memory :=
  laidMet_of_run' 8 (by kernel_rfl) (by kernel_rfl)
abbrev pfC (J : Ctx) (x : Nat × Int) (cs : List Value) : Prop := cs = [.int .u32 (x.1 : Int), .int .i64 x.2] ∧ x.1 < 4294967296 ∧ R64 x.2
theorem rd_24 : Rd Tryd.prog 24 pfC := by
  refine (Rd_struct Tryd.underlying24 (by kernel_rfl) (RdF_cons (sz := 1) (Rd_int Tryd.underlying22) rfl (by kernel_rfl) (RdF_one (sz := 1) (Rd_int Tryd.underlying3) rfl (by kernel_rfl)))).map ?_
  rintro J ⟨x, y⟩ cs ⟨c, d, rfl, ⟨rfl, h1⟩, ⟨rfl, h2⟩⟩
  obtain ⟨n, rfl, hn⟩ := wf_u32 h1
  exact ⟨(n, y), rfl, hn, wf_i64 h2⟩
theorem pf_form {J : Ctx} {v : Value} {x : Nat × Int} (s : ∃ cs, v = .agg cs ∧ cs.size = Tryd.prog.cellsOf 24) (h : pfC J x v.cells.toList) : v = .agg #[.int .u32 (x.1 : Int), .int .i64 x.2] ∧ x.1 < 4294967296 ∧ R64 x.2 := by
  obtain ⟨cs, rfl, _⟩ := s
  obtain ⟨h1, h2⟩ := h
  refine ⟨?_, h2⟩
  have : cs.toList = [.int .u32 (x.1 : Int), .int .i64 x.2] := h1
  rw [← Array.toList_inj.1 (show cs.toList = (#[.int .u32 (x.1 : Int), .int .i64 x.2] : Array Value).toList from this)]
theorem str_form (s : ByteArray) : s = bS s.data.toList := by cases s; rfl
section
variable {J : Ctx} (hg : Glob J) {v w u : Value} {x y z : Nat × Int}
include hg
theorem row_PrefixTexts (s : ∃ cs, v = .agg cs ∧ cs.size = Tryd.prog.cellsOf 24) (h : pfC J x v.cells.toList) (a : ByteArray) : Fn Tryd.prog 3 #[v, .string a] J [] (fun v h' => v = .bool true ∧ h' = []) := by
  obtain ⟨rfl, h1, h2⟩ := pf_form s h
  rw [str_form a]
  exact law_PrefixTexts hg h1 h2
theorem row_PrefixBack (s : ∃ cs, v = .agg cs ∧ cs.size = Tryd.prog.cellsOf 24) (h : pfC J x v.cells.toList) (a : ByteArray) : Fn Tryd.prog 4 #[v, .string a] J [] (fun v h' => v = .bool true ∧ h' = []) := by
  obtain ⟨rfl, h1, h2⟩ := pf_form s h
  rw [str_form a]
  exact law_PrefixBack hg h1 h2
theorem row_PrefixNests (s : ∃ cs, v = .agg cs ∧ cs.size = Tryd.prog.cellsOf 24) (h : pfC J x v.cells.toList) (s2 : ∃ cs, w = .agg cs ∧ cs.size = Tryd.prog.cellsOf 24) (h2 : pfC J y w.cells.toList) (s3 : ∃ cs, u = .agg cs ∧ cs.size = Tryd.prog.cellsOf 24) (h3' : pfC J z u.cells.toList) (a : Int) (ha : (Lit.int .u32 a).wf = true) :
    Fn Tryd.prog 5 #[v, w, u, .int .u32 a] J [] (fun v h' => v = .bool true ∧ h' = []) := by
  obtain ⟨rfl, h1, k1⟩ := pf_form s h
  obtain ⟨rfl, h3, h4⟩ := pf_form s2 h2
  obtain ⟨rfl, h5, h6⟩ := pf_form s3 h3'
  obtain ⟨n, rfl, hn⟩ := wf_u32 ha
  exact law_PrefixNests hg h1 k1 h3 h4 h5 h6 hn
theorem row_PrefixHalves (s : ∃ cs, v = .agg cs ∧ cs.size = Tryd.prog.cellsOf 24) (h : pfC J x v.cells.toList) (a : Int) (ha : (Lit.int .u32 a).wf = true) : Fn Tryd.prog 6 #[v, .int .u32 a] J [] (fun v h' => v = .bool true ∧ h' = []) := by
  obtain ⟨rfl, h1, h2⟩ := pf_form s h
  obtain ⟨n, rfl, hn⟩ := wf_u32 ha
  exact law_PrefixHalves hg h1 h2 hn
theorem row_PrefixHas (s : ∃ cs, v = .agg cs ∧ cs.size = Tryd.prog.cellsOf 24) (h : pfC J x v.cells.toList) (s2 : ∃ cs, w = .agg cs ∧ cs.size = Tryd.prog.cellsOf 24) (h2 : pfC J y w.cells.toList) (a : Int) (ha : (Lit.int .u32 a).wf = true) : Fn Tryd.prog 7 #[v, w, .int .u32 a] J [] (fun v h' => v = .bool true ∧ h' = []) := by
  obtain ⟨rfl, h1, k1⟩ := pf_form s h
  obtain ⟨rfl, h3, h4⟩ := pf_form s2 h2
  obtain ⟨n, rfl, hn⟩ := wf_u32 ha
  exact law_PrefixHas hg h1 k1 h3 h4 hn
theorem row_PrefixOrders (s : ∃ cs, v = .agg cs ∧ cs.size = Tryd.prog.cellsOf 24) (h : pfC J x v.cells.toList) (s2 : ∃ cs, w = .agg cs ∧ cs.size = Tryd.prog.cellsOf 24) (h2 : pfC J y w.cells.toList) : Fn Tryd.prog 8 #[v, w] J [] (fun v h' => v = .bool true ∧ h' = []) := by
  obtain ⟨rfl, h1, k1⟩ := pf_form s h
  obtain ⟨rfl, h3, h4⟩ := pf_form s2 h2
  exact law_PrefixOrders hg h1 k1 h3 h4
theorem row_PrefixMakes (a : Int) (ha : (Lit.int .u32 a).wf = true) (n : Int) (hn : (Lit.int .i64 n).wf = true) (s : ∃ cs, v = .agg cs ∧ cs.size = Tryd.prog.cellsOf 24) (h : pfC J x v.cells.toList) : Fn Tryd.prog 9 #[.int .u32 a, .int .i64 n, v] J [] (fun v h' => v = .bool true ∧ h' = []) := by
  obtain ⟨rfl, h1, h2⟩ := pf_form s h
  obtain ⟨k, rfl, hk⟩ := wf_u32 ha
  exact law_PrefixMakes hg hk (wf_i64 hn) h1 h2
theorem row_PrefixMasks (a : Int) (ha : (Lit.int .i64 a).wf = true) (n : Int) (hn : (Lit.int .i64 n).wf = true) : Fn Tryd.prog 10 #[.int .i64 a, .int .i64 n] J [] (fun v h' => v = .bool true ∧ h' = []) :=
  law_PrefixMasks hg (wf_i64 ha) (wf_i64 hn)
end
end Go.Proofs.YtenlioajflbegaaDoorS
