import Derived.Test.YtcfnliodgoenkaaN24
set_option linter.unusedVariables false
namespace Go.Proofs.YtcfnliodgoenkaaS
theorem row_BabelpktBack {J : Ctx} {v : Value} {l : List Tlv} (s : ∃ a n c, v = .slice a n c) (h : elSl tlvC J l v.cells.toList) :
    Fn Try.prog 7 #[v] J [] (fun v h' => v = .bool true ∧ h' = []) := by
  obtain ⟨A, c, rfl, hin⟩ := tlvs_form s h
  exact law_BabelpktBack hin
theorem row_BabelpktAgain {J : Ctx} {v : Value} {l : List UInt8} (s : ∃ a n c, v = .slice a n c) (h : elBy J l v.cells.toList) :
    Fn Try.prog 9 #[v] J [] (fun v h' => v = .bool true ∧ h' = []) := by
  obtain ⟨A, c, rfl, hr, hn, _⟩ := by_form s h
  exact law_BabelpktAgain hr hn
theorem row_BabelpktCuts {J : Ctx} {v : Value} {l : List Tlv} (s : ∃ a n c, v = .slice a n c) (h : elSl tlvC J l v.cells.toList) (n : Int) (hn : (Lit.int .i64 n).wf = true) {w : Value} {m : List UInt8} (s2 : ∃ a n c, w = .slice a n c) (h2 : elBy J m w.cells.toList) :
    Fn Try.prog 8 #[v, .int .i64 n, w] J [] (fun v h' => v = .bool true ∧ h' = []) := by
  obtain ⟨A, c, rfl, hin⟩ := tlvs_form s h
  obtain ⟨B, d, rfl, hr, hd, _⟩ := by_form s2 h2
  exact law_BabelpktCuts hin hr hd
theorem row_BabelpktStrange {J : Ctx} {v : Value} {l : List Tlv} (s : ∃ a n c, v = .slice a n c) (h : elSl tlvC J l v.cells.toList) (n : Int) (hn : (Lit.int .u8 n).wf = true) {w : Value} {m : List UInt8} (s2 : ∃ a n c, w = .slice a n c) (h2 : elBy J m w.cells.toList) :
    Fn Try.prog 10 #[v, .int .u8 n, w] J [] (fun v h' => v = .bool true ∧ h' = []) := by
  obtain ⟨A, c, rfl, hin⟩ := tlvs_form s h
  obtain ⟨B, d, rfl, hr, hd, _⟩ := by_form s2 h2
  obtain ⟨k, rfl⟩ := wf_u8 hn
  exact law_BabelpktStrange hin hr hd
end Go.Proofs.YtcfnliodgoenkaaS
