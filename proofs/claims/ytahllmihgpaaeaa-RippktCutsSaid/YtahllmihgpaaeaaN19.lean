import Derived.Test.YtahllmihgpaaeaaN18
set_option linter.unusedVariables false
namespace Go.Proofs.YtahllmihgpaaeaaS
theorem rd_26 : Rd Try.prog 26 elBy := Rd_bytes Try.underlying26 Try.underlying5 (by kernel_rfl)
theorem by_form {J : Ctx} {v : Value} {l : List UInt8} (s : ∃ a n c, v = .slice a n c) (h : elBy J l v.cells.toList) : ∃ A c, v = .slice A l.length c ∧ RdB J A l.length l ∧ l.length ≤ c ∧ c ≤ maxLen := by
  obtain ⟨a, n, c, rfl⟩ := s
  obtain ⟨A, c', e, h1, h2, h3⟩ := h
  have e : [Value.slice a n c] = [Value.slice A l.length c'] := e
  injection e with e
  exact ⟨A, c', e, h1, h2, h3⟩
theorem EntsIn.oks {J : Ctx} {A : Option Addr} {es : List Ent} (h : EntsIn J A es) : ∀ e ∈ es, e.ok := by
  intro e he
  obtain ⟨i, hi⟩ := List.getElem?_of_mem he
  obtain ⟨hi2, rfl⟩ := List.getElem?_eq_some_iff.1 hi
  exact (h.get hi2).choose_spec.2.1
theorem row_RippktDecodes {J : Ctx} {v : Value} {l : List UInt8} (s : ∃ a n c, v = .slice a n c) (h : elBy J l v.cells.toList) : Fn Try.prog 5 #[v] J [] (fun v h' => v = .bool true ∧ h' = []) := by
  obtain ⟨A, c, rfl, h1, h2, h3⟩ := by_form s h
  exact law_RippktDecodes h1 h2 h3
theorem row_RippktOnce {J : Ctx} {v : Value} {l : List UInt8} (s : ∃ a n c, v = .slice a n c) (h : elBy J l v.cells.toList) : Fn Try.prog 7 #[v] J [] (fun v h' => v = .bool true ∧ h' = []) := by
  obtain ⟨A, c, rfl, h1, h2, h3⟩ := by_form s h
  exact law_RippktOnce h1 h2
theorem row_RippktWhole {J : Ctx} {v : Value} {l : List UInt8} (s : ∃ a n c, v = .slice a n c) (h : elBy J l v.cells.toList) : Fn Try.prog 9 #[v] J [] (fun v h' => v = .bool true ∧ h' = []) := by
  obtain ⟨A, c, rfl, h1, h2, h3⟩ := by_form s h
  exact law_RippktWhole h1 h2
theorem row_RippktBack {J : Ctx} {v : Value} {x : Int × Bool × List Ent} (s : ∃ cs, v = .agg cs ∧ cs.size = Try.prog.cellsOf 24) (h : ripC J x v.cells.toList) : Fn Try.prog 6 #[v] J [] (fun v h' => v = .bool true ∧ h' = []) := by
  obtain ⟨A, k, rfl, hin⟩ := rip_form s h
  exact law_RippktBack hin hin.oks
theorem row_RippktCuts {J : Ctx} {v1 : Value} {x1 : Int × Bool × List Ent} (s1 : ∃ cs, v1 = .agg cs ∧ cs.size = Try.prog.cellsOf 24) (h1 : ripC J x1 v1.cells.toList) (cut : Int) (hw : (Lit.int .i64 cut).wf = true) {v3 : Value} {l : List UInt8} (s3 : ∃ a n c, v3 = .slice a n c) (h3 : elBy J l v3.cells.toList) :
    Fn Try.prog 8 #[v1, .int .i64 cut, v3] J [] (fun v h' => v = .bool true ∧ h' = []) := by
  obtain ⟨A, k, rfl, hin⟩ := rip_form s1 h1
  obtain ⟨M, mk, rfl, h4, h5, h6⟩ := by_form s3 h3
  exact law_RippktCuts hin hin.oks h4
end Go.Proofs.YtahllmihgpaaeaaS
