import Derived.Test.YthkfeonpnplemaaH8
set_option linter.unusedVariables false
namespace Go.Proofs.YthkfeonpnplemaaS
theorem rd_27 : Rd Try.prog 27 elBy := Rd_bytes Try.underlying27 Try.underlying5 (by kernel_rfl)
theorem rd_pk : Rd Try.prog 29 pkC := by
  refine (Rd_struct Try.underlying29 (by kernel_rfl) (RdF_cons (sz := 1) (Rd_int Try.underlying3) rfl (by kernel_rfl) (RdF_cons (sz := 1) (Rd_int Try.underlying3) rfl (by kernel_rfl) (RdF_cons (sz := 1) (Rd_int Try.underlying3) rfl (by kernel_rfl) (RdF_one (sz := 1) rd_27 rfl (by kernel_rfl)))))).map ?_
  rintro J ⟨d, f, t, B⟩ cs ⟨_, _, rfl, ⟨rfl, -⟩, _, _, rfl, ⟨rfl, -⟩, _, _, rfl, ⟨rfl, -⟩, A, c, rfl, hr, -, -⟩
  exact ⟨⟨d, f, t, B⟩, A, B.length, c, rfl, hr⟩
theorem rd_op : Rd Try.prog 31 opC := by
  refine (Rd_struct Try.underlying31 (by kernel_rfl) (RdF_cons (sz := 1) (Rd_int Try.underlying3) rfl (by kernel_rfl) (RdF_cons (sz := 1) (Rd_int Try.underlying3) rfl (by kernel_rfl) (RdF_one (sz := 4) rd_pk rfl (by kernel_rfl))))).map ?_
  rintro J ⟨k, i, p⟩ cs ⟨_, _, rfl, ⟨rfl, -⟩, _, _, rfl, ⟨rfl, -⟩, A, n, c, rfl, hr⟩
  exact ⟨⟨k, i, p⟩, A, n, c, rfl, hr⟩
theorem rd_22 : Rd Try.prog 22 (elSl opC) := Rd_slice Try.underlying22 (by kernel_rfl) opC.len rd_op
theorem rd_38 : Rd Try.prog 38 (elSl pkC) := Rd_slice Try.underlying38 (by kernel_rfl) (fun J p cs h => h.len) rd_pk
theorem row_LinkCuts {J : Ctx} {v : Value} {l : List Opp} (s : ∃ a n c, v = .slice a n c) (h : elSl opC J l v.cells.toList) (d : Int) (hd : (Lit.int .i64 d).wf = true) (x : Int) (hx : (Lit.int .i64 x).wf = true) (y : Int) (hy : (Lit.int .i64 y).wf = true) :
    Fn Try.prog 3 #[v, .int .i64 d, .int .i64 x, .int .i64 y] J [] (fun v h' => v = .bool true ∧ h' = []) := by
  obtain ⟨A, c, cs, rfl, hr, hrow⟩ := sl_form s h
  exact law_LinkCuts ⟨cs, hr, hrow⟩ d x y
end Go.Proofs.YthkfeonpnplemaaS
