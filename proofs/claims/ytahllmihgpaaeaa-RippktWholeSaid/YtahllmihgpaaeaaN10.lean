import Derived.Test.YtahllmihgpaaeaaN9
set_option linter.unusedVariables false
namespace Go.Proofs.YtahllmihgpaaeaaS
theorem wf_u32 {x : Int} (h : (Lit.int .u32 x).wf = true) : ∃ n : Nat, x = n ∧ n < 4294967296 := by
  simp only [Lit.wf, IntKind.min, IntKind.max, IntKind.signed, IntKind.bits] at h
  simp at h
  exact ⟨x.toNat, by omega, by omega⟩
theorem wf_u16 {x : Int} (h : (Lit.int .u16 x).wf = true) : ∃ n : Nat, x = n ∧ n < 65536 := by
  simp only [Lit.wf, IntKind.min, IntKind.max, IntKind.signed, IntKind.bits] at h
  simp at h
  exact ⟨x.toNat, by omega, by omega⟩
theorem wf_i64 {x : Int} (h : (Lit.int .i64 x).wf = true) : inI x := by
  simp only [Lit.wf, IntKind.min, IntKind.max, IntKind.signed, IntKind.bits] at h
  simp at h
  exact ⟨by omega, by omega⟩
theorem rd_ent : Rd Try.prog 41 entC := by
  refine (Rd_struct Try.underlying41 (by kernel_rfl) (RdF_cons (sz := 2) (Rd_struct Try.underlying38 (by kernel_rfl) (RdF_cons (sz := 1) (Rd_int Try.underlying36) rfl (by kernel_rfl) (RdF_one (sz := 1) (Rd_int Try.underlying3) rfl (by kernel_rfl)))) rfl (by kernel_rfl)
    (RdF_cons (sz := 1) (Rd_int Try.underlying39) rfl (by kernel_rfl) (RdF_cons (sz := 1) (Rd_int Try.underlying36) rfl (by kernel_rfl) (RdF_one (sz := 1) (Rd_int Try.underlying3) rfl (by kernel_rfl)))))).map ?_
  rintro J ⟨⟨a, n⟩, t, x, m⟩ cs ⟨_, _, rfl, ⟨_, _, rfl, ⟨rfl, ha⟩, rfl, hn⟩, _, _, rfl, ⟨rfl, ht⟩, _, _, rfl, ⟨rfl, hx⟩, rfl, hm⟩
  dsimp only at ha hn ht hx hm
  obtain ⟨a2, rfl, ha2⟩ := wf_u32 ha
  obtain ⟨t2, rfl, ht2⟩ := wf_u16 ht
  obtain ⟨x2, rfl, hx2⟩ := wf_u32 hx
  exact ⟨⟨a2, n, t2, x2, m⟩, rfl, ⟨ha2, wf_i64 hn, ht2, hx2, wf_i64 hm⟩⟩
theorem rd_22 : Rd Try.prog 22 (elSl entC) := Rd_slice Try.underlying22 (by kernel_rfl) entC.len rd_ent
/-- A packet that comes in. -/
def ripC (J : Ctx) (x : Int × Bool × List Ent) (cs : List Value) : Prop := ∃ A k, cs = [.int .i64 x.1, .bool x.2.1, .slice A x.2.2.length k] ∧ EntsIn J A x.2.2
theorem rd_24 : Rd Try.prog 24 ripC := by
  refine (Rd_struct Try.underlying24 (by kernel_rfl) (RdF_cons (sz := 1) (Rd_int Try.underlying3) rfl (by kernel_rfl) (RdF_cons (sz := 1) (Rd_bool Try.underlying4) rfl (by kernel_rfl) (RdF_one (sz := 1) rd_22 rfl (by kernel_rfl))))).map ?_
  rintro J ⟨c, w, es⟩ cs ⟨_, _, rfl, ⟨rfl, hc⟩, _, _, rfl, rfl, A, k, cs', rfl, hr, hrow, -⟩
  exact ⟨(c, w, es), A, k, rfl, cs', hr, hrow⟩
theorem rip_form {J : Ctx} {v : Value} {x : Int × Bool × List Ent} (s : ∃ cs, v = .agg cs ∧ cs.size = Try.prog.cellsOf 24) (h : ripC J x v.cells.toList) : ∃ A k, v = .agg #[.int .i64 x.1, .bool x.2.1, .slice A x.2.2.length k] ∧ EntsIn J A x.2.2 := by
  obtain ⟨cs, rfl, -⟩ := s
  obtain ⟨A, k, e, hin⟩ := h
  refine ⟨A, k, ?_, hin⟩
  congr 1
  exact Array.ext' e
theorem row_RippktEntries {J : Ctx} {v1 v2 : Value} {x1 x2 : Int × Bool × List Ent} (s1 : ∃ cs, v1 = .agg cs ∧ cs.size = Try.prog.cellsOf 24) (h1 : ripC J x1 v1.cells.toList) (s2 : ∃ cs, v2 = .agg cs ∧ cs.size = Try.prog.cellsOf 24) (h2 : ripC J x2 v2.cells.toList) :
    Fn Try.prog 4 #[v1, v2] J [] (fun v h' => v = .bool true ∧ h' = []) := by
  obtain ⟨A1, k1, rfl, hin1⟩ := rip_form s1 h1
  obtain ⟨A2, k2, rfl, hin2⟩ := rip_form s2 h2
  exact law_RippktEntries hin1 hin2
end Go.Proofs.YtahllmihgpaaeaaS
