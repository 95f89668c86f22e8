import Derived.Test.YtkdakglnhipmaaaN13
set_option linter.unusedVariables false
namespace Go.Proofs.YtkdakglnhipmaaaS
theorem wf_u32 {x : Int} (h : (Lit.int .u32 x).wf = true) : ∃ n : Nat, x = n ∧ n < 4294967296 := by
  simp only [Lit.wf, IntKind.min, IntKind.max, IntKind.signed, IntKind.bits] at h
  simp at h
  exact ⟨x.toNat, by omega, by omega⟩
theorem wf_u16 {x : Int} (h : (Lit.int .u16 x).wf = true) : ∃ n : Nat, x = n ∧ n < 65536 := by
  simp only [Lit.wf, IntKind.min, IntKind.max, IntKind.signed, IntKind.bits] at h
  simp at h
  exact ⟨x.toNat, by omega, by omega⟩
theorem wf_u8 {x : Int} (h : (Lit.int .u8 x).wf = true) : ∃ b : UInt8, x = ((b.toNat : Nat) : Int) := by
  simp only [Lit.wf, IntKind.min, IntKind.max, IntKind.signed, IntKind.bits] at h
  simp at h
  exact ⟨UInt8.ofNat x.toNat, by rw [toNat_ofNat', Nat.mod_eq_of_lt (by omega)]; omega⟩
theorem wf_i64 {x : Int} (h : (Lit.int .i64 x).wf = true) : inI x := by
  simp only [Lit.wf, IntKind.min, IntKind.max, IntKind.signed, IntKind.bits] at h
  simp at h
  exact ⟨by omega, by omega⟩
theorem rd_dent : Rd Try.prog 43 dentC := by
  refine (Rd_struct Try.underlying43 (by kernel_rfl) (RdF_cons (sz := 2) (Rd_struct Try.underlying38 (by kernel_rfl) (RdF_cons (sz := 1) (Rd_int Try.underlying22) rfl (by kernel_rfl) (RdF_one (sz := 1) (Rd_int Try.underlying3) rfl (by kernel_rfl)))) rfl (by kernel_rfl)
    (RdF_cons (sz := 3) (Rd_struct Try.underlying40 (by kernel_rfl) (RdF_cons (sz := 1) (Rd_int Try.underlying3) rfl (by kernel_rfl) (RdF_cons (sz := 1) (Rd_int Try.underlying3) rfl (by kernel_rfl) (RdF_one (sz := 1) (Rd_int Try.underlying3) rfl (by kernel_rfl))))) rfl (by kernel_rfl) (RdF_one (sz := 1) (Rd_int Try.underlying41) rfl (by kernel_rfl))))).map ?_
  rintro J ⟨⟨a, n⟩, ⟨b, d, p⟩, t⟩ cs ⟨_, _, rfl, ⟨_, _, rfl, ⟨rfl, ha⟩, rfl, hn⟩, _, _, rfl, ⟨_, _, rfl, ⟨rfl, -⟩, _, _, rfl, ⟨rfl, -⟩, rfl, -⟩, rfl, ht⟩
  dsimp only at ha hn ht
  obtain ⟨a2, rfl, ha2⟩ := wf_u32 ha
  obtain ⟨t2, rfl, ht2⟩ := wf_u16 ht
  exact ⟨⟨a2, n, ⟨b, d, p⟩, t2⟩, rfl, ⟨ha2, wf_i64 hn, ht2⟩⟩
theorem rd_23 : Rd Try.prog 23 (elSl dentC) := Rd_slice Try.underlying23 (by kernel_rfl) dentC.len rd_dent
/-- A packet that comes in. -/
def dualC (J : Ctx) (p : DPk) (cs : List Value) : Prop := ∃ A k, cs = p.cs A k ∧ DEntsIn J A p.es ∧ p.ok
theorem rd_25 : Rd Try.prog 25 dualC := by
  refine (Rd_struct Try.underlying25 (by kernel_rfl) (RdF_cons (sz := 1) (Rd_int Try.underlying3) rfl (by kernel_rfl) (RdF_cons (sz := 1) (Rd_bool Try.underlying4) rfl (by kernel_rfl) (RdF_cons (sz := 1) (Rd_int Try.underlying22) rfl (by kernel_rfl) (RdF_cons (sz := 1) (Rd_int Try.underlying22) rfl (by kernel_rfl) (RdF_one (sz := 1) rd_23 rfl (by kernel_rfl))))))).map ?_
  rintro J ⟨c, w, s, a, es⟩ cs ⟨_, _, rfl, ⟨rfl, hc⟩, _, _, rfl, rfl, _, _, rfl, ⟨rfl, hs⟩, _, _, rfl, ⟨rfl, ha⟩, A, k, cs', rfl, hr, hrow, -⟩
  dsimp only at hs ha
  obtain ⟨s2, rfl, hs2⟩ := wf_u32 hs
  obtain ⟨a2, rfl, ha2⟩ := wf_u32 ha
  exact ⟨⟨c, w, s2, a2, es⟩, A, k, rfl, ⟨cs', hr, hrow⟩, ⟨hs2, ha2⟩⟩
theorem dual_form {J : Ctx} {v : Value} {p : DPk} (s : ∃ cs, v = .agg cs ∧ cs.size = Try.prog.cellsOf 25) (h : dualC J p v.cells.toList) : ∃ A k, v = p.vv A k ∧ DEntsIn J A p.es ∧ p.ok := by
  obtain ⟨cs, rfl, -⟩ := s
  obtain ⟨A, k, e, hin⟩ := h
  refine ⟨A, k, ?_, hin⟩
  show Value.agg cs = Value.agg _
  congr 1
  exact Array.ext' e
theorem rd_27 : Rd Try.prog 27 elBy := Rd_bytes Try.underlying27 Try.underlying5 (by kernel_rfl)
theorem by_form {J : Ctx} {v : Value} {l : List UInt8} (s : ∃ a n c, v = .slice a n c) (h : elBy J l v.cells.toList) : ∃ A c, v = .slice A l.length c ∧ RdB J A l.length l ∧ l.length ≤ c ∧ c ≤ maxLen := by
  obtain ⟨a, n, c, rfl⟩ := s
  obtain ⟨A, c', e, h1, h2, h3⟩ := h
  have e : [Value.slice a n c] = [Value.slice A l.length c'] := e
  injection e with e
  exact ⟨A, c', e, h1, h2, h3⟩
theorem row_DualpktEncodes {J : Ctx} {v : Value} {p : DPk} (s : ∃ cs, v = .agg cs ∧ cs.size = Try.prog.cellsOf 25) (h : dualC J p v.cells.toList) : Fn Try.prog 3 #[v] J [] (fun v h' => v = .bool true ∧ h' = []) := by
  obtain ⟨A, k, rfl, hin, hp⟩ := dual_form s h
  exact law_DualpktEncodes hin hp
theorem row_DualpktBack {J : Ctx} {v : Value} {p : DPk} (s : ∃ cs, v = .agg cs ∧ cs.size = Try.prog.cellsOf 25) (h : dualC J p v.cells.toList) : Fn Try.prog 6 #[v] J [] (fun v h' => v = .bool true ∧ h' = []) := by
  obtain ⟨A, k, rfl, hin, hp⟩ := dual_form s h
  exact law_DualpktBack hin hp
theorem row_DualpktDecodes {J : Ctx} {v : Value} {l : List UInt8} (s : ∃ a n c, v = .slice a n c) (h : elBy J l v.cells.toList) : Fn Try.prog 5 #[v] J [] (fun v h' => v = .bool true ∧ h' = []) := by
  obtain ⟨A, c, rfl, h1, h2, h3⟩ := by_form s h
  exact law_DualpktDecodes h1 h2
theorem row_DualpktOnce {J : Ctx} {v : Value} {l : List UInt8} (s : ∃ a n c, v = .slice a n c) (h : elBy J l v.cells.toList) : Fn Try.prog 7 #[v] J [] (fun v h' => v = .bool true ∧ h' = []) := by
  obtain ⟨A, c, rfl, h1, h2, h3⟩ := by_form s h
  exact law_DualpktOnce h1 h2
theorem row_DualpktApart {J : Ctx} {v1 v2 : Value} {p1 p2 : DPk} (s1 : ∃ cs, v1 = .agg cs ∧ cs.size = Try.prog.cellsOf 25) (h1 : dualC J p1 v1.cells.toList) (s2 : ∃ cs, v2 = .agg cs ∧ cs.size = Try.prog.cellsOf 25) (h2 : dualC J p2 v2.cells.toList) :
    Fn Try.prog 4 #[v1, v2] J [] (fun v h' => v = .bool true ∧ h' = []) := by
  obtain ⟨A1, k1, rfl, hin1, hp1⟩ := dual_form s1 h1
  obtain ⟨A2, k2, rfl, hin2, hp2⟩ := dual_form s2 h2
  exact law_DualpktApart hin1 hin2 hp1 hp2
theorem row_DualpktSpoils {J : Ctx} {v1 : Value} {p1 : DPk} (s1 : ∃ cs, v1 = .agg cs ∧ cs.size = Try.prog.cellsOf 25) (h1 : dualC J p1 v1.cells.toList) (a : Int) (ha : (Lit.int .i64 a).wf = true) (t : Int) (ht : (Lit.int .u8 t).wf = true) :
    Fn Try.prog 8 #[v1, .int .i64 a, .int .u8 t] J [] (fun v h' => v = .bool true ∧ h' = []) := by
  obtain ⟨A1, k1, rfl, hin1, hp1⟩ := dual_form s1 h1
  obtain ⟨b, rfl⟩ := wf_u8 ht
  exact law_DualpktSpoils hin1 hp1
end Go.Proofs.YtkdakglnhipmaaaS
