import Derived.Test.YtcfnliodgoenkaaN12
set_option linter.unusedVariables false
namespace Go.Proofs.YtcfnliodgoenkaaS
theorem wf_u32 {x : Int} (h : (Lit.int .u32 x).wf = true) : ∃ n : Nat, x = n ∧ n < 4294967296 := by
  simp only [Lit.wf, IntKind.min, IntKind.max, IntKind.signed, IntKind.bits] at h
  simp at h
  exact ⟨x.toNat, by omega, by omega⟩
theorem wf_u64 {x : Int} (h : (Lit.int .u64 x).wf = true) : ∃ n : Nat, x = n ∧ n < 18446744073709551616 := by
  simp only [Lit.wf, IntKind.min, IntKind.max, IntKind.signed, IntKind.bits] at h
  simp at h
  exact ⟨x.toNat, by omega, by omega⟩
theorem wf_u16 {x : Int} (h : (Lit.int .u16 x).wf = true) : ∃ n : Nat, x = n ∧ n < 65536 := by
  simp only [Lit.wf, IntKind.min, IntKind.max, IntKind.signed, IntKind.bits] at h
  simp at h
  exact ⟨x.toNat, by omega, by omega⟩
theorem wf_u8 {x : Int} (h : (Lit.int .u8 x).wf = true) : ∃ b : UInt8, x = ((b.toNat : Nat) : Int) := by
  simp only [Lit.wf, IntKind.min, IntKind.max, IntKind.signed, IntKind.bits] at h
  simp at h
  exact ⟨UInt8.ofNat x.toNat, by rw [toNat_ofNat', Nat.mod_eq_of_lt (by omega)]; omega⟩
theorem wf_i64 {x : Int} (h : (Lit.int .i64 x).wf = true) : inI x := by
  simp only [Lit.wf, IntKind.min, IntKind.max, IntKind.signed, IntKind.bits] at h
  simp at h
  exact ⟨by omega, by omega⟩
theorem rd_37 : Rd Try.prog 37 tlvC := by
  refine (Rd_struct Try.underlying37 (by kernel_rfl) (RdF_cons (sz := 1) (Rd_int Try.underlying3) rfl (by kernel_rfl) (RdF_cons (sz := 1) (Rd_int Try.underlying32) rfl (by kernel_rfl) (RdF_cons (sz := 1) (Rd_int Try.underlying3) rfl (by kernel_rfl) (RdF_cons (sz := 1) (Rd_int Try.underlying3) rfl (by kernel_rfl)
    (RdF_cons (sz := 2) (Rd_struct Try.underlying34 (by kernel_rfl) (RdF_cons (sz := 1) (Rd_int Try.underlying23) rfl (by kernel_rfl) (RdF_one (sz := 1) (Rd_int Try.underlying3) rfl (by kernel_rfl)))) rfl (by kernel_rfl)
    (RdF_cons (sz := 1) (Rd_int Try.underlying35) rfl (by kernel_rfl) (RdF_cons (sz := 1) (Rd_int Try.underlying32) rfl (by kernel_rfl) (RdF_one (sz := 1) (Rd_int Try.underlying3) rfl (by kernel_rfl)))))))))).map ?_
  rintro J ⟨k, s, iv, co, ⟨a, n⟩, r, t, ho⟩ cs ⟨_, _, rfl, ⟨rfl, hk⟩, _, _, rfl, ⟨rfl, hs⟩, _, _, rfl, ⟨rfl, hiv⟩, _, _, rfl, ⟨rfl, hco⟩, _, _, rfl, ⟨_, _, rfl, ⟨rfl, ha⟩, rfl, hn⟩, _, _, rfl, ⟨rfl, hr⟩, _, _, rfl, ⟨rfl, ht⟩, rfl, hh⟩
  dsimp only at hs ha hn hr ht
  obtain ⟨s2, rfl, hs2⟩ := wf_u16 hs
  obtain ⟨a2, rfl, ha2⟩ := wf_u32 ha
  obtain ⟨r2, rfl, hr2⟩ := wf_u64 hr
  obtain ⟨t2, rfl, ht2⟩ := wf_u16 ht
  exact ⟨⟨k, s2, iv, co, a2, n, r2, t2, ho⟩, rfl, ⟨hs2, ha2, wf_i64 hn, hr2, ht2⟩⟩
theorem rd_22 : Rd Try.prog 22 (elSl tlvC) := Rd_slice Try.underlying22 (by kernel_rfl) tlvC.len rd_37
theorem tlv_form {J : Ctx} {v : Value} {t : Tlv} (s : ∃ cs, v = .agg cs ∧ cs.size = Try.prog.cellsOf 37) (h : tlvC J t v.cells.toList) : v = t.vv ∧ t.ok := by
  obtain ⟨cs, rfl, -⟩ := s
  obtain ⟨e, ho⟩ := h
  refine ⟨?_, ho⟩
  show Value.agg cs = Value.agg _
  congr 1
  exact Array.ext' e
theorem tlvs_form {J : Ctx} {v : Value} {l : List Tlv} (s : ∃ a n c, v = .slice a n c) (h : elSl tlvC J l v.cells.toList) : ∃ A c, v = .slice A l.length c ∧ TlvsIn J A l := by
  obtain ⟨A, c, cs, h1, h2, h3⟩ := sl_form s h
  exact ⟨A, c, h1, cs, h2, h3⟩
theorem rd_25 : Rd Try.prog 25 elBy := Rd_bytes Try.underlying25 Try.underlying5 (by kernel_rfl)
theorem by_form {J : Ctx} {v : Value} {l : List UInt8} (s : ∃ a n c, v = .slice a n c) (h : elBy J l v.cells.toList) : ∃ A c, v = .slice A l.length c ∧ RdB J A l.length l ∧ l.length ≤ c ∧ c ≤ maxLen := by
  obtain ⟨a, n, c, rfl⟩ := s
  obtain ⟨A, c', e, h1, h2, h3⟩ := h
  have e : [Value.slice a n c] = [Value.slice A l.length c'] := e
  injection e with e
  exact ⟨A, c', e, h1, h2, h3⟩
theorem row_BabelpktEncodes {J : Ctx} {v : Value} {l : List Tlv} (s : ∃ a n c, v = .slice a n c) (h : elSl tlvC J l v.cells.toList) (a : Int) (ha : (Lit.int .u32 a).wf = true) (b : Int) (hb : (Lit.int .u32 b).wf = true) (n : Int) (hn : (Lit.int .i64 n).wf = true) :
    Fn Try.prog 3 #[v, .int .u32 a, .int .u32 b, .int .i64 n] J [] (fun v h' => v = .bool true ∧ h' = []) := by
  obtain ⟨A, c, rfl, hin⟩ := tlvs_form s h
  obtain ⟨a2, rfl, ha2⟩ := wf_u32 ha
  obtain ⟨b2, rfl, hb2⟩ := wf_u32 hb
  exact law_BabelpktEncodes hin ha2 hb2
theorem row_BabelpktSqueezes {J : Ctx} (a : Int) (ha : (Lit.int .u32 a).wf = true) (b : Int) (hb : (Lit.int .u32 b).wf = true) (n : Int) (hn : (Lit.int .i64 n).wf = true) :
    Fn Try.prog 4 #[.int .u32 a, .int .u32 b, .int .i64 n] J [] (fun v h' => v = .bool true ∧ h' = []) := by
  obtain ⟨a2, rfl, ha2⟩ := wf_u32 ha
  obtain ⟨b2, rfl, hb2⟩ := wf_u32 hb
  exact law_BabelpktSqueezes ha2 hb2
theorem row_BabelpktShort {J : Ctx} {v : Value} {t : Tlv} (s : ∃ cs, v = .agg cs ∧ cs.size = Try.prog.cellsOf 37) (h : tlvC J t v.cells.toList) (n : Int) (hn : (Lit.int .i64 n).wf = true) :
    Fn Try.prog 5 #[v, .int .i64 n] J [] (fun v h' => v = .bool true ∧ h' = []) := by
  obtain ⟨rfl, ho⟩ := tlv_form s h
  exact law_BabelpktShort ho
end Go.Proofs.YtcfnliodgoenkaaS
