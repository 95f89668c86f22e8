import Derived.Test.YtahllmihgpaaeaaN8
set_option linter.unusedVariables false
namespace Go.Proofs.YtahllmihgpaaeaaS
theorem encR_app {c : Int} {e1 e2 : List Ent} (h1 : (encR c false e1).2 = 0) (h2 : (encR c false e2).2 = 0) (l1 : e1.length ≤ 12) (l2 : e2.length ≤ 12) :
    encR c false e1 = (encB c false e1, 0) ∧ encR c false e2 = (encB c false e2, 0) ∧ encR c false (e1 ++ e2) = (encB c false (e1 ++ e2), 0) := by
  unfold encR at h1 h2
  rw [if_neg (by omega)] at h1 h2
  split at h1
  · cases h1
  rename_i n1
  split at h2
  · cases h2
  rename_i n2
  refine ⟨?_, ?_, ?_⟩
  · unfold encR; rw [if_neg (by omega), if_neg n1]
  · unfold encR; rw [if_neg (by omega), if_neg n2]
  · unfold encR
    rw [if_neg (by rw [List.length_append]; omega), if_neg]
    rintro (h | ⟨h, _⟩ | h)
    · exact n1 (.inl h)
    · cases h
    · rw [List.all_append, Bool.and_eq_false_iff] at h
      rcases h with h | h
      · exact n1 (.inr (.inr h))
      · exact n2 (.inr (.inr h))
theorem encB_app (c : Int) (e1 e2 : List Ent) : encB c false (e1 ++ e2) = encB c false e1 ++ (encB c false e2).drop 4 := by
  unfold encB
  simp [List.flatMap_append]
theorem encB_len (c : Int) (e : List Ent) : (encB c false e).length = 4 + 20 * e.length := by
  unfold encB
  simp only [Bool.false_eq_true, if_false, List.length_append, flat_len, List.length_cons, List.length_nil]
  omega
theorem GivesE.rdb {I : Ctx} {h : Mem} {l : List UInt8} {A : Option Addr} {c : Nat} {m : Mem} (ho : OwnB A l.length c l m) (hm : ∀ x ∈ m, x ∈ h) : RdC I h A (bC l) ∧ (A = none → l.length = 0) := ⟨ho.rd hm, ho.some_of⟩
theorem EntsIn.nil {J : Ctx} {A : Option Addr} {es : List Ent} (h : EntsIn J A es) : A = none → es.length = 0 := by
  rintro rfl
  obtain ⟨cs, h1, h2⟩ := h
  have hl := h2.len (entC.len J)
  by_cases he : cs = []
  · rw [he, List.length_nil] at hl; omega
  · obtain ⟨a, h3, _⟩ := h1 he
    cases h3
theorem entC.plain {J : Ctx} {es : List Ent} {cs : List Value} (h : rowC (entC J) es cs) : ∀ v ∈ cs, (∀ x, v ≠ .agg x) ∧ ∀ x, v ≠ .tuple x := h.plain (fun p c hc => by rw [hc.1]; simp)
theorem law_RippktEntries {J : Ctx} {A1 A2 : Option Addr} {k1 k2 : Nat} {e1 e2 : List Ent} {c1 c2 : Int} {w1 w2 : Bool} (hin1 : EntsIn J A1 e1) (hin2 : EntsIn J A2 e2) :
    Fn Try.prog 4 #[.agg #[.int .i64 c1, .bool w1, .slice A1 e1.length k1], .agg #[.int .i64 c2, .bool w2, .slice A2 e2.length k2]] J [] (fun v h' => v = .bool true ∧ h' = []) := by
  refine r_octroilaw05_RippktEntries _ _ _ _ _ _ _ _ _ _ ?_
  refine h_box fun g1 hg1 hI1 => ?_
  refine h_box fun g2 hg2 hI2 => ?_
  refine h_call0 (fun _ => { b := true }) ca_octroilaw05_awake (fun hl => awake_spec) rfl ?_
  refine h_no rfl ?_
  refine h_loadL (by kernel_rfl) (by first | exact cell_own (j := 0) rfl rfl | exact cell_own (j := 1) rfl rfl | exact cell_own (j := 2) rfl rfl | exact cell_own (j := 3) rfl rfl | exact cell_own (j := 4) rfl rfl) ?_
  refine h_ite (fun h0 => h_end0 ⟨rfl, rfl⟩) (fun b1 => ?_)
  have b1 : e1.length ≤ 12 := by dsimp only at b1; rw [decide_eq_false_iff_not] at b1; omega
  refine h_loadL (by kernel_rfl) (by first | exact cell_own (j := 0) rfl rfl | exact cell_own (j := 1) rfl rfl | exact cell_own (j := 2) rfl rfl | exact cell_own (j := 3) rfl rfl | exact cell_own (j := 4) rfl rfl) ?_
  refine h_ite (fun h0 => h_end0 ⟨rfl, rfl⟩) (fun b2 => ?_)
  have b2 : e2.length ≤ 12 := by dsimp only at b2; rw [decide_eq_false_iff_not] at b2; omega
  refine h_loadB (by kernel_rfl) (by first | exact cell_own (j := 0) rfl rfl | exact cell_own (j := 1) rfl rfl | exact cell_own (j := 2) rfl rfl | exact cell_own (j := 3) rfl rfl | exact cell_own (j := 4) rfl rfl) ?_
  refine h_ite (fun h0 => h_end0 ⟨rfl, rfl⟩) (fun hw1 => ?_)
  refine h_loadB (by kernel_rfl) (by first | exact cell_own (j := 0) rfl rfl | exact cell_own (j := 1) rfl rfl | exact cell_own (j := 2) rfl rfl | exact cell_own (j := 3) rfl rfl | exact cell_own (j := 4) rfl rfl) ?_
  refine h_ite (fun h0 => h_end0 ⟨rfl, rfl⟩) (fun hw2 => ?_)
  have hw1 : w1 = false := hw1
  have hw2 : w2 = false := hw2
  subst hw1
  subst hw2
  refine h_loadI (by kernel_rfl) (by first | exact cell_own (j := 0) rfl rfl | exact cell_own (j := 1) rfl rfl | exact cell_own (j := 2) rfl rfl | exact cell_own (j := 3) rfl rfl | exact cell_own (j := 4) rfl rfl) ?_
  refine h_loadI (by kernel_rfl) (by first | exact cell_own (j := 0) rfl rfl | exact cell_own (j := 1) rfl rfl | exact cell_own (j := 2) rfl rfl | exact cell_own (j := 3) rfl rfl | exact cell_own (j := 4) rfl rfl) ?_
  refine h_ite (fun h0 => h_end0 ⟨rfl, rfl⟩) (fun hc => ?_)
  have hc : c1 = c2 := by simpa using hc
  subst hc
  refine h_loadA (cs := [.int .i64 c1, .bool false, .slice A1 e1.length k1]) (getL [{ i := c1 }, { b := false }, { A := A1, n := e1.length, c := k1 }]) (by kernel_rfl) (by kernel_rfl) (cells_at (j := 1) rfl rfl) rfl ?_
  dsimp only [getL]
  refine h_call [] _ ca_rippkt_Encode (List.Perm.refl _) (fun hl => encode_spec (hin1.up (Sub.self.up hl))) ?_
  rintro v h1 ⟨X1, x1, rfl, ho1⟩
  refine ⟨getL [{ A := X1, n := (encR c1 false e1).1.length, c := x1 }, { i := (encR c1 false e1).2 }], rfl, ?_⟩
  dsimp only [getL]
  let G1 : Nat × Obj := (g1, .cells #[.int .i64 c1, .bool false, .slice A1 e1.length k1] 24 (0, 0))
  let G2 : Nat × Obj := (g2, .cells #[.int .i64 c1, .bool false, .slice A2 e2.length k2] 24 (0, 0))
  have m1 : ∀ x : Mem, G1 ∈ x ++ [G2, G1] := fun x => by simp
  have m2 : ∀ x : Mem, G2 ∈ x ++ [G2, G1] := fun x => by simp
  refine h_loadA (cs := [.int .i64 c1, .bool false, .slice A2 e2.length k2]) (getL [{ i := c1 }, { b := false }, { A := A2, n := e2.length, c := k2 }]) (by kernel_rfl) (by kernel_rfl) (fun q v hq => by rw [add_plain, Nat.zero_add]; exact cell_mem (m2 _) (by simpa using hq)) rfl ?_
  dsimp only [getL]
  refine h_call [] _ ca_rippkt_Encode (List.Perm.refl _) (fun hl => encode_spec (hin2.up (Sub.self.up hl))) ?_
  rintro v h2 ⟨X2, x2, rfl, ho2⟩
  refine ⟨getL [{ A := X2, n := (encR c1 false e2).1.length, c := x2 }, { i := (encR c1 false e2).2 }], rfl, ?_⟩
  dsimp only [getL]
  refine h_ite (fun h0 => h_end0 ⟨rfl, rfl⟩) (fun z1 => ?_)
  refine h_ite (fun h0 => h_end0 ⟨rfl, rfl⟩) (fun z2 => ?_)
  obtain ⟨r1, r2, r3⟩ := encR_app (c := c1) (e1 := e1) (e2 := e2) (by simpa using z1) (by simpa using z2) b1 b2
  rw [r1] at ho1 ⊢
  rw [r2] at ho2 ⊢
  dsimp only at ho1 ho2 ⊢
  obtain ⟨cs1, hr1, hrow1⟩ := hin1
  obtain ⟨cs2, hr2, hrow2⟩ := hin2
  have hl1 := hrow1.len (entC.len J)
  have hl2 := hrow2.len (entC.len J)
  have n1 : ∀ x y : Mem, G1 ∈ y ++ (x ++ [G2, G1]) := fun x y => by simp
  have n2 : ∀ x y : Mem, G2 ∈ y ++ (x ++ [G2, G1]) := fun x y => by simp
  have p1 : ∀ x y z : Mem, G1 ∈ z ++ (y ++ (x ++ [G2, G1])) := fun x y z => by simp
  have p2 : ∀ x y z : Mem, G2 ∈ z ++ (y ++ (x ++ [G2, G1])) := fun x y z => by simp
  refine h_loadI (by kernel_rfl) (cell_mem (n1 _ _) rfl) ?_
  refine h_loadL (by kernel_rfl) (cell_mem (n1 _ _) rfl) ?_
  refine h_loadL (by kernel_rfl) (cell_mem (n2 _ _) rfl) ?_
  dsimp only
  refine h_append (cl_.aff _) eb_RipEntry (by kernel_rfl) (hr1.sub Sub.self) (EntsIn.nil ⟨cs1, hr1, hrow1⟩) hl1 (entC.plain hrow1) (m := []) (hr := h2 ++ (h1 ++ [G2, G1])) (List.Perm.refl _) (Own.nil _ _) (by omega) (by omega) ?_
  intro A3 c3 m3 ho3
  simp only [Nat.zero_add, List.nil_append] at ho3 ⊢
  refine h_pin (rwp_vN (rw_load1 (by kernel_rfl) (cell_mem (p2 _ _ _) rfl) rfl)) ?_
  refine h_pin (rwp_vN (rw_load1 (by kernel_rfl) (cell_mem (p1 _ _ _) rfl) rfl)) ?_
  refine h_append (cl_.aff _) eb_RipEntry (by kernel_rfl) (hr2.sub Sub.self) (EntsIn.nil ⟨cs2, hr2, hrow2⟩) hl2 (entC.plain hrow2) (m := m3) (hr := h2 ++ (h1 ++ [G2, G1])) (List.Perm.refl _) ho3 (by omega) (by omega) ?_
  intro A4 c4 m4 ho4
  refine h_pin (rwp_vN (rw_load1 (by kernel_rfl) (cell_mem (p1 _ _ _) rfl) rfl)) ?_
  refine h_alloc zb_RipPacket fun g5 hg5 hI5 => ?_
  refine h_store 0 rfl (by kernel_rfl) (Nat.le_of_ble_eq_true rfl) (by simp [Value.cells]) ?_
  refine h_loadA (cs := [.int .i64 c1, .bool false, .slice A4 (e1.length + e2.length) c4]) (getL [{ i := c1 }, { b := false }, { A := A4, n := e1.length + e2.length, c := c4 }]) (by kernel_rfl) (by kernel_rfl) (cells_at (j := 0) rfl rfl) rfl ?_
  dsimp only [getL]
  refine h_call [] _ ca_rippkt_Encode (List.Perm.refl _) (fun hl => ?_) (Qc := GivesE (encR c1 false (e1 ++ e2))) ?_
  · have h3 := encode_spec (c := c1) (w := false) (cap := c4) (es := e1 ++ e2) (A := A4) ⟨cs1 ++ cs2, (ho4.rd (fun x hx => List.mem_cons_of_mem _ (List.mem_append_left _ hx))).all hl, (hrow1.mono fun _ _ h => h).append (hrow2.mono fun _ _ h => h)⟩
    rw [List.length_append] at h3
    exact h3
  rintro v h6 ⟨X6, x6, rfl, ho6⟩
  rw [r3] at ho6 ⊢
  dsimp only at ho6 ⊢
  refine ⟨getL [{ A := X6, n := (encB c1 false (e1 ++ e2)).length, c := x6 }, { i := 0 }], rfl, ?_⟩
  dsimp only [getL]
  refine h_yes rfl ?_
  have q1 := encB_len c1 e1
  have q2 := encB_len c1 e2
  have q3 := encB_len c1 (e1 ++ e2)
  have hcap := ho2.2.1
  refine h_toString (e := 5) (by kernel_rfl) (by kernel_rfl) (by kernel_rfl) rfl (ho6.rd (fun x hx => List.mem_append_left _ hx)) ho6.some_of ?_
  refine h_toString (e := 5) (by kernel_rfl) (by kernel_rfl) (by kernel_rfl) rfl (ho1.rd (fun x hx => by simp [hx])) ho1.some_of ?_
  refine h_cut (e := 5) (sz := 1) 4 (encB c1 false e2).length x2 (by kernel_rfl) (by kernel_rfl) rfl rfl rfl (by simp) (by omega) (by omega) (by omega) ?_
  dsimp only
  have key : ∀ hh : Mem, (∀ x ∈ h2, x ∈ hh) → RdC J hh (cutA X2 4 x2 1) (bC ((encB c1 false e2).drop 4)) := by
    intro hh hm
    have := (ho2.rd (I := J) hm).cut (l := 4) (u := (encB c1 false e2).length) (m := x2) (sz := 1) hcap
    rw [Nat.mul_one, Nat.mul_one, List.take_of_length_le (by simp)] at this
    simpa [bC, List.map_drop] using this
  refine h_toString (e := 5) (l := (encB c1 false e2).drop 4) (by kernel_rfl) (by kernel_rfl) (by kernel_rfl) (by simp) (key _ (fun x hx => by simp [hx])) ?_ ?_
  · intro hA
    obtain ⟨a, rfl⟩ : ∃ a, X2 = some a := by
      cases X2 with
      | none => have := ho2.some_of rfl; omega
      | some a => exact ⟨a, rfl⟩
    exact cutA_ne hA
  refine h_addS (by simp; omega) ?_
  dsimp only
  rw [bS_toList, bS_toList, ← encB_app]
  refine h_yes (by simp) ?_
  have g1m : ∀ x y z w t : Mem, ∀ s : Nat × Obj, G1 ∈ w ++ (s :: (z ++ (y ++ (x ++ [G2, G1])))) := fun x y z w t s => by simp
  refine h_loadL (by kernel_rfl) (cell_mem (g1m _ _ _ _ [] _) rfl) ?_
  refine h_end0 ⟨?_, rfl⟩
  dsimp only
  rw [wrap64 (x := 20 * (e1.length : Int)) (by omega), wrap64 (by omega), q1]
  simp
end Go.Proofs.YtahllmihgpaaeaaS
