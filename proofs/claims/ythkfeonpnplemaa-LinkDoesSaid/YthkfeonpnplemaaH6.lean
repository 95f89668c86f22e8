import Derived.Test.YthkfeonpnplemaaH5
set_option linter.unusedVariables false
namespace Go.Proofs.YthkfeonpnplemaaS
abbrev left (d x y : Int) (L : List Pk) : List Pk := L.filter (fun p => !onLink d x y p)
theorem fnd_none {d x y : Int} {L : List Pk} (h : L.findIdx? (onLink d x y) = none) : left d x y L = L := by
  rw [List.findIdx?_eq_none_iff] at h
  rw [List.filter_eq_self]
  intro p hp
  simp [h p hp]
theorem fnd_some {d x y : Int} {L : List Pk} {i : Nat} (h : L.findIdx? (onLink d x y) = some i) : ∃ hi : i < L.length, onLink d x y L[i] = true ∧ left d x y (L.take i) = L.take i := by
  rw [List.findIdx?_eq_some_iff_getElem] at h
  obtain ⟨hi, h1, h2⟩ := h
  refine ⟨hi, h1, ?_⟩
  rw [List.filter_eq_self]
  intro p hp
  obtain ⟨j, hj, rfl⟩ := List.getElem_of_mem hp
  rw [List.length_take] at hj
  rw [List.getElem_take]
  have := h2 j (by omega)
  simpa using this
theorem delF_spec {I J' : Ctx} {d x y : Int} {g0 g1 g2 : Nat} (hcap : Cap I d x y g0 g1 g2) {A : Option Addr} {c : Nat} {L : List Pk} {cs : List Value} {m : Mem} (hbd : L.length ≤ 1000000) (ho : Own 29 4 A L.length c cs m) (hpk : pksC J' L cs) :
    Fn Try.prog 23 #[.slice A L.length c, .func (.func 24) #[] #[.pointer (some ⟨g0, 0, none⟩), .pointer (some ⟨g1, 0, none⟩), .pointer (some ⟨g2, 0, none⟩)]] I m
      (fun v h' => ∃ cs', v = .slice A (left d x y L).length c ∧ Own 29 4 A (left d x y L).length c cs' h' ∧ pksC J' (left d x y L) cs') := by
  refine r_slices_DeleteFunc_Packet _ _ _ _ _ _ ?_
  refine h_call0 (fun _ => { i := match L.findIdx? (onLink d x y) with | some q => (q : Int) | none => -1 }) ca_slices_IndexFunc_Packet (fun hl => index_spec (hcap.up (Sub.self.up hl)) ((ho.rd (fun x hx => hx)).all hl) hpk hbd) rfl ?_
  cases hf : L.findIdx? (onLink d x y) with
  | none =>
    refine h_yes rfl ?_
    refine h_end (h1 := m) (g := []) (by simp) ?_
    rw [fnd_none hf]
    exact ⟨cs, rfl, ho, hpk⟩
  | some i =>
    obtain ⟨hi, h1, h2⟩ := fnd_some hf
    refine h_no (by simp) ?_
    refine h_stop fun hl => ?_
    dsimp only
    rw [wrapS (by omega)]
    obtain ⟨a, rfl⟩ : ∃ a, A = some a := by
      cases A with
      | none => have := ho.some_of rfl; omega
      | some a => exact ⟨a, rfl⟩
    have hlen := ho.1
    refine delF_loop hcap hbd (L.length - (i + 1)) i (i + 1) _ m [] m (L.take i) (cs.take (i * 4)) ((cs.drop (i * 4)).take 4) (cs.drop ((i + 1) * 4)) (by omega) (by omega) ?_ (by simp; omega) (by simp) ?_ (hpk.take i) (hpk.drop (i + 1))
    · rw [List.take_succ_eq_append_getElem hi, List.filter_append]
      refine Eq.trans h2.symm ?_
      simp [h1]
    · have : cs.take (i * 4) ++ (cs.drop (i * 4)).take 4 ++ cs.drop ((i + 1) * 4) = cs := by
        rw [List.append_assoc, show (i + 1) * 4 = i * 4 + 4 by omega, ← List.drop_drop, List.take_append_drop, List.take_append_drop]
      rw [this]
      exact ho
theorem cut_spec {I : Ctx} {g : Nat} {L : List Pk} {h : Mem} {d x y : Int} (hrep : BagRep 46 g L h) (hbd : L.length ≤ 1000000) :
    Fn Try.prog 12 #[.pointer (some ⟨g, 0, none⟩), .int .i64 d, .int .i64 x, .int .i64 y] I h (fun v h' => v = .int .i64 ((L.length - (left d x y L).length : Nat) : Int) ∧ BagRep 46 g (left d x y L) h') := by
  obtain ⟨A0, c0, cs, m, hb, hp, ho, hpk, hall⟩ := hrep
  refine Fn.perm ?_ hp
  refine r_link_Bag_Cut _ _ _ _ ?_
  refine h_box fun g0 hg0 hI0 => ?_
  refine h_box fun g1 hg1 hI1 => ?_
  refine h_box fun g2 hg2 hI2 => ?_
  refine h_loadL (by kernel_rfl) (by first | exact cell_own (j := 0) rfl rfl | exact cell_own (j := 1) rfl rfl | exact cell_own (j := 2) rfl rfl | exact cell_own (j := 3) rfl rfl | exact cell_own (j := 4) rfl rfl) ?_
  refine h_loadL (by kernel_rfl) (by first | exact cell_own (j := 0) rfl rfl | exact cell_own (j := 1) rfl rfl | exact cell_own (j := 2) rfl rfl | exact cell_own (j := 3) rfl rfl | exact cell_own (j := 4) rfl rfl) ?_
  dsimp only
  refine h_call m ((g, .cells #[.slice A0 L.length c0] 46 (0, 0)) :: (g2, .cells (Value.int .i64 y).cells 3 (0, 0)) :: (g1, .cells (Value.int .i64 x).cells 3 (0, 0)) :: (g0, .cells (Value.int .i64 d).cells 3 (0, 0)) :: hb) ca_slices_DeleteFunc_Packet ?_ (fun hl => ?_)
    (Qc := fun v h' => ∃ cs', v = .slice A0 (left d x y L).length c0 ∧ Own 29 4 A0 (left d x y L).length c0 cs' h' ∧ pksC (plus noC hb) (left d x y L) cs') ?_
  · exact (perm_count fun D_ a_ => by simp only [Value.cells, List.count_append, List.count_cons, List.count_nil, List.nil_append, List.cons_append]; omega)
  · have hl' : Live I (m ++ ((g, .cells #[.slice A0 L.length c0] 46 (0, 0)) :: (g2, .cells (Value.int .i64 y).cells 3 (0, 0)) :: (g1, .cells (Value.int .i64 x).cells 3 (0, 0)) :: (g0, .cells (Value.int .i64 d).cells 3 (0, 0)) :: hb)) := hl.perm (perm_count fun D_ a_ => by simp only [Value.cells, List.count_append, List.count_cons, List.count_nil, List.nil_append, List.cons_append]; omega)
    have hl2 := (hl'.perm List.perm_append_comm).left
    have hcap : Cap (plus I ((g, .cells #[.slice A0 L.length c0] 46 (0, 0)) :: (g2, .cells (Value.int .i64 y).cells 3 (0, 0)) :: (g1, .cells (Value.int .i64 x).cells 3 (0, 0)) :: (g0, .cells (Value.int .i64 d).cells 3 (0, 0)) :: hb)) d x y g0 g1 g2 :=
      ⟨⟨(0, 0), plus_has hl2 (.inl (by simp [Value.cells]))⟩, ⟨(0, 0), plus_has hl2 (.inl (by simp [Value.cells]))⟩, ⟨(0, 0), plus_has hl2 (.inl (by simp [Value.cells]))⟩⟩
    exact delF_spec hcap hbd ho hpk
  · rintro v h1 ⟨cs', rfl, ho', hpk'⟩
    refine ⟨fun _ => { A := A0, n := (left d x y L).length, c := c0 }, rfl, ?_⟩
    dsimp only
    refine holds_perm (cl_.aff _) (List.perm_append_comm) ?_
    refine h_store 0 rfl (by kernel_rfl) (Nat.le_of_ble_eq_true rfl) (by simp [Value.cells]) ?_
    refine h_loadL (by kernel_rfl) (by first | exact cell_own (j := 0) rfl rfl | exact cell_own (j := 1) rfl rfl | exact cell_own (j := 2) rfl rfl | exact cell_own (j := 3) rfl rfl | exact cell_own (j := 4) rfl rfl) ?_
    dsimp only
    have hle : (left d x y L).length ≤ L.length := List.length_filter_le ..
    refine h_end (h1 := (g, .cells #[.slice A0 (left d x y L).length c0] 46 (0, 0)) :: (h1 ++ hb)) (g := [(g2, .cells (Value.int .i64 y).cells 3 (0, 0)), (g1, .cells (Value.int .i64 x).cells 3 (0, 0)), (g0, .cells (Value.int .i64 d).cells 3 (0, 0))]) ?_ ⟨?_, A0, c0, cs', h1, hb, List.Perm.refl _, ho', hpk', fun q hq => hall q ((List.mem_filter.1 hq).1)⟩
    · show List.Perm ((g, .cells #[.slice A0 (left d x y L).length c0] 46 (0, 0)) :: (g2, .cells (Value.int .i64 y).cells 3 (0, 0)) :: (g1, .cells (Value.int .i64 x).cells 3 (0, 0)) :: (g0, .cells (Value.int .i64 d).cells 3 (0, 0)) :: (hb ++ h1)) _
      exact (perm_count fun D_ a_ => by simp only [Value.cells, List.count_append, List.count_cons, List.count_nil, List.nil_append, List.cons_append]; omega)
    · rw [show (L.length : Int) - ((left d x y L).length : Int) = ((L.length - (left d x y L).length : Nat) : Int) by omega, wrap64 (by omega)]
end Go.Proofs.YthkfeonpnplemaaS
