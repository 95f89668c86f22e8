import Derived.Test.YtcfnliodgoenkaaN1
set_option linter.unusedVariables false
namespace Go.Proofs.YtcfnliodgoenkaaS
theorem grow_spec {I : Ctx} {n : Nat} (hn : n ≤ 1000000000) : Fn Try.prog 45 #[.slice none 0 0, .int .i64 (n : Int)] I [] (fun v h' => ∃ A c, v = .slice A 0 c ∧ OwnB A 0 c [] h') := by
  refine r_slices_Grow_byte _ _ _ _ ?_
  refine h_no (by simp) ?_
  have hw : IntKind.wrap .i64 ((n : Int) - (IntKind.wrap .i64 (((0 : Nat) : Int) - ((0 : Nat) : Int)))) = (n : Int) := by
    rw [show (((0 : Nat) : Int) - ((0 : Nat) : Int)) = 0 from rfl, wrap64 (x := 0) (by omega), wrap64 (by omega)]
    omega
  rw [hw]
  refine h_ite (fun h0 => ?_) (fun h0 => ?_)
  · have h0 : (n : Int) > 0 := by simpa using h0
    refine h_cut (e := 5) (sz := 1) 0 0 0 (by kernel_rfl) (by kernel_rfl) rfl rfl rfl (by simp) (by omega) (by omega) (by omega) ?_
    simp only [cutA_zero, Nat.sub_zero]
    refine h_appendN (n := n) eb_uint8 (by kernel_rfl : Try.prog.underlying 3 = some (.int .i64)) (by omega) (by omega) (by omega) ?_
    intro g c o hg hI ho
    dsimp only
    have hcc := ho.2.1
    refine h_cut (e := 5) (sz := 1) 0 0 c (by kernel_rfl) (by kernel_rfl) rfl rfl rfl (by simp) (by omega) (by omega) (by omega) ?_
    simp only [cutA_zero, Nat.sub_zero]
    have ho2 := ho.cut (i := 0) (by omega)
    rw [Nat.zero_mul, List.take_zero] at ho2
    exact h_end (h1 := [(g, o)]) (g := []) (by simp) ⟨_, _, rfl, ho2⟩
  · exact h_end0 ⟨none, 0, rfl, Own.nil _ _⟩
/-- A slice of bytes in a row. -/
def elB (J : Ctx) (l : List UInt8) (cs : List Value) : Prop := ∃ A c, cs = [.slice A l.length c] ∧ RdB J A l.length l
theorem elB.len (J : Ctx) (l : List UInt8) (cs : List Value) (h : elB J l cs) : cs.length = 1 := by
  obtain ⟨A, c, rfl, _⟩ := h
  rfl
def total (ls : List (List UInt8)) : Nat := (ls.map List.length).sum
theorem total_snoc (ls : List (List UInt8)) (l : List UInt8) : total (ls ++ [l]) = total ls + l.length := by simp [total]
theorem total_take (ls : List (List UInt8)) (i : Nat) : total (ls.take i) ≤ total ls := by
  have : total ls = total (ls.take i) + total (ls.drop i) := by
    rw [total, total, total, ← List.sum_append, ← List.map_append, List.take_append_drop]
  omega
theorem length_flatten' (ls : List (List UInt8)) : ls.flatten.length = total ls := by simp [total, List.length_flatten]
theorem concat_loop2 {I : Ctx} {A : Option Addr} {c : Nat} {ls : List (List UInt8)} {cs : List Value} (hrd : RdC I [] A cs) (hrow : rowC (elB I) ls cs) (hb : total ls ≤ 1000000000) (hn : ls.length ≤ 1000000000) :
    ∀ (q i : Nat) (u : Nat → Value) (h m hr : Mem) (A6 : Option Addr) (c6 : Nat), i + q = ls.length → h.Perm (m ++ hr) → OwnB A6 (total (ls.take i)) c6 (ls.take i).flatten m →
    Wp Try.prog 23 k_slices_Concat_byte_2 (t_slices_Concat_byte_2 A ls.length c A6 (total (ls.take i)) c6 i u) I h (cl_ (GivesB ls.flatten)) := by
  intro q
  induction q with
  | zero =>
    intro i u h m hr A6 c6 hiq hp ho
    rw [List.take_of_length_le (by omega)] at ho ⊢
    refine r_slices_Concat_byte_2 _ _ _ _ _ _ _ _ ?_
    refine h_no (by simp; omega) ?_
    exact h_end (h1 := m) (g := hr) hp ⟨A6, c6, by rw [length_flatten'], by rw [length_flatten']; exact ho⟩
  | succ q ih =>
    intro i u h m hr A6 c6 hiq hp ho
    have hi : i < ls.length := by omega
    obtain ⟨a, c1, rfl, ⟨A', c', rfl, hB⟩, hc⟩ := hrow.at (elB.len I) hrd (by omega) (List.getElem?_eq_getElem hi)
    have htk : ls.take (i + 1) = ls.take i ++ [ls[i]] := List.take_succ_eq_append_getElem hi
    have ht := total_take ls (i + 1)
    rw [htk, total_snoc] at ht
    refine r_slices_Concat_byte_2 _ _ _ _ _ _ _ _ ?_
    refine h_yes (by simp; omega) ?_
    refine h_index a rfl (sz := 1) (by kernel_rfl) (by omega) (by omega) rfl ?_
    dsimp only
    rw [Int.toNat_natCast]
    refine h_loadL (by kernel_rfl) (by have := (hc 0 _ rfl).sub (h := h) Sub.self; rwa [addr_add0] at this) ?_
    dsimp only
    refine h_append (cl_.aff _) eb_uint8 (by kernel_rfl) (hB.rd.sub Sub.self) hB.nil (by simp) (bC_plain ls[i]) (m := m) (hr := hr) hp ho (by omega) (by omega) ?_
    intro A' c' m' ho'
    refine h_stop fun hl => ?_
    dsimp only
    rw [wrapS (by omega), ← total_snoc, ← htk]
    refine ih (i + 1) _ _ m' hr A' c' (by omega) (List.Perm.refl _) ?_
    rw [htk, total_snoc, List.flatten_append]
    rw [← bC_append] at ho'
    rw [show [ls[i]].flatten = ls[i] by simp]
    exact ho'
theorem concat_loop1 {I : Ctx} {A : Option Addr} {c : Nat} {ls : List (List UInt8)} {cs : List Value} (hrd : RdC I [] A cs) (hrow : rowC (elB I) ls cs) (hb : total ls ≤ 1000000000) (hn : ls.length ≤ 1000000000) :
    ∀ (q i : Nat) (u : Nat → Value) (h : Mem), i + q = ls.length →
    Wp Try.prog 23 k_slices_Concat_byte_1 (t_slices_Concat_byte_1 A ls.length c (total (ls.take i)) i u) I h (cl_ (GivesB ls.flatten)) := by
  intro q
  induction q with
  | zero =>
    intro i u h hiq
    rw [List.take_of_length_le (by omega)]
    refine r_slices_Concat_byte_1 _ _ _ _ _ _ ?_
    refine h_no (by simp; omega) ?_
    refine h_call [] _ ca_slices_Grow_byte (List.Perm.refl _) (fun hl => grow_spec hb) ?_
    rintro v h1 ⟨A6, c6, rfl, ho⟩
    refine ⟨fun _ => { A := A6, n := 0, c := c6 }, rfl, ?_⟩
    refine h_stop fun hl => ?_
    exact concat_loop2 hrd hrow hb hn ls.length 0 _ _ h1 h A6 c6 (by omega) (List.Perm.refl _) ho
  | succ q ih =>
    intro i u h hiq
    have hi : i < ls.length := by omega
    obtain ⟨a, c1, rfl, ⟨A', c', rfl, hB⟩, hc⟩ := hrow.at (elB.len I) hrd (by omega) (List.getElem?_eq_getElem hi)
    have htk : ls.take (i + 1) = ls.take i ++ [ls[i]] := List.take_succ_eq_append_getElem hi
    have ht := total_take ls (i + 1)
    rw [htk, total_snoc] at ht
    refine r_slices_Concat_byte_1 _ _ _ _ _ _ ?_
    refine h_yes (by simp; omega) ?_
    refine h_index a rfl (sz := 1) (by kernel_rfl) (by omega) (by omega) rfl ?_
    dsimp only
    rw [Int.toNat_natCast]
    refine h_loadL (by kernel_rfl) (by have := (hc 0 _ rfl).sub (h := h) Sub.self; rwa [addr_add0] at this) ?_
    dsimp only
    have hw : IntKind.wrap .i64 (((total (ls.take i) : Nat) : Int) + ((ls[i].length : Nat) : Int)) = ((total (ls.take (i + 1)) : Nat) : Int) := by
      rw [wrap64 (by omega), htk, total_snoc]
      omega
    rw [hw]
    refine h_no (by simp) ?_
    refine h_stop fun hl => ?_
    rw [wrapS (by omega)]
    exact ih (i + 1) _ _ (by omega)
theorem concat_spec {I : Ctx} {A : Option Addr} {c : Nat} {ls : List (List UInt8)} {cs : List Value} (hrd : RdC I [] A cs) (hrow : rowC (elB I) ls cs) (hb : total ls ≤ 1000000000) (hn : ls.length ≤ 1000000000) :
    Fn Try.prog 23 #[.slice A ls.length c] I [] (GivesB ls.flatten) := by
  refine r_slices_Concat_byte _ _ _ ?_
  refine h_stop fun hl => ?_
  exact concat_loop1 hrd hrow hb hn ls.length 0 _ _ (by omega)
end Go.Proofs.YtcfnliodgoenkaaS
