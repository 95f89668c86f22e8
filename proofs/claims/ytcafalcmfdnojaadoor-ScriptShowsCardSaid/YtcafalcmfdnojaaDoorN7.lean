import Derived.Test.YtcafalcmfdnojaaDoorN6
import Derived.Test.YtcafalcmfdnojaaDoorTA
set_option linter.unusedVariables false
set_option maxRecDepth 20000
namespace Go.Proofs.YtcafalcmfdnojaaDoorS
/-! The reference's line and Show. -/
theorem wds_at {x : It} {i : Nat} (h : i < numI x.k) : ∃ n, x.ns[i]? = some n ∧ (wds x)[i]? = some (Lib.itoa n) ∧ n ∈ x.ns.take (numI x.k) := by
  have hle := numI_le x.k
  have hi : i < x.ns.length := by show i < 3; omega
  refine ⟨x.ns[i], List.getElem?_eq_getElem hi, ?_, ?_⟩
  · unfold wds
    rw [List.getElem?_map, List.getElem?_take, if_pos h, List.getElem?_eq_getElem hi]
    rfl
  · exact List.mem_of_getElem? (i := i) (by rw [List.getElem?_take, if_pos h, List.getElem?_eq_getElem hi])
def pre (x : It) (i : Nat) : List UInt8 := wordI x.k ++ Lib.joinTail [32] ((wds x).take i)
theorem pre_succ {x : It} {i : Nat} {n : Int} (h : (wds x)[i]? = some (Lib.itoa n)) : pre x (i + 1) = (pre x i ++ [32]) ++ Lib.itoa n := by
  unfold pre
  rw [Lib.joinTail_take_succ _ _ _ _ h]
  simp
theorem pre_all (x : It) : pre x (numI x.k) = bare x := by
  unfold pre bare
  rw [Lib.join_cons, List.take_of_length_le (by rw [wds_len]; exact Nat.le_refl _)]
theorem pre_len {x : It} (h : okNs x = true) (i : Nat) : (pre x i).length ≤ 40 := by
  have h1 := bare_len h
  unfold bare at h1
  unfold pre
  rw [Lib.join_cons, List.length_append] at h1
  have := Lib.joinTail_take_le [32] (wds x) i
  rw [List.length_append]
  omega
theorem rline_loop {I : Ctx} {x : It} (hx : okNs x = true) {y g : Nat} : ∀ (q i : Nat) (u : Nat → Value) (h : Mem), i + q = numI x.k → RdC I h (some ⟨g, 0, none⟩) (ints x.ns) → (y, .cells ⟨itC x⟩ 35 (0, 0)) ∈ h →
    Wp Tryd.prog 27 k_octroiref23_line_1 (t_octroiref23_line_1 y (some ⟨g, 0, none⟩) 3 3 (bS (pre x i)) (i : Nat) u) I h (cl_ fun v h' => v = .string (bS (lineL x)) ∧ h' = []) := by
  intro q
  induction q with
  | zero =>
    intro i u h hq hr hm
    obtain rfl : i = numI x.k := by omega
    refine r_octroiref23_line_1 _ _ _ _ _ _ _ ?_
    refine ldI hm rfl (by kernel_rfl) ?_
    dsimp only
    refine h_call0 (fun _ => { i := (numI x.k : Nat) }) ca_octroiref23_Numbers (fun hl => rnumbers_spec) rfl ?_
    dsimp only
    refine h_no (by simp) ?_
    have hpl := pre_len hx (numI x.k)
    refine h_addS (y := [10]) (by simp; omega) ?_
    refine h_end0 ⟨?_, rfl⟩
    unfold lineL
    rw [pre_all]
  | succ q ih =>
    intro i u h hq hr hm
    obtain ⟨n, h1, h2, h3⟩ := wds_at (x := x) (i := i) (by omega)
    refine r_octroiref23_line_1 _ _ _ _ _ _ _ ?_
    refine ldI hm rfl (by kernel_rfl) ?_
    dsimp only
    refine h_call0 (fun _ => { i := (numI x.k : Nat) }) ca_octroiref23_Numbers (fun hl => rnumbers_spec) rfl ?_
    dsimp only
    refine h_yes (by simp; omega) ?_
    have hpl := pre_len hx i
    have hil := itoa_len (ok_get hx h3)
    refine h_addS (y := [32]) (by simp; omega) ?_
    dsimp only
    refine h_intAt i hr h1 rfl rfl fun _ => ?_
    refine h_call0 (fun _ => { s := bS (Lib.itoa n) }) ca_octroiref23_digits (fun hl => digits_spec (ok_get hx h3)) rfl ?_
    dsimp only
    refine h_addS (by simp; omega) ?_
    dsimp only
    refine h_stop fun hl2 => ?_
    have := numI_le x.k
    rw [wrapS (by omega), ← pre_succ h2]
    exact ih (i + 1) _ _ (by omega) hr hm
theorem rline_spec {I : Ctx} {x : It} (hx : okNs x = true) : Fn Tryd.prog 27 #[.agg #[.int .i64 x.k, .int .i64 x.a, .int .i64 x.b, .int .i64 x.c]] I [] (fun v h' => v = .string (bS (lineL x)) ∧ h' = []) := by
  refine r_octroiref23_line _ _ _ _ ?_
  (repeat ((first | refine h_box fun _ _ _ => ?_ | ((with_reducible show holds _ _ _ _ (.rd (Instr.loadAt _ (.pointer _)) _ _) _); first | refine ldI (by repeat (first | exact mq0 | apply mq1 | apply mq2)) (by rfl) (by kernel_rfl) ?_ | refine la0 (by repeat (first | exact mq0 | apply mq1 | apply mq2)) (by rfl) (by kernel_rfl) ?_)); try dsimp only [getL]))
  refine h_call0 (fun _ => { s := bS (wordI x.k) }) ca_octroiref23_Word (fun hl => rword_spec) rfl ?_
  dsimp only
  (repeat ((first | refine h_box fun _ _ _ => ?_ | ((with_reducible show holds _ _ _ _ (.rd (Instr.loadAt _ (.pointer _)) _ _) _); first | refine ldI (by repeat (first | exact mq0 | apply mq1 | apply mq2)) (by rfl) (by kernel_rfl) ?_ | refine la0 (by repeat (first | exact mq0 | apply mq1 | apply mq2)) (by rfl) (by kernel_rfl) ?_)); try dsimp only [getL]))
  refine h_call [] _ ca_octroiref23_numbers (List.Perm.refl _) (fun hl => rnums_spec) ?_
  rintro v m1 ⟨g, rfl, rfl⟩
  refine ⟨fun _ => { A := some ⟨g, 0, none⟩, n := 3, c := 3 }, rfl, ?_⟩
  refine h_stop fun hl2 => ?_
  have hp : bS (wordI x.k) = bS (pre x 0) := by simp [pre, Lib.joinTail]
  rw [hp]
  exact rline_loop hx (numI x.k) 0 _ _ (by omega) (fun _ => ⟨_, rfl, cellsM' (by repeat (first | exact mq0 | apply mq1 | apply mq2)) rfl⟩) (by repeat (first | exact mq0 | apply mq1 | apply mq2))
theorem all_take {l : List It} {i : Nat} {x : It} (h : (l.take i).all may = true) (hi : l[i]? = some x) : l.take (i + 1) = l.take i ++ [x] := by
  rw [List.take_add_one, hi]
  rfl
theorem lines_size {l : List It} (h : l.all may = true) : (l.flatMap lineL).length ≤ 41 * l.length := by
  induction l with
  | nil => simp
  | cons x l ih =>
    rw [List.all_cons, Bool.and_eq_true] at h
    rw [List.flatMap_cons, List.length_append, List.length_cons]
    have := ih h.2
    have := bare_len (may_ok h.1)
    have h3 : (lineL x).length = (bare x).length + 1 := by unfold lineL; simp
    omega
theorem show_bad {l : List It} {x : It} {i : Nat} (hl : l.length ≤ 1000) (hi : l[i]? = some x) (hx : may x = false) : showP l = ([], 1) := by
  unfold showP
  rw [if_neg (by omega), if_neg]
  intro h
  have := List.all_eq_true.1 h x (List.mem_of_getElem? hi)
  rw [hx] at this
  cases this
theorem show_good {l : List It} (hl : l.length ≤ 1000) (h : l.all may = true) : showP l = (l.flatMap lineL, 0) := by
  unfold showP
  rw [if_neg (by omega), if_pos h]
abbrev showV (l : List It) : Value := .tuple #[.string (bS (showP l).1), .int .i64 (showP l).2]
theorem rshow_loop {I : Ctx} {l : List It} (hl : l.length ≤ 1000) {A : Option Addr} {c : Nat} : ∀ (q i : Nat) (u : Nat → Value) (h : Mem), i + q = l.length → RdC I h A (itCs l) → (l.take i).all may = true →
    Wp Tryd.prog 14 k_octroiref23_Show_1 (t_octroiref23_Show_1 A l.length c (bS ((l.take i).flatMap lineL)) (i : Nat) u) I h (cl_ fun v h' => v = showV l ∧ h' = []) := by
  intro q
  induction q with
  | zero =>
    intro i u h hq hr ha
    obtain rfl : i = l.length := by omega
    refine r_octroiref23_Show_1 _ _ _ _ _ _ ?_
    refine h_no (by simp) ?_
    refine h_end0 ⟨?_, rfl⟩
    rw [List.take_length] at ha ⊢
    unfold showV
    rw [show_good hl ha]
  | succ q ih =>
    intro i u h hq hr ha
    have hi : i < l.length := by omega
    have hb : l[i]? = some l[i] := List.getElem?_eq_getElem hi
    have hs := all_take ha hb
    generalize l[i] = x at *
    refine r_octroiref23_Show_1 _ _ _ _ _ _ ?_
    refine h_yes (by simp; omega) ?_
    refine h_itemAt i hr hb rfl rfl fun _ => ?_
    dsimp only [getL]
    refine h_call0 (fun _ => { b := may x }) ca_octroiref23_May (fun hl => may_spec) rfl ?_
    dsimp only
    refine h_ite (fun t0 => ?_) (fun t0 => ?_)
    · refine h_end0 ⟨?_, rfl⟩
      unfold showV
      rw [show_bad hl hb (by simpa using t0)]
      rfl
    have h0 : may x = true := by simpa using t0
    refine h_itemAt i hr hb rfl rfl fun _ => ?_
    dsimp only [getL]
    refine h_call0 (fun _ => { s := bS (lineL x) }) ca_octroiref23_line (fun hl => rline_spec (may_ok h0)) rfl ?_
    dsimp only
    have h1 := lines_size ha
    have h2 := bare_len (may_ok h0)
    have h3 : (lineL x).length ≤ 41 := by unfold lineL; rw [List.length_append, List.length_singleton]; omega
    rw [List.length_take] at h1
    refine h_addS (by omega) ?_
    dsimp only
    refine h_stop fun hl2 => ?_
    have e : (l.take i).flatMap lineL ++ lineL x = (l.take (i + 1)).flatMap lineL := by rw [hs, List.flatMap_append]; simp
    rw [wrapS (by omega), e]
    exact ih (i + 1) _ _ (by omega) hr (by rw [hs, List.all_append, ha]; simp [h0])
theorem rshow_spec {I : Ctx} {l : List It} {A : Option Addr} {c : Nat} (hr : RdC I [] A (itCs l)) :
    Fn Tryd.prog 14 #[.slice A l.length c] I [] (fun v h' => v = showV l ∧ h' = []) := by
  refine r_octroiref23_Show _ _ _ ?_
  refine h_ite (fun t0 => ?_) (fun t0 => ?_)
  · refine h_end0 ⟨?_, rfl⟩
    unfold showV showP
    rw [if_pos (by simp at t0; omega)]
    rfl
  have h0 : l.length ≤ 1000 := by simp at t0; omega
  refine h_stop fun hl2 => ?_
  exact rshow_loop h0 l.length 0 _ _ (by omega) hr rfl
end Go.Proofs.YtcafalcmfdnojaaDoorS
