import Derived.Test.YtcafalcmfdnojaaDoorN9
set_option linter.unusedVariables false
set_option maxRecDepth 20000
namespace Go.Proofs.YtcafalcmfdnojaaDoorS
/-! Are two lists the same? -/
theorem it_ne {x y : It} : (!([x.k == y.k, x.a == y.a, x.b == y.b, x.c == y.c].all id)) = decide (x ≠ y) := by
  by_cases h : x = y
  · subst h; simp
  · rw [decide_eq_true h]
    simp only [List.all_cons, List.all_nil, id, Bool.and_true, Bool.not_eq_true', Bool.and_eq_false_iff, beq_eq_false_iff_ne]
    by_cases h1 : x.k = y.k
    · by_cases h2 : x.a = y.a
      · by_cases h3 : x.b = y.b
        · exact .inr (.inr (.inr fun h4 => h (It.ext h1 h2 h3 h4)))
        · exact .inr (.inr (.inl h3))
      · exact .inr (.inl h2)
    · exact .inl h1
theorem same_loop {I : Ctx} {l r : List It} {A B : Option Addr} {c d : Nat} (hlr : l.length = r.length) (hb : l.length ≤ 1000000) : ∀ (q i : Nat) (u : Nat → Value) (h : Mem), i + q = l.length → RdC I h A (itCs l) → RdC I h B (itCs r) → l.take i = r.take i →
    Wp Tryd.prog 11 k_octroiref23_Same_1 (t_octroiref23_Same_1 A l.length c B r.length d (i : Nat) u) I h (cl_ fun v h' => v = .bool (decide (l = r)) ∧ h' = []) := by
  intro q
  induction q with
  | zero =>
    intro i u h hq h1 h2 ht
    refine r_octroiref23_Same_1 _ _ _ _ _ _ _ _ ?_
    refine h_no (by simp; omega) ?_
    refine h_end0 ⟨?_, rfl⟩
    rw [List.take_of_length_le (by omega), List.take_of_length_le (by omega)] at ht
    rw [decide_eq_true ht]
  | succ q ih =>
    intro i u h hq h1 h2 ht
    have hi : i < l.length := by omega
    have e1 : l[i]? = some l[i] := List.getElem?_eq_getElem hi
    have e2 : r[i]? = some (r[i]'(by omega)) := List.getElem?_eq_getElem (by omega)
    generalize l[i] = x at *
    generalize r[i]'(by omega) = y at *
    refine r_octroiref23_Same_1 _ _ _ _ _ _ _ _ ?_
    refine h_yes (by simp; omega) ?_
    refine h_itemAt i h1 e1 rfl rfl fun _ => ?_
    dsimp only [getL]
    refine h_itemAt i h2 e2 rfl rfl fun _ => ?_
    dsimp only [getL]
    refine h_neqA [x.k == y.k, x.a == y.a, x.b == y.b, x.c == y.c] (by kernel_rfl) (by kernel_rfl) ?_
    rw [it_ne]
    refine h_ite (fun t0 => ?_) (fun t0 => ?_)
    · refine h_end0 ⟨?_, rfl⟩
      have h0 : x ≠ y := by simpa using t0
      rw [decide_eq_false]
      intro e
      subst e
      rw [e1] at e2
      injection e2 with e2
      exact h0 e2
    have h0 : x = y := by simpa using t0
    subst h0
    refine h_stop fun hl2 => ?_
    rw [wrapS (by omega)]
    exact ih (i + 1) _ _ (by omega) h1 h2 (by rw [List.take_add_one, List.take_add_one, ht, e1, e2])
theorem same_spec {I : Ctx} {l r : List It} {A B : Option Addr} {c d : Nat} (h1 : RdC I [] A (itCs l)) (h2 : RdC I [] B (itCs r)) (hb : l.length ≤ 1000000) :
    Fn Tryd.prog 11 #[.slice A l.length c, .slice B r.length d] I [] (fun v h' => v = .bool (decide (l = r)) ∧ h' = []) := by
  refine r_octroiref23_Same _ _ _ _ _ _ ?_
  refine h_ite (fun t0 => ?_) (fun t0 => ?_)
  · refine h_end0 ⟨?_, rfl⟩
    have h0 : l.length ≠ r.length := by simp at t0; omega
    rw [decide_eq_false (fun e => h0 (by rw [e]))]
  have h0 : l.length = r.length := by simp at t0; omega
  refine h_stop fun hl2 => ?_
  exact same_loop h0 hb l.length 0 _ _ (by omega) h1 h2 rfl
/-! The reference's read. -/
def ReadV (t : List UInt8) (v : Value) : Prop := ∃ x : It, (readP t = some x ∧ v = .tuple #[.agg ⟨itC x⟩, .bool true]) ∨ (readP t = none ∧ v = .tuple #[.agg ⟨itC x⟩, .bool false])
def zIt : It := ⟨0, 0, 0, 0⟩
theorem readV_none {t : List UInt8} {x : It} (h : ∀ x, may x = true → lineL x ≠ t) : ReadV t (.tuple #[.agg ⟨itC x⟩, .bool false]) := ⟨x, .inr ⟨readP_none h, rfl⟩⟩
theorem readV_of {t : List UInt8} {x : It} {b : Bool} (h1 : b = true → may x = true ∧ lineL x = t) (h2 : ∀ y, may y = true → lineL y = t → b = true) : ReadV t (.tuple #[.agg ⟨itC x⟩, .bool b]) := by
  cases b with
  | true => obtain ⟨h3, rfl⟩ := h1 rfl; exact ⟨x, .inl ⟨readP_line h3, rfl⟩⟩
  | false => exact readV_none fun y hy e => by have := h2 y hy e; cases this
/-- Numbers laid one behind the other. -/
def fill : Nat → List (List UInt8) → List Int → List Int
  | _, [], L => L
  | i, w :: r, L => fill (i + 1) r (L.set i (numR w))
theorem fill_len : ∀ (r : List (List UInt8)) (i : Nat) (L : List Int), (fill i r L).length = L.length
  | [], _, _ => rfl
  | w :: r, i, L => by rw [fill, fill_len r]; simp
theorem fill_wds {x : It} (h : okNs x = true) : fill 0 (wds x) [0, 0, 0] = x.ns := by
  have h1 := @ok_get x h
  unfold okNs okN at h
  unfold wds It.ns at *
  have hle := numI_le x.k
  generalize numI x.k = m at *
  match m, hle with
  | 0, _ => simp at h; simp [fill]; omega
  | 1, _ => simp at h h1; simp [fill, numR_itoa h1]; omega
  | 2, _ => simp at h h1; simp [fill, numR_itoa h1.1, numR_itoa h1.2]; omega
  | 3, _ => simp at h h1; simp [fill, numR_itoa h1.1, numR_itoa h1.2.1, numR_itoa h1.2.2]
theorem line_words {x : It} {s : List UInt8} (h : may x = true) (he : lineL x = s ++ [10]) : bare x = s ∧ spl 32 s = wordI x.k :: wds x := by
  have : bare x = s := List.append_cancel_right he
  exact ⟨this, by rw [← this]; exact bare_spl (may_ok h)⟩
def itOf (k : Int) (L : List Int) : It := ⟨k, L.getD 0 0, L.getD 1 0, L.getD 2 0⟩
theorem itOf_ns (x : It) : itOf x.k x.ns = x := rfl
end Go.Proofs.YtcafalcmfdnojaaDoorS
