import Derived.Test.YtcafalcmfdnojaaDoorN3
set_option linter.unusedVariables false
namespace Go.Proofs.YtcafalcmfdnojaaDoorS
theorem ok_get {x : It} (h : okNs x = true) {n : Int} (hn : n ∈ x.ns.take (numI x.k)) : 0 ≤ n ∧ n ≤ 1000000000 := by
  have hle := numI_le x.k
  unfold okNs okN at h
  unfold It.ns at hn
  generalize numI x.k = m at *
  match m, hle with
  | 0, _ => simp at hn
  | 1, _ => simp at h hn; omega
  | 2, _ => simp at h hn; omega
  | 3, _ => simp at h hn; omega
theorem may_ok {x : It} (h : may x = true) : okNs x = true := by unfold may at h; rw [Bool.and_eq_true] at h; exact h.2
theorem may_num {x : It} (h : may x = true) : numI x.k ≠ 0 := by unfold may at h; rw [Bool.and_eq_true] at h; simpa using h.1
theorem may_kind {x : It} (h : may x = true) : 0 ≤ x.k ∧ x.k ≤ 8 := numI_pos (may_num h)
theorem may_rng {x : It} (h : may x = true) : (0 ≤ x.k ∧ x.k ≤ 8) ∧ (0 ≤ x.a ∧ x.a ≤ 1000000000) ∧ (0 ≤ x.b ∧ x.b ≤ 1000000000) ∧ (0 ≤ x.c ∧ x.c ≤ 1000000000) := by
  refine ⟨may_kind h, ?_⟩
  have h1 := may_ok h
  unfold okNs okN at h1
  simp only [Bool.and_eq_true] at h1
  obtain ⟨h2, h3, h4⟩ := h1
  refine ⟨?_, ?_, ?_⟩
  · split at h2 <;> simp at h2 <;> omega
  · split at h3 <;> simp at h3 <;> omega
  · split at h4 <;> simp at h4 <;> omega
theorem wds_no {x : It} (h : okNs x = true) : ∀ y ∈ wds x, 32 ∉ y ∧ 10 ∉ y := by
  intro y hy
  obtain ⟨n, hn, rfl⟩ := List.mem_map.1 hy
  exact itoa_no (ok_get h hn)
theorem wds_len (x : It) : (wds x).length = numI x.k := by
  have := numI_le x.k
  unfold wds It.ns
  rw [List.length_map, List.length_take]
  simp
  omega
theorem bare_spl {x : It} (h : okNs x = true) : spl 32 (bare x) = wordI x.k :: wds x := spl_join (wordI_facts x.k).2.1 fun y hy => (wds_no h y hy).1
theorem bare_no {x : It} (h : okNs x = true) : 10 ∉ bare x := by
  unfold bare
  rw [Lib.join_cons]
  intro hm
  rcases List.mem_append.1 hm with hm | hm
  · exact (wordI_facts x.k).2.2.1 hm
  · unfold Lib.joinTail at hm
    obtain ⟨y, hy, hm⟩ := List.mem_flatten.1 hm
    obtain ⟨z, hz, rfl⟩ := List.mem_map.1 hy
    rcases List.mem_append.1 hm with hm | hm
    · simp at hm
    · exact (wds_no h z hz).2 hm
theorem lens_le {r : List (List UInt8)} (h : ∀ y ∈ r, y.length ≤ 10) : Lib.lens r ≤ 10 * r.length := by
  induction r with
  | nil => simp [Lib.lens]
  | cons y r ih =>
    have h1 := ih fun z hz => h z (List.mem_cons_of_mem _ hz)
    have h2 := h y List.mem_cons_self
    unfold Lib.lens at h1 ⊢
    simp only [List.map_cons, List.sum_cons, List.length_cons]
    omega
theorem bare_len {x : It} (h : okNs x = true) : (bare x).length ≤ 40 := by
  unfold bare
  rw [Lib.join_cons, List.length_append, Lib.joinTail_length, wds_len]
  have h1 := (wordI_facts x.k).1
  have h2 := lens_le (r := wds x) fun y hy => by
    obtain ⟨n, hn, rfl⟩ := List.mem_map.1 hy
    exact itoa_len (ok_get h hn)
  have h3 := numI_le x.k
  rw [wds_len] at h2
  simp
  omega
theorem itoa_inj {n m : Int} (h : 0 ≤ n ∧ n ≤ 1000000000) (h2 : 0 ≤ m ∧ m ≤ 1000000000) (he : Lib.itoa n = Lib.itoa m) : n = m := by
  have h3 := atoi_itoa h
  rw [he, atoi_itoa h2] at h3
  injection h3 with h3
  exact h3.symm
theorem lineL_inj {x y : It} (hx : may x = true) (hy : may y = true) (h : lineL x = lineL y) : x = y := by
  have hb : bare x = bare y := List.append_cancel_right h
  have hs := bare_spl (may_ok hx)
  rw [hb, bare_spl (may_ok hy)] at hs
  injection hs with h1 h2
  have hk := wordI_inj (may_num hy) (may_num hx) h1
  obtain ⟨_, r1, r2, r3⟩ := may_rng hx
  obtain ⟨_, s1, s2, s3⟩ := may_rng hy
  have o1 := may_ok hx
  have o2 := may_ok hy
  have hn := may_num hx
  unfold wds It.ns at h2
  unfold okNs okN at o1 o2
  rw [hk] at h2 o2
  have hle := numI_le x.k
  generalize numI x.k = m at *
  match m, hle with
  | 0, _ => exact absurd rfl hn
  | 1, _ =>
    simp at h2 o1 o2
    exact It.ext hk.symm (itoa_inj s1 r1 h2).symm (by omega) (by omega)
  | 2, _ =>
    simp at h2 o1 o2
    exact It.ext hk.symm (itoa_inj s1 r1 h2.1).symm (itoa_inj s2 r2 h2.2).symm (by omega)
  | 3, _ =>
    simp at h2 o1 o2
    exact It.ext hk.symm (itoa_inj s1 r1 h2.1).symm (itoa_inj s2 r2 h2.2.1).symm (itoa_inj s3 r3 h2.2.2).symm
/-- The item of a line. -/
noncomputable def readP (s : List UInt8) : Option It := open Classical in if h : ∃ x, may x = true ∧ lineL x = s then some h.choose else none
theorem readP_line {x : It} (h : may x = true) : readP (lineL x) = some x := by
  unfold readP
  have hx : ∃ y, may y = true ∧ lineL y = lineL x := ⟨x, h, rfl⟩
  rw [dif_pos hx]
  congr 1
  exact lineL_inj hx.choose_spec.1 h hx.choose_spec.2
theorem readP_out {s : List UInt8} {x : It} (h : readP s = some x) : may x = true ∧ lineL x = s := by
  unfold readP at h
  split at h
  · rename_i hx
    injection h with h
    subst h
    exact hx.choose_spec
  · cases h
theorem readP_none {s : List UInt8} (h : ∀ x, may x = true → lineL x ≠ s) : readP s = none := by
  cases hr : readP s with
  | none => rfl
  | some x => exact absurd (readP_out hr).2 (h x (readP_out hr).1)
noncomputable def readAll : List (List UInt8) → Option (List It)
  | [] => some []
  | l :: r => match readP l with | none => none | some x => (readAll r).map (x :: ·)
/-- The lines of a text, each with its end. -/
def linesL : List UInt8 → List (List UInt8)
  | [] => []
  | c :: r => if c = 10 then [10] :: linesL r else match linesL r with | [] => [[c]] | w :: ws => (c :: w) :: ws
theorem lines_line {r : List UInt8} : ∀ {x : List UInt8}, 10 ∉ x → linesL (x ++ 10 :: r) = (x ++ [10]) :: linesL r
  | [], _ => by simp [linesL]
  | c :: x, h => by
    rw [List.mem_cons, not_or] at h
    rw [List.cons_append]
    simp only [linesL, if_neg (fun e : c = 10 => h.1 e.symm), lines_line h.2]
    rfl
theorem lines_one : ∀ {x : List UInt8}, x ≠ [] → 10 ∉ x → linesL x = [x]
  | [], h, _ => absurd rfl h
  | [c], _, h => by
    rw [List.mem_singleton] at h
    simp only [linesL, if_neg (fun e : c = 10 => h e.symm)]
  | c :: d :: x, _, h => by
    rw [List.mem_cons, not_or] at h
    have ih := lines_one (x := d :: x) (by simp) h.2
    rw [linesL, if_neg (fun e : c = 10 => h.1 e.symm), ih]
theorem lines_flat : ∀ s : List UInt8, (linesL s).flatten = s
  | [] => rfl
  | c :: r => by
    have ih := lines_flat r
    simp only [linesL]
    split
    · rename_i h; subst h; simp [ih]
    · cases hl : linesL r with
      | nil => rw [hl] at ih; simp at ih; simp [ih]
      | cons w ws => rw [hl] at ih; simp at ih; simp [ih]
theorem lines_all {l : List It} (h : l.all may = true) (r : List UInt8) : linesL (l.flatMap lineL ++ r) = l.map lineL ++ linesL r := by
  induction l with
  | nil => rfl
  | cons x l ih =>
    rw [List.all_cons, Bool.and_eq_true] at h
    rw [List.flatMap_cons, List.append_assoc, List.map_cons, List.cons_append, ← ih h.2]
    show linesL ((bare x ++ [10]) ++ _) = _
    rw [List.append_assoc]
    exact lines_line (bare_no (may_ok h.1))
theorem readAll_map {l : List It} (h : l.all may = true) : readAll (l.map lineL) = some l := by
  induction l with
  | nil => rfl
  | cons x l ih =>
    rw [List.all_cons, Bool.and_eq_true] at h
    rw [List.map_cons, readAll, readP_line h.1, ih h.2]
    rfl
theorem readAll_out : ∀ {ls : List (List UInt8)} {l : List It}, readAll ls = some l → l.all may = true ∧ l.map lineL = ls
  | [], l, h => by
    simp only [readAll] at h
    injection h with h
    subst h
    exact ⟨rfl, rfl⟩
  | s :: r, l, h => by
    simp only [readAll] at h
    cases hr : readP s with
    | none => rw [hr] at h; cases h
    | some x =>
      rw [hr] at h
      simp only at h
      cases ha : readAll r with
      | none => rw [ha] at h; cases h
      | some m =>
        rw [ha] at h
        simp only [Option.map_some] at h
        injection h with h
        subst h
        obtain ⟨h1, h2⟩ := readAll_out ha
        obtain ⟨h3, h4⟩ := readP_out hr
        exact ⟨by rw [List.all_cons, h3, h1]; rfl, by rw [List.map_cons, h4, h2]⟩
theorem line_count {x : It} (h : may x = true) : (lineL x).count 10 = 1 := by
  unfold lineL
  rw [List.count_append, List.count_eq_zero_of_not_mem (bare_no (may_ok h))]
  rfl
theorem all_count {l : List It} (h : l.all may = true) : (l.flatMap lineL).count 10 = l.length := by
  induction l with
  | nil => rfl
  | cons x l ih =>
    rw [List.all_cons, Bool.and_eq_true] at h
    rw [List.flatMap_cons, List.count_append, line_count h.1, ih h.2, List.length_cons]
    omega
noncomputable def parseP (s : List UInt8) : List It × Int := if 1000 < s.count 10 then ([], 9) else match readAll (linesL s) with | none => ([], 2) | some l => (l, 0)
def showP (l : List It) : List UInt8 × Int := if 1000 < l.length then ([], 9) else if l.all may = true then (l.flatMap lineL, 0) else ([], 1)
theorem parse_show {l : List It} (h : l.all may = true) (hl : l.length ≤ 1000) : parseP (l.flatMap lineL) = (l, 0) := by
  unfold parseP
  have h1 := lines_all h []
  rw [List.append_nil, show linesL [] = [] from rfl, List.append_nil] at h1
  rw [all_count h, if_neg (by omega), h1, readAll_map h]
theorem parse_out {s : List UInt8} {l : List It} (h : parseP s = (l, 0)) : l.all may = true ∧ l.length ≤ 1000 ∧ l.flatMap lineL = s := by
  unfold parseP at h
  split at h
  · injection h with h1 h2; cases h2
  · rename_i hc
    split at h
    · injection h with h1 h2; cases h2
    · rename_i m hm
      injection h with h1 h2
      subst h1
      obtain ⟨h3, h4⟩ := readAll_out hm
      have h5 : m.flatMap lineL = s := by
        have := lines_flat s
        rw [← h4] at this
        rw [← this, List.flatMap_def]
      exact ⟨h3, by rw [← all_count h3, h5]; omega, h5⟩
theorem parse_err {s : List UInt8} {l : List It} {e : Int} (h : parseP s = (l, e)) (he : e ≠ 0) : l = [] := by
  unfold parseP at h
  split at h
  · injection h with h1 h2; exact h1.symm
  · split at h
    · injection h with h1 h2; exact h1.symm
    · injection h with h1 h2; exact absurd h2.symm he
theorem show_ok {l : List It} {t : List UInt8} (h : showP l = (t, 0)) : l.all may = true ∧ l.length ≤ 1000 ∧ t = l.flatMap lineL := by
  unfold showP at h
  split at h
  · injection h with h1 h2; cases h2
  · split at h
    · rename_i h3 h4
      injection h with h1 h2
      exact ⟨h4, by omega, h1.symm⟩
    · injection h with h1 h2; cases h2
theorem show_err {l : List It} {t : List UInt8} {e : Int} (h : showP l = (t, e)) (he : e ≠ 0) : t = [] := by
  unfold showP at h
  split at h
  · injection h with h1 h2; exact h1.symm
  · split at h
    · injection h with h1 h2; exact absurd h2.symm he
    · injection h with h1 h2; exact h1.symm
theorem law_back1 {l : List It} {t : List UInt8} (h : showP l = (t, 0)) : parseP t = (l, 0) := by
  obtain ⟨h1, h2, rfl⟩ := show_ok h
  exact parse_show h1 h2
theorem law_back2 {s : List UInt8} {m : List It} (h : parseP s = (m, 0)) : showP m = (s, 0) := by
  obtain ⟨h1, h2, h3⟩ := parse_out h
  unfold showP
  rw [if_neg (by omega), if_pos h1, h3]
theorem law_joins {s t : List UInt8} {x y : List It} (hx : parseP s = (x, 0)) (hy : parseP t = (y, 0)) (hl : x.length + y.length ≤ 1000) : parseP (s ++ t) = (x ++ y, 0) := by
  obtain ⟨h1, _, h3⟩ := parse_out hx
  obtain ⟨h4, _, h6⟩ := parse_out hy
  have : s ++ t = (x ++ y).flatMap lineL := by rw [List.flatMap_append, h3, h6]
  rw [this]
  exact parse_show (by rw [List.all_append, h1, h4]; rfl) (by rw [List.length_append]; exact hl)
theorem tail_count : ∀ {r : List (List UInt8)}, (∀ y ∈ r, 32 ∉ y) → (Lib.joinTail [32] r).count 32 = r.length
  | [], _ => rfl
  | y :: r, h => by
    have e : Lib.joinTail [32] (y :: r) = 32 :: (y ++ Lib.joinTail [32] r) := by simp [Lib.joinTail]
    rw [e, List.count_cons_self, List.count_append, tail_count fun z hz => h z (List.mem_cons_of_mem _ hz), List.count_eq_zero_of_not_mem (h y List.mem_cons_self), List.length_cons]
    omega
theorem line_blanks {x : It} (h : may x = true) : (lineL x).count 32 = numI x.k := by
  unfold lineL bare
  rw [Lib.join_cons, List.count_append, List.count_append, List.count_eq_zero_of_not_mem (wordI_facts x.k).2.1, tail_count fun y hy => (wds_no (may_ok h) y hy).1, wds_len]
  simp
theorem law_lines {l : List It} {t : List UInt8} (h : showP l = (t, 0)) : t.count 10 = l.length ∧ t.count 32 = (l.map fun x => numI x.k).sum := by
  obtain ⟨h1, _, rfl⟩ := show_ok h
  refine ⟨all_count h1, ?_⟩
  clear h
  induction l with
  | nil => rfl
  | cons x l ih =>
    rw [List.all_cons, Bool.and_eq_true] at h1
    rw [List.flatMap_cons, List.count_append, line_blanks h1.1, ih h1.2 (by simp at *; omega), List.map_cons, List.sum_cons]
/-! The chapter's examples. -/
theorem itoa_dec (n : Nat) : Lib.itoa (OfNat.ofNat n) = Lib.decDigits n := itoa_nat n
theorem law_awake1 : showP [⟨0, 3, 30, 0⟩, ⟨6, 1, 0, 5⟩] = ([116, 105, 99, 107, 32, 51, 32, 51, 48, 10, 111, 119, 110, 32, 49, 32, 48, 32, 53, 10], 0) := by
  have e1 : Lib.itoa 3 = [51] := by rw [show (3 : Int) = ((3 : Nat) : Int) from rfl, itoa_nat, Lib.decDigits_one (by decide)]; rfl
  have e2 : Lib.itoa 30 = [51, 48] := by rw [show (30 : Int) = ((30 : Nat) : Int) from rfl, itoa_nat, Lib.decDigits_two (by decide) (by decide)]; rfl
  have e3 : Lib.itoa 1 = [49] := by rw [show (1 : Int) = ((1 : Nat) : Int) from rfl, itoa_nat, Lib.decDigits_one (by decide)]; rfl
  have e4 : Lib.itoa 0 = [48] := by rw [show (0 : Int) = ((0 : Nat) : Int) from rfl, itoa_nat, Lib.decDigits_one (by decide)]; rfl
  have e5 : Lib.itoa 5 = [53] := by rw [show (5 : Int) = ((5 : Nat) : Int) from rfl, itoa_nat, Lib.decDigits_one (by decide)]; rfl
  have w1 : wds ⟨0, 3, 30, 0⟩ = [[51], [51, 48]] := by show [Lib.itoa 3, Lib.itoa 30] = _; rw [e1, e2]
  have w2 : wds ⟨6, 1, 0, 5⟩ = [[49], [48], [53]] := by show [Lib.itoa 1, Lib.itoa 0, Lib.itoa 5] = _; rw [e3, e4, e5]
  have l1 : lineL ⟨0, 3, 30, 0⟩ = [116, 105, 99, 107, 32, 51, 32, 51, 48, 10] := by unfold lineL bare; rw [w1, Lib.join_cons]; rfl
  have l2 : lineL ⟨6, 1, 0, 5⟩ = [111, 119, 110, 32, 49, 32, 48, 32, 53, 10] := by unfold lineL bare; rw [w2, Lib.join_cons]; rfl
  unfold showP
  rw [if_neg (by decide), if_pos (by decide), List.flatMap_cons, List.flatMap_cons, l1, l2]
  rfl
theorem law_awake2 : parseP [116, 105, 99, 107, 32, 51, 10] = ([], 2) := by
  have h : readP [116, 105, 99, 107, 32, 51, 10] = none := readP_none fun x hx he => by
    have h1 : bare x ++ [10] = [116, 105, 99, 107, 32, 51] ++ [10] := he
    have h2 := List.append_cancel_right h1
    have h3 := bare_spl (may_ok hx)
    rw [h2, show spl 32 [116, 105, 99, 107, 32, 51] = [word 0, [51]] from by decide] at h3
    injection h3 with h4 h5
    have h6 := wordI_inj (k := x.k) (j := 0) (may_num hx) (by decide) (by rw [← h4]; rfl)
    have h7 := congrArg List.length h5
    rw [wds_len, h6] at h7
    revert h7
    decide
  unfold parseP
  rw [if_neg (by decide), show linesL [116, 105, 99, 107, 32, 51, 10] = [[116, 105, 99, 107, 32, 51, 10]] from by decide, readAll, h]
end Go.Proofs.YtcafalcmfdnojaaDoorS
