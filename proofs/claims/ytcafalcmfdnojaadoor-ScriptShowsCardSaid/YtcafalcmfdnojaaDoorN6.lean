import Derived.Test.YtcafalcmfdnojaaDoorN5
import Derived.Test.YtcafalcmfdnojaaDoorTA
set_option linter.unusedVariables false
set_option maxRecDepth 20000
namespace Go.Proofs.YtcafalcmfdnojaaDoorS
abbrev strs (xs : List (List UInt8)) : List Value := xs.map fun x => .string (bS x)
abbrev OwnS (A : Option Addr) (n c : Nat) (xs : List (List UInt8)) (m : Mem) : Prop := Own 9 1 A n c (strs xs) m
abbrev ints (l : List Int) : List Value := l.map fun x => .int .i64 x
def itC (x : It) : List Value := [.int .i64 x.k, .int .i64 x.a, .int .i64 x.b, .int .i64 x.c]
def itCs (l : List It) : List Value := l.flatMap itC
abbrev OwnT (A : Option Addr) (n c : Nat) (l : List It) (m : Mem) : Prop := Own 35 4 A n c (itCs l) m
theorem itCs_len (l : List It) : (itCs l).length = l.length * 4 := by
  induction l with
  | nil => rfl
  | cons x l ih => unfold itCs at ih ⊢; rw [List.flatMap_cons, List.length_append, ih, List.length_cons]; simp [itC]; omega
theorem itCs_append (l m : List It) : itCs (l ++ m) = itCs l ++ itCs m := List.flatMap_append
theorem itCs_get : ∀ {l : List It} {i : Nat} {x : It}, l[i]? = some x → ∀ q v, (itC x)[q]? = some v → (itCs l)[i * 4 + q]? = some v
  | [], i, x, h, _, _, _ => by simp at h
  | y :: l, 0, x, h, q, v, hq => by
    simp at h; subst h
    unfold itCs
    rw [List.flatMap_cons, Nat.zero_mul, Nat.zero_add, List.getElem?_append_left (List.getElem?_eq_some_iff.1 hq).1]
    exact hq
  | y :: l, i + 1, x, h, q, v, hq => by
    have ih := itCs_get (by simpa using h) q v hq
    unfold itCs at ih ⊢
    rw [List.flatMap_cons, List.getElem?_append_right (by simp [itC]; omega)]
    rw [show (i + 1) * 4 + q - (itC y).length = i * 4 + q by simp [itC]; omega]
    exact ih
theorem itCs_plain (l : List It) : ∀ v ∈ itCs l, (∀ x, v ≠ .agg x) ∧ ∀ x, v ≠ .tuple x := by
  intro v hv
  obtain ⟨x, _, hx⟩ := List.mem_flatMap.1 hv
  simp [itC] at hx
  rcases hx with rfl | rfl | rfl | rfl <;> simp
section
variable {I : Ctx} {f : Ctl} {Q : Value → Mem → Prop} {h : Mem}
theorem h_itemAt {A : Option Addr} {n c : Nat} {x : Int} {l : List It} {it : It} {k : (Nat → Leaf) → (Nat → Leaf) → Tr} (i : Nat) (hr : RdC I h A (itCs l)) (hi : l[i]? = some it) (hn : l.length = n) (hx : x = (i : Int))
    (hk : ∀ l1, holds Tryd.prog f I Q (k l1 (getL [{ i := it.k }, { i := it.a }, { i := it.b }, { i := it.c }])) h) :
    holds Tryd.prog f I Q (.rd (Instr.indexAt 23 (.slice A n c) (.int .i64 x)) shPadr fun l1 => .rd (Instr.loadAt 35 (.pointer (some ((l1 0).a)))) (.one (.agg [.int .i64, .int .i64, .int .i64, .int .i64])) fun l2 => k l1 l2) h := by
  subst hx
  have hlt := (List.getElem?_eq_some_iff.1 hi).1
  obtain ⟨a, rfl, hc⟩ := hr (fun e => by have := itCs_len l; rw [e] at this; simp at this; omega)
  refine h_index (e := 35) (sz := 4) a (by kernel_rfl) (by kernel_rfl) (by omega) (by omega) rfl ?_
  dsimp only
  refine h_loadA (cs := itC it) (getL [{ i := it.k }, { i := it.a }, { i := it.b }, { i := it.c }]) (by kernel_rfl) (by kernel_rfl) ?_ rfl (hk _)
  rw [Int.toNat_natCast]
  exact hc.at (i * 4) (itCs_get hi)
theorem h_strAt {A : Option Addr} {n c : Nat} {x : Int} {l : List (List UInt8)} {s : List UInt8} {k : (Nat → Leaf) → (Nat → Leaf) → Tr} (i : Nat) (hr : RdC I h A (strs l)) (hi : l[i]? = some s) (hn : l.length = n) (hx : x = (i : Int))
    (hk : ∀ l1, holds Tryd.prog f I Q (k l1 fun _ => { s := bS s }) h) :
    holds Tryd.prog f I Q (.rd (Instr.indexAt 45 (.slice A n c) (.int .i64 x)) shPadr fun l1 => .rd (Instr.loadAt 9 (.pointer (some ((l1 0).a)))) (.one (.sc (.str))) fun l2 => k l1 l2) h := by
  subst hx
  have hlt := (List.getElem?_eq_some_iff.1 hi).1
  obtain ⟨a, rfl, hc⟩ := hr (fun e => by have := congrArg List.length e; simp at this; rw [this] at hlt; simp at hlt)
  refine h_index (e := 9) (sz := 1) a (by kernel_rfl) (by kernel_rfl) (by omega) (by omega) rfl ?_
  dsimp only
  refine h_loadS (x := bS s) (by kernel_rfl) ?_ (hk _)
  rw [Int.toNat_natCast, Nat.mul_one]
  exact hc i _ (by simp [hi])
theorem h_intAt {A : Option Addr} {n c : Nat} {x v : Int} {l : List Int} {k : (Nat → Leaf) → (Nat → Leaf) → Tr} (i : Nat) (hr : RdC I h A (ints l)) (hi : l[i]? = some v) (hn : l.length = n) (hx : x = (i : Int))
    (hk : ∀ l1, holds Tryd.prog f I Q (k l1 fun _ => { i := v }) h) :
    holds Tryd.prog f I Q (.rd (Instr.indexAt 73 (.slice A n c) (.int .i64 x)) shPadr fun l1 => .rd (Instr.loadAt 3 (.pointer (some ((l1 0).a)))) (.one (.sc (.int .i64))) fun l2 => k l1 l2) h := by
  subst hx
  have hlt := (List.getElem?_eq_some_iff.1 hi).1
  obtain ⟨a, rfl, hc⟩ := hr (fun e => by have := congrArg List.length e; simp at this; rw [this] at hlt; simp at hlt)
  refine h_index (e := 3) (sz := 1) a (by kernel_rfl) (by kernel_rfl) (by omega) (by omega) rfl ?_
  dsimp only
  refine h_loadI (x := v) (by kernel_rfl) ?_ (hk _)
  rw [Int.toNat_natCast, Nat.mul_one]
  exact hc i _ (by simp [hi])
end
/-! The reference's words. -/
def glue (w : List UInt8) : List (List UInt8) → List (List UInt8)
  | [] => []
  | x :: xs => (w ++ x) :: xs
theorem glue_nil (l : List (List UInt8)) : glue [] l = l := by cases l <;> rfl
theorem words_loop {I : Ctx} {s : List UInt8} (hs : s.length ≤ 100000) : ∀ (q i : Nat) (w : List UInt8) (acc : List (List UInt8)) (A : Option Addr) (c : Nat) (u : Nat → Value) (h m hr' : Mem), i + q = s.length → w.length ≤ i → acc.length ≤ i →
    OwnS A acc.length c acc m → Pick h m hr' →
    Wp Tryd.prog 39 k_octroiref23_words_1 (t_octroiref23_words_1 (bS s) A acc.length c (bS w) (i : Nat) u) I h (cl_ fun v h' => ∃ A c, v = .slice A (acc ++ glue w (spl 32 (s.drop i))).length c ∧ OwnS A (acc ++ glue w (spl 32 (s.drop i))).length c (acc ++ glue w (spl 32 (s.drop i))) h') := by
  intro q
  induction q with
  | zero =>
    intro i w acc A c u h m hr' hq hw ha ho hp
    refine r_octroiref23_words_1 _ _ _ _ _ _ _ ?_
    refine holds_perm (cl_.aff _) hp ?_
    refine h_no (by rw [bS_size]; simp; omega) ?_
    rw [List.drop_eq_nil_of_le (by omega), show spl 32 [] = [[]] from rfl, show glue w [[]] = [w] by simp [glue]]
    refine h_row (e := 9) #[.string (bS w)] (by kernel_rfl) fun g2 hg2 hI2 => ?_
    dsimp only
    refine h_append (cl_.aff _) eb_string (by kernel_rfl) (cs2 := strs [w]) (fun _ => ⟨_, rfl, cellsM' (by repeat (first | exact mq0 | apply mq1 | apply mq2)) rfl⟩) (by simp) rfl (by simp) (m := m) (by repeat (first | exact Pick.here | exact Pick.one | exact Pick.all | apply Pick.two | apply Pick.cons | apply Pick.app)) ho (by omega) (by omega) ?_
    intro A' c' m' ho'
    dsimp only
    rw [show strs acc ++ strs [w] = strs (acc ++ [w]) by simp [strs]] at ho'
    refine h_end (h1 := m') (List.Perm.refl _) ⟨A', c', ?_, ?_⟩
    · rw [List.length_append]; rfl
    · rw [List.length_append]; exact ho'
  | succ q ih =>
    intro i w acc A c u h m hr' hq hw ha ho hp
    have hi : i < s.length := by omega
    have hb : s[i]? = some s[i] := List.getElem?_eq_getElem hi
    have hd : s.drop i = s[i] :: s.drop (i + 1) := List.drop_eq_getElem_cons hi
    refine r_octroiref23_words_1 _ _ _ _ _ _ _ ?_
    refine holds_perm (cl_.aff _) hp ?_
    refine h_yes (by rw [bS_size]; simp; omega) ?_
    refine h_byteS i hb rfl (by kernel_rfl) ?_
    dsimp only
    refine h_ite (fun t0 => ?_) (fun t0 => ?_)
    · have e : s[i] = 32 := UInt8.toNat_inj.1 (by simp at t0; show s[i].toNat = 32; omega)
      have hsp : acc ++ glue w (spl 32 (s.drop i)) = (acc ++ [w]) ++ glue [] (spl 32 (s.drop (i + 1))) := by
        rw [hd, e, glue_nil]
        simp [spl, glue]
      rw [hsp]
      refine h_row (e := 9) #[.string (bS w)] (by kernel_rfl) fun g2 hg2 hI2 => ?_
      dsimp only
      refine h_append (cl_.aff _) eb_string (by kernel_rfl) (cs2 := strs [w]) (fun _ => ⟨_, rfl, cellsM' (by repeat (first | exact mq0 | apply mq1 | apply mq2)) rfl⟩) (by simp) rfl (by simp) (m := m) (by repeat (first | exact Pick.here | exact Pick.one | exact Pick.all | apply Pick.two | apply Pick.cons | apply Pick.app)) ho (by omega) (by omega) ?_
      intro A' c' m' ho'
      dsimp only
      rw [show strs acc ++ strs [w] = strs (acc ++ [w]) by simp [strs]] at ho'
      refine h_stop fun hl2 => ?_
      rw [wrapS (by omega)]
      have hlen : acc.length + 1 = (acc ++ [w]).length := by simp
      rw [hlen] at ho' ⊢
      exact ih (i + 1) [] (acc ++ [w]) A' c' _ _ m' _ (by omega) (by simp) (by simp; omega) ho' (by repeat (first | exact Pick.here | exact Pick.one | exact Pick.all | apply Pick.two | apply Pick.cons | apply Pick.app))
    · have e : s[i] ≠ 32 := fun e => by rw [e] at t0; simp at t0
      have hsp : glue w (spl 32 (s.drop i)) = glue (w ++ [s[i]]) (spl 32 (s.drop (i + 1))) := by
        rw [hd]
        simp only [spl, if_neg e]
        cases hc : spl 32 (s.drop (i + 1)) with
        | nil => exact absurd hc (spl_ne _ _)
        | cons x xs => simp [glue]
      rw [hsp]
      refine h_byteS i hb rfl (by kernel_rfl) ?_
      dsimp only
      refine h_row (e := 5) #[.int .u8 (s[i].toNat : Int)] (by kernel_rfl) fun g2 hg2 hI2 => ?_
      dsimp only
      refine h_toString (e := 5) (l := [s[i]]) (by kernel_rfl) (by kernel_rfl) (by kernel_rfl) rfl (fun _ => ⟨_, rfl, cellsM' (by repeat (first | exact mq0 | apply mq1 | apply mq2)) rfl⟩) (by simp) ?_
      dsimp only
      refine h_addS (by simp; omega) ?_
      dsimp only
      refine h_stop fun hl2 => ?_
      rw [wrapS (by omega)]
      exact ih (i + 1) (w ++ [s[i]]) acc A c _ _ m _ (by omega) (by simp; omega) (by omega) ho (by repeat (first | exact Pick.here | exact Pick.one | exact Pick.all | apply Pick.two | apply Pick.cons | apply Pick.app))
theorem words_spec {I : Ctx} {s : List UInt8} (hs : s.length ≤ 100000) :
    Fn Tryd.prog 39 #[.string (bS s)] I [] (fun v h' => ∃ A c, v = .slice A (spl 32 s).length c ∧ OwnS A (spl 32 s).length c (spl 32 s) h') := by
  refine r_octroiref23_words _ ?_
  refine h_stop fun hl2 => ?_
  refine (words_loop hs s.length 0 [] [] none 0 _ _ [] _ (by omega) (by simp) (by simp) (Own.nil _ _) (by repeat (first | exact Pick.here | exact Pick.one | exact Pick.all | apply Pick.two | apply Pick.cons | apply Pick.app))).mono ?_
  intro v h' hq
  rw [List.drop_zero, glue_nil, List.nil_append] at hq
  exact hq
/-! The reference's May. -/
theorem rnums_spec {I : Ctx} {x : It} : Fn Tryd.prog 44 #[.agg #[.int .i64 x.k, .int .i64 x.a, .int .i64 x.b, .int .i64 x.c]] I [] (fun v h' => ∃ g, v = .slice (some ⟨g, 0, none⟩) 3 3 ∧ h' = [(g, .cells ⟨ints x.ns⟩ 3 (0, 0))]) := by
  refine r_octroiref23_numbers _ _ _ _ ?_
  (repeat ((first | refine h_box fun _ _ _ => ?_ | ((with_reducible show holds _ _ _ _ (.rd (Instr.loadAt _ (.pointer _)) _ _) _); first | refine ldI (by repeat (first | exact mq0 | apply mq1 | apply mq2)) (by rfl) (by kernel_rfl) ?_ | refine la0 (by repeat (first | exact mq0 | apply mq1 | apply mq2)) (by rfl) (by kernel_rfl) ?_)); try dsimp only [getL]))
  refine h_row (e := 3) ⟨ints x.ns⟩ (by kernel_rfl) fun g2 hg2 hI2 => ?_
  dsimp only
  exact h_end (h1 := [_]) (List.Perm.refl _) ⟨g2, rfl, rfl⟩
def okFrom (m : Nat) : Nat → List Int → Bool
  | _, [] => true
  | i, n :: r => okN m i n && okFrom m (i + 1) r
theorem okFrom_all (x : It) : okFrom (numI x.k) 0 x.ns = okNs x := by simp [okFrom, okNs, It.ns]
theorem may_loop {I : Ctx} {x : It} {m g : Nat} (hm : m ≤ 3) : ∀ (q i : Nat) (u : Nat → Value) (h : Mem), i + q = 3 → RdC I h (some ⟨g, 0, none⟩) (ints x.ns) →
    Wp Tryd.prog 26 k_octroiref23_May_1 (t_octroiref23_May_1 (m : Nat) (some ⟨g, 0, none⟩) 3 3 (i : Nat) u) I h (cl_ fun v h' => v = .bool (okFrom m i (x.ns.drop i)) ∧ h' = []) := by
  intro q
  induction q with
  | zero =>
    intro i u h hq hr
    obtain rfl : i = 3 := by omega
    refine r_octroiref23_May_1 _ _ _ _ _ _ ?_
    refine h_no (by decide) ?_
    exact h_end0 ⟨rfl, rfl⟩
  | succ q ih =>
    intro i u h hq hr
    have hi : i < x.ns.length := by show i < 3; omega
    have hb : x.ns[i]? = some x.ns[i] := List.getElem?_eq_getElem hi
    have hd : x.ns.drop i = x.ns[i] :: x.ns.drop (i + 1) := List.drop_eq_getElem_cons hi
    rw [hd, okFrom]
    generalize x.ns[i] = n at *
    refine r_octroiref23_May_1 _ _ _ _ _ _ ?_
    refine h_yes (by simp; omega) ?_
    refine h_ite (fun t0 => ?_) (fun t0 => ?_)
    · have h0 : i < m := by simpa using t0
      refine h_intAt i hr hb rfl rfl fun _ => ?_
      refine h_ite (fun t1 => ?_) (fun t1 => ?_)
      · refine h_end0 ⟨?_, rfl⟩
        unfold okN
        rw [if_pos h0, decide_eq_false (by simp at t1; omega)]
        rfl
      refine h_intAt i hr hb rfl rfl fun _ => ?_
      refine h_ite (fun t2 => ?_) (fun t2 => ?_)
      · refine h_end0 ⟨?_, rfl⟩
        unfold okN
        rw [if_pos h0, decide_eq_false (by simp at t2; omega)]
        rfl
      refine h_no (by simp; omega) ?_
      refine h_stop fun hl2 => ?_
      have e : okN m i n = true := by
        unfold okN
        rw [if_pos h0]
        exact decide_eq_true (by simp at t1 t2; omega)
      rw [wrapS (by omega), e, Bool.true_and]
      exact ih (i + 1) _ _ (by omega) hr
    · have h0 : ¬ i < m := by simpa using t0
      refine h_yes (by simp; omega) ?_
      refine h_intAt i hr hb rfl rfl fun _ => ?_
      refine h_ite (fun t1 => ?_) (fun t1 => ?_)
      · refine h_end0 ⟨?_, rfl⟩
        unfold okN
        rw [if_neg h0, decide_eq_false (by simpa using t1)]
        rfl
      refine h_stop fun hl2 => ?_
      have e : okN m i n = true := by
        unfold okN
        rw [if_neg h0]
        exact decide_eq_true (by simpa using t1)
      rw [wrapS (by omega), e, Bool.true_and]
      exact ih (i + 1) _ _ (by omega) hr
theorem may_spec {I : Ctx} {x : It} : Fn Tryd.prog 26 #[.agg #[.int .i64 x.k, .int .i64 x.a, .int .i64 x.b, .int .i64 x.c]] I [] (fun v h' => v = .bool (may x) ∧ h' = []) := by
  refine r_octroiref23_May _ _ _ _ ?_
  (repeat ((first | refine h_box fun _ _ _ => ?_ | ((with_reducible show holds _ _ _ _ (.rd (Instr.loadAt _ (.pointer _)) _ _) _); first | refine ldI (by repeat (first | exact mq0 | apply mq1 | apply mq2)) (by rfl) (by kernel_rfl) ?_ | refine la0 (by repeat (first | exact mq0 | apply mq1 | apply mq2)) (by rfl) (by kernel_rfl) ?_)); try dsimp only [getL]))
  refine h_call0 (fun _ => { i := (numI x.k : Nat) }) ca_octroiref23_Numbers (fun hl => rnumbers_spec) rfl ?_
  dsimp only
  refine h_ite (fun t0 => ?_) (fun t0 => ?_)
  · refine h_end0 ⟨?_, rfl⟩
    unfold may
    rw [decide_eq_false (by simp at t0; simp [t0])]
    rfl
  have h0 : numI x.k ≠ 0 := by simp at t0; exact_mod_cast t0
  (repeat ((first | refine h_box fun _ _ _ => ?_ | ((with_reducible show holds _ _ _ _ (.rd (Instr.loadAt _ (.pointer _)) _ _) _); first | refine ldI (by repeat (first | exact mq0 | apply mq1 | apply mq2)) (by rfl) (by kernel_rfl) ?_ | refine la0 (by repeat (first | exact mq0 | apply mq1 | apply mq2)) (by rfl) (by kernel_rfl) ?_)); try dsimp only [getL]))
  refine h_call [] _ ca_octroiref23_numbers (List.Perm.refl _) (fun hl => rnums_spec) ?_
  rintro v m1 ⟨g, rfl, rfl⟩
  refine ⟨fun _ => { A := some ⟨g, 0, none⟩, n := 3, c := 3 }, rfl, ?_⟩
  refine h_stop fun hl2 => ?_
  refine (may_loop (numI_le _) 3 0 _ _ (by omega) (fun _ => ⟨_, rfl, cellsM' (by repeat (first | exact mq0 | apply mq1 | apply mq2)) rfl⟩)).mono ?_
  intro v h' hq
  unfold may
  rw [decide_eq_true h0, Bool.true_and, ← okFrom_all]
  exact hq
end Go.Proofs.YtcafalcmfdnojaaDoorS
