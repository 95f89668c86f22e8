import Derived.Test.YtcafalcmfdnojaaDoorN7
import Derived.Test.YtcafalcmfdnojaaDoorSV
import Derived.Test.YtcafalcmfdnojaaDoorTA
set_option linter.unusedVariables false
set_option maxRecDepth 20000
namespace Go.Proofs.YtcafalcmfdnojaaDoorS
/-! A line of the program's. -/
theorem okNs_iff (x : It) : okNs x = true ↔ ∀ j n, x.ns[j]? = some n → okN (numI x.k) j n = true := by
  unfold okNs It.ns
  simp only [Bool.and_eq_true]
  constructor
  · rintro ⟨h1, h2, h3⟩ j n hj
    match j, hj with
    | 0, hj => simp at hj; subst hj; exact h1
    | 1, hj => simp at hj; subst hj; exact h2
    | 2, hj => simp at hj; subst hj; exact h3
    | j + 3, hj => simp at hj
  · intro h
    exact ⟨h 0 _ rfl, h 1 _ rfl, h 2 _ rfl⟩
def LineV (x : It) (v : Value) : Prop := ∃ s, v = .tuple #[.string (bS s), .bool (may x)] ∧ (may x = true → s = lineL x)
theorem lineV_no {x : It} {i : Nat} {n : Int} (h : x.ns[i]? = some n) (hn : okN (numI x.k) i n = false) : LineV x (.tuple #[.string (ByteArray.mk #[]), .bool false]) := by
  have : may x = false := by
    cases hm : may x with
    | false => rfl
    | true =>
      have := (okNs_iff x).1 (may_ok hm) i n h
      rw [hn] at this; cases this
  exact ⟨[], by rw [this]; rfl, fun e => by rw [this] at e; cases e⟩
theorem pn_neqA {P : Program} {I : Ctx} {f : Ctl} {Q : Value → Mem → Prop} {h : Mem} {t : TypeId} {x y : Operand} {a b : Array Value} {T : Tr} (bs : List Bool) (hg : P.eqGuardType P.depth t = false) (he : eqL P 6 t (.agg a) (.agg b) = some bs)
    (hk : holds P f I Q T h) : holds P f I Q (.pin (eqN .neq t x y (.agg a) (.agg b)) (.bool (!bs.all id)) T) h := h_pin (rw_eqA (.inr rfl) hg he rfl) hk
theorem form_ne (k : Int) : (!([bS (wordI k) == (ByteArray.mk #[]), ((numI k : Nat) : Int) == 0].all id)) = decide (numI k ≠ 0) := by
  have h := (wordI_facts k).2.2.2
  by_cases h0 : numI k = 0
  · rw [h.2 h0, h0]; rfl
  · have : (((numI k : Nat) : Int) == 0) = false := by rw [beq_eq_false_iff_ne]; omega
    rw [this, decide_eq_true h0]
    simp
def fmB (x : It) (y : Nat) : Nat × Obj := (y, .cells #[.string (bS (wordI x.k)), .int .i64 (numI x.k : Nat)] 58 (0, 0))
def nsB (x : It) (y : Nat) : Nat × Obj := (y, .cells ⟨ints x.ns⟩ 3 (0, 0))
def wdsTo (x : It) (i : Nat) : List (List UInt8) := wordI x.k :: (wds x).take i
theorem wdsTo_le (x : It) (i : Nat) : (wdsTo x i).length ≤ 4 := by
  have := numI_le x.k
  unfold wdsTo
  rw [List.length_cons, List.length_take, wds_len]
  omega
theorem wdsTo_succ {x : It} {i : Nat} {n : Int} (h : (wds x)[i]? = some (Lib.itoa n)) : wdsTo x (i + 1) = wdsTo x i ++ [Lib.itoa n] := by
  unfold wdsTo
  rw [List.take_add_one, h]
  rfl
theorem wdsTo_big {x : It} {i : Nat} (h : numI x.k ≤ i) : wdsTo x (i + 1) = wdsTo x i := by
  unfold wdsTo
  rw [List.take_of_length_le (by rw [wds_len]; omega), List.take_of_length_le (by rw [wds_len]; omega)]
theorem own_spot {e : TypeId} {sz : Nat} {A : Option Addr} {n c : Nat} {cs : List Value} {m : Mem} (ho : Own e sz A n c cs m) : ∀ a, A = some a → a.spot = none := by
  obtain ⟨_, _, ho | ⟨b, arr, hA, _⟩⟩ := ho
  · intro a ha; rw [ho.1] at ha; cases ha
  · intro a ha; rw [hA] at ha; injection ha with ha; subst ha; rfl
theorem line_loop {I : Ctx} (hg : Glob I) {x : It} {y g : Nat} : ∀ (q i : Nat) (A : Option Addr) (c : Nat) (u : Nat → Value) (h m hr' : Mem), i + q = 3 → OwnS A (wdsTo x i).length c (wdsTo x i) m → Pick h ([fmB x y, nsB x g] ++ m) hr' →
    (∀ j n, j < i → x.ns[j]? = some n → okN (numI x.k) j n = true) →
    Wp Tryd.prog 22 k_script_line_1 (t_script_line_1 y g A (wdsTo x i).length c (i : Nat) u) I h (cl_ fun v h' => LineV x v ∧ h' = []) := by
  intro q
  induction q with
  | zero =>
    intro i A c u h m hr' hq ho hp hok
    obtain rfl : i = 3 := by omega
    have hx : okNs x = true := (okNs_iff x).2 fun j n hj => hok j n (by have := (List.getElem?_eq_some_iff.1 hj).1; exact this) hj
    have hw : wdsTo x 3 = wordI x.k :: wds x := by
      unfold wdsTo
      rw [List.take_of_length_le (by rw [wds_len]; exact numI_le _)]
    rw [hw] at ho ⊢
    refine r_script_line_1 _ _ _ _ _ _ _ ?_
    refine holds_perm (cl_.aff _) (g := fmB x y :: nsB x g :: (m ++ hr')) hp ?_
    refine h_no (by decide) ?_
    refine laG [.string (bS (wordI x.k)), .int .i64 (numI x.k : Nat)] (getL [{ s := bS (wordI x.k) }, { i := (numI x.k : Nat) }]) (show _ ∈ fmB x y :: _ from mq0) rfl (by kernel_rfl) rfl ?_
    dsimp only [getL]
    refine h_neqA [bS (wordI x.k) == (ByteArray.mk #[]), ((numI x.k : Nat) : Int) == 0] (by kernel_rfl) (by kernel_rfl) ?_
    dsimp only
    have hbl := bare_len hx
    have h4 := numI_le x.k
    refine h_call0 (fun _ => { s := bS (bare x) }) ca_strings_Join (fun hl => join_fn (xs := wordI x.k :: wds x) (sep := [32]) (by simp) ((ho.rd (h := fmB x y :: nsB x g :: (m ++ hr')) (by intro z hz; simp [hz])).all hl) (own_spot ho) ho.2.1 (by rw [List.length_cons, wds_len]; omega) (by show (bare x).length ≤ _; omega)) rfl ?_
    dsimp only
    refine pn_neqA _ (by kernel_rfl) (by kernel_rfl) ?_
    refine pnA (cs := [.string (bS (wordI x.k)), .int .i64 (numI x.k : Nat)]) (show _ ∈ fmB x y :: _ from mq0) rfl (by kernel_rfl) ?_
    refine h_addS (y := [10]) (by simp; omega) ?_
    refine h_end0 ⟨⟨lineL x, ?_, fun _ => rfl⟩, rfl⟩
    have : may x = decide (numI x.k ≠ 0) := by unfold may; rw [hx, Bool.and_true]
    rw [this, ← form_ne]
    rfl
  | succ q ih =>
    intro i A c u h m hr' hq ho hp hok
    have hi : i < x.ns.length := by show i < 3; omega
    have hb : x.ns[i]? = some x.ns[i] := List.getElem?_eq_getElem hi
    generalize x.ns[i] = n at *
    refine r_script_line_1 _ _ _ _ _ _ _ ?_
    refine holds_perm (cl_.aff _) (g := fmB x y :: nsB x g :: (m ++ hr')) hp ?_
    refine h_yes (by simp; omega) ?_
    refine h_intAt i (l := x.ns) (fun _ => ⟨_, rfl, cellsM' (show _ ∈ fmB x y :: nsB x g :: _ from mq1 mq0) rfl⟩) hb rfl rfl fun _ => ?_
    unfold fmB nsB at *
    refine ldI (by repeat (first | exact mq0 | apply mq1 | apply mq2)) rfl (by kernel_rfl) ?_
    dsimp only
    refine h_ite (fun t0 => ?_) (fun t0 => ?_)
    · have h0 : ¬ i < numI x.k := by simp at t0; omega
      refine h_ite (fun t1 => ?_) (fun t1 => ?_)
      · refine h_yes t1 ?_
        refine h_end0 ⟨lineV_no hb ?_, rfl⟩
        unfold okN
        rw [if_neg h0]
        exact decide_eq_false (by simpa using t1)
      have hn0 : n = 0 := by simpa using t1
      have hokn : okN (numI x.k) i n = true := by
        unfold okN
        rw [if_neg h0]
        exact decide_eq_true hn0
      refine h_no (by rw [hn0]; decide) ?_
      refine h_no (by rw [hn0]; decide) ?_
      refine ldI (by repeat (first | exact mq0 | apply mq1 | apply mq2)) rfl (by kernel_rfl) ?_
      dsimp only
      refine h_no (by simp; omega) ?_
      refine h_stop fun hl2 => ?_
      rw [wrapS (by omega)]
      rw [← wdsTo_big (x := x) (i := i) (by omega)] at ho ⊢
      refine ih (i + 1) A c _ _ m _ (by omega) ho (by repeat (first | exact Pick.here | exact Pick.one | exact Pick.all | apply Pick.two | apply Pick.cons | apply Pick.app)) fun j n2 hj hn => ?_
      rcases Nat.lt_succ_iff_lt_or_eq.1 hj with hj | rfl
      · exact hok j n2 hj hn
      · rw [hb] at hn; injection hn with hn; subst hn; exact hokn
    · have h0 : i < numI x.k := by simp at t0; omega
      refine h_ite (fun t1 => ?_) (fun t1 => ?_)
      · refine h_end0 ⟨lineV_no hb ?_, rfl⟩
        unfold okN
        rw [if_pos h0]
        exact decide_eq_false (by simp at t1; omega)
      refine h_ite (fun t2 => ?_) (fun t2 => ?_)
      · refine h_end0 ⟨lineV_no hb ?_, rfl⟩
        unfold okN
        rw [if_pos h0]
        exact decide_eq_false (by simp at t2; omega)
      have hr1 : 0 ≤ n ∧ n ≤ 1000000000 := by simp at t1 t2; omega
      have hokn : okN (numI x.k) i n = true := by
        unfold okN
        rw [if_pos h0]
        exact decide_eq_true hr1
      refine ldI (by repeat (first | exact mq0 | apply mq1 | apply mq2)) rfl (by kernel_rfl) ?_
      dsimp only
      refine h_yes (by simp; omega) ?_
      obtain ⟨n2, q1, q2, q3⟩ := wds_at (x := x) (i := i) (by omega)
      rw [hb] at q1
      injection q1 with q1
      subst q1
      refine h_call0 (fun _ => { s := bS (Lib.itoa n) }) ca_strconv_Itoa (fun hl => itoa_fn (hg.plus hl) (by omega)) rfl ?_
      dsimp only
      refine h_row (e := 9) #[.string (bS (Lib.itoa n))] (by kernel_rfl) fun g2 hg2 hI2 => ?_
      dsimp only
      have hwl := wdsTo_le x i
      refine h_append (cl_.aff _) eb_string (by kernel_rfl) (cs2 := strs [Lib.itoa n]) (fun _ => ⟨_, rfl, cellsM' (by repeat (first | exact mq0 | apply mq1 | apply mq2)) rfl⟩) (by simp) rfl (by simp) (m := m) (by repeat (first | exact Pick.here | exact Pick.one | exact Pick.all | apply Pick.two | apply Pick.cons | apply Pick.app)) ho (by omega) (by omega) ?_
      intro A' c' m' ho'
      dsimp only
      have e : (wdsTo x i).length + 1 = (wdsTo x (i + 1)).length := by rw [wdsTo_succ q2]; simp
      rw [show strs (wdsTo x i) ++ strs [Lib.itoa n] = strs (wdsTo x (i + 1)) by rw [wdsTo_succ q2]; simp [strs], e] at ho'
      refine h_stop fun hl2 => ?_
      rw [wrapS (by omega), e]
      refine ih (i + 1) A' c' _ _ m' _ (by omega) ho' (by repeat (first | exact Pick.here | exact Pick.one | exact Pick.all | apply Pick.two | apply Pick.cons | apply Pick.app)) fun j n2 hj hn => ?_
      rcases Nat.lt_succ_iff_lt_or_eq.1 hj with hj | rfl
      · exact hok j n2 hj hn
      · rw [hb] at hn; injection hn with hn; subst hn; exact hokn
theorem line_spec {I : Ctx} (hg : Glob I) {x : It} : Fn Tryd.prog 22 #[.agg #[.int .i64 x.k, .int .i64 x.a, .int .i64 x.b, .int .i64 x.c]] I [] (fun v h' => LineV x v ∧ h' = []) := by
  refine r_script_line _ _ _ _ ?_
  (repeat ((first | refine h_box fun _ _ _ => ?_ | ((with_reducible show holds _ _ _ _ (.sem (Instr.alloc 58 _ _) _ _) _); refine h_alloc zb_form fun _ _ _ => ?_) | ((with_reducible show holds _ _ _ _ (.rd (Instr.loadAt _ (.pointer _)) _ _) _); first | refine ldI (by repeat (first | exact mq0 | apply mq1 | apply mq2)) (by rfl) (by kernel_rfl) ?_ | refine ldS (by repeat (first | exact mq0 | apply mq1 | apply mq2)) (by rfl) (by kernel_rfl) ?_ | refine la1 (by repeat (first | exact mq0 | apply mq1 | apply mq2)) (by rfl) (by kernel_rfl) ?_) | ((with_reducible show holds _ _ _ _ (.unit (Instr.storeAt _ _ _) _) _); refine stU (by repeat (first | exact Upd.here | apply Upd.there | apply Upd.right)) (by kernel_rfl) (by rfl) (by simp [Value.cells]) ?_) | ((with_reducible show holds _ _ _ _ (.pin (vN (Instr.loadAt _ _)) _ _) _); first | refine pnA (by repeat (first | exact mq0 | apply mq1 | apply mq2)) (by rfl) (by kernel_rfl) ?_ | refine pn1 (by repeat (first | exact mq0 | apply mq1 | apply mq2)) (by rfl) (by kernel_rfl) ?_)); try dsimp only [getL]))
  refine h_row (e := 3) ⟨ints x.ns⟩ (by kernel_rfl) fun g2 hg2 hI2 => ?_
  dsimp only
  (repeat ((first | refine h_box fun _ _ _ => ?_ | ((with_reducible show holds _ _ _ _ (.sem (Instr.alloc 58 _ _) _ _) _); refine h_alloc zb_form fun _ _ _ => ?_) | ((with_reducible show holds _ _ _ _ (.rd (Instr.loadAt _ (.pointer _)) _ _) _); first | refine ldI (by repeat (first | exact mq0 | apply mq1 | apply mq2)) (by rfl) (by kernel_rfl) ?_ | refine ldS (by repeat (first | exact mq0 | apply mq1 | apply mq2)) (by rfl) (by kernel_rfl) ?_ | refine la1 (by repeat (first | exact mq0 | apply mq1 | apply mq2)) (by rfl) (by kernel_rfl) ?_) | ((with_reducible show holds _ _ _ _ (.unit (Instr.storeAt _ _ _) _) _); refine stU (by repeat (first | exact Upd.here | apply Upd.there | apply Upd.right)) (by kernel_rfl) (by rfl) (by simp [Value.cells]) ?_) | ((with_reducible show holds _ _ _ _ (.pin (vN (Instr.loadAt _ _)) _ _) _); first | refine pnA (by repeat (first | exact mq0 | apply mq1 | apply mq2)) (by rfl) (by kernel_rfl) ?_ | refine pn1 (by repeat (first | exact mq0 | apply mq1 | apply mq2)) (by rfl) (by kernel_rfl) ?_)); try dsimp only [getL]))
  refine h_call0 (getL [{ s := bS (wordI x.k) }, { i := (numI x.k : Nat) }]) ca_script_of (fun hl => of_spec) rfl ?_
  dsimp only [getL]
  ((first | refine h_box fun _ _ _ => ?_ | ((with_reducible show holds _ _ _ _ (.sem (Instr.alloc 58 _ _) _ _) _); refine h_alloc zb_form fun _ _ _ => ?_) | ((with_reducible show holds _ _ _ _ (.rd (Instr.loadAt _ (.pointer _)) _ _) _); first | refine ldI (by repeat (first | exact mq0 | apply mq1 | apply mq2)) (by rfl) (by kernel_rfl) ?_ | refine ldS (by repeat (first | exact mq0 | apply mq1 | apply mq2)) (by rfl) (by kernel_rfl) ?_ | refine la1 (by repeat (first | exact mq0 | apply mq1 | apply mq2)) (by rfl) (by kernel_rfl) ?_) | ((with_reducible show holds _ _ _ _ (.unit (Instr.storeAt _ _ _) _) _); refine stU (by repeat (first | exact Upd.here | apply Upd.there | apply Upd.right)) (by kernel_rfl) (by rfl) (by simp [Value.cells]) ?_) | ((with_reducible show holds _ _ _ _ (.pin (vN (Instr.loadAt _ _)) _ _) _); first | refine pnA (by repeat (first | exact mq0 | apply mq1 | apply mq2)) (by rfl) (by kernel_rfl) ?_ | refine pn1 (by repeat (first | exact mq0 | apply mq1 | apply mq2)) (by rfl) (by kernel_rfl) ?_)); try dsimp only [getL])
  ((first | refine h_box fun _ _ _ => ?_ | ((with_reducible show holds _ _ _ _ (.sem (Instr.alloc 58 _ _) _ _) _); refine h_alloc zb_form fun _ _ _ => ?_) | ((with_reducible show holds _ _ _ _ (.rd (Instr.loadAt _ (.pointer _)) _ _) _); first | refine ldI (by repeat (first | exact mq0 | apply mq1 | apply mq2)) (by rfl) (by kernel_rfl) ?_ | refine ldS (by repeat (first | exact mq0 | apply mq1 | apply mq2)) (by rfl) (by kernel_rfl) ?_ | refine la1 (by repeat (first | exact mq0 | apply mq1 | apply mq2)) (by rfl) (by kernel_rfl) ?_) | ((with_reducible show holds _ _ _ _ (.unit (Instr.storeAt _ _ _) _) _); refine stU (by repeat (first | exact Upd.here | apply Upd.there | apply Upd.right)) (by kernel_rfl) (by rfl) (by simp [Value.cells]) ?_) | ((with_reducible show holds _ _ _ _ (.pin (vN (Instr.loadAt _ _)) _ _) _); first | refine pnA (by repeat (first | exact mq0 | apply mq1 | apply mq2)) (by rfl) (by kernel_rfl) ?_ | refine pn1 (by repeat (first | exact mq0 | apply mq1 | apply mq2)) (by rfl) (by kernel_rfl) ?_)); try dsimp only [getL])
  ((first | refine h_box fun _ _ _ => ?_ | ((with_reducible show holds _ _ _ _ (.sem (Instr.alloc 58 _ _) _ _) _); refine h_alloc zb_form fun _ _ _ => ?_) | ((with_reducible show holds _ _ _ _ (.rd (Instr.loadAt _ (.pointer _)) _ _) _); first | refine ldI (by repeat (first | exact mq0 | apply mq1 | apply mq2)) (by rfl) (by kernel_rfl) ?_ | refine ldS (by repeat (first | exact mq0 | apply mq1 | apply mq2)) (by rfl) (by kernel_rfl) ?_ | refine la1 (by repeat (first | exact mq0 | apply mq1 | apply mq2)) (by rfl) (by kernel_rfl) ?_) | ((with_reducible show holds _ _ _ _ (.unit (Instr.storeAt _ _ _) _) _); refine stU (by repeat (first | exact Upd.here | apply Upd.there | apply Upd.right)) (by kernel_rfl) (by rfl) (by simp [Value.cells]) ?_) | ((with_reducible show holds _ _ _ _ (.pin (vN (Instr.loadAt _ _)) _ _) _); first | refine pnA (by repeat (first | exact mq0 | apply mq1 | apply mq2)) (by rfl) (by kernel_rfl) ?_ | refine pn1 (by repeat (first | exact mq0 | apply mq1 | apply mq2)) (by rfl) (by kernel_rfl) ?_)); try dsimp only [getL])
  refine h_row (e := 9) #[.string (bS (wordI x.k))] (by kernel_rfl) fun g3 hg3 hI3 => ?_
  dsimp only
  refine h_stop fun hl2 => ?_
  exact line_loop hg 3 0 _ _ _ _ [(g3, .cells #[.string (bS (wordI x.k))] 9 (0, 0))] _ (by omega) (Own.row rfl) (by repeat (first | exact Pick.here | exact Pick.one | exact Pick.all | apply Pick.two | apply Pick.cons | apply Pick.app)) (fun j n hj => absurd hj (by omega))
end Go.Proofs.YtcafalcmfdnojaaDoorS
