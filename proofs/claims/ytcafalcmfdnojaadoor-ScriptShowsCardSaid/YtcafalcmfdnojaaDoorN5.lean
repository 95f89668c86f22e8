import Derived.Test.YtcafalcmfdnojaaDoorN4
import Derived.Test.YtcafalcmfdnojaaDoorSX
import Derived.Test.YtcafalcmfdnojaaDoorTA
set_option linter.unusedVariables false
namespace Go.Proofs.YtcafalcmfdnojaaDoorS
/-- The forms, cell by cell. -/
def formsC : List Value := [.string (bS (word 0)), .int .i64 2, .string (bS (word 1)), .int .i64 1, .string (bS (word 2)), .int .i64 1, .string (bS (word 3)), .int .i64 1, .string (bS (word 4)), .int .i64 1,
  .string (bS (word 5)), .int .i64 1, .string (bS (word 6)), .int .i64 3, .string (bS (word 7)), .int .i64 3, .string (bS (word 8)), .int .i64 1]
theorem formsC_at {k : Nat} (h : k < 9) : (formsC.drop (k * 2)).take 2 = [.string (bS (word k)), .int .i64 (num k)] := by
  match k, h with
  | 0, _ | 1, _ | 2, _ | 3, _ | 4, _ | 5, _ | 6, _ | 7, _ | 8, _ => rfl
set_option maxRecDepth 100000 in
theorem forms_spec {I : Ctx} : Fn Tryd.prog 35 #[] I [] (fun v h' => v = .agg ⟨formsC⟩ ∧ h' = []) := by
  refine r_script_forms ?_
  (repeat ((first | ((with_reducible show holds _ _ _ _ (.sem (Instr.alloc 58 _ _) _ _) _); refine h_alloc zb_form fun _ _ _ => ?_) | ((with_reducible show holds _ _ _ _ (.sem (Instr.alloc 66 _ _) _ _) _); refine h_alloc zb_form_66 fun _ _ _ => ?_) | ((with_reducible show holds _ _ _ _ (.rd (Instr.loadAt _ (.pointer _)) _ _) _); refine la1 (by repeat (first | exact mq0 | apply mq1 | apply mq2)) (by rfl) (by kernel_rfl) ?_) | ((with_reducible show holds _ _ _ _ (.rd (loadVar _ _) _ _) _); first | refine lv1 (by repeat (first | exact mq0 | apply mq1 | apply mq2)) (by rfl) (by kernel_rfl) ?_ | refine lv2 (by repeat (first | exact mq0 | apply mq1 | apply mq2)) (by rfl) (by kernel_rfl) ?_) | ((with_reducible show holds _ _ _ _ (.unit (Instr.storeAt _ _ _) _) _); refine stU (by repeat (first | exact Upd.here | apply Upd.there | apply Upd.right)) (by kernel_rfl) (by rfl) (by simp [Value.cells]) ?_)); try dsimp only [getL]))
  exact h_end0 ⟨rfl, rfl⟩
theorem rword_spec {I : Ctx} {k : Int} : Fn Tryd.prog 16 #[.int .i64 k] I [] (fun v h' => v = .string (bS (wordI k)) ∧ h' = []) := by
  refine r_octroiref23_Word _ ?_
  rcases kinds k with h | h | h | h | h | h | h | h | h | h
  · rw [(kind_out h).1]
    iterate 9 refine h_no (by simp; omega) ?_
    exact h_end0 ⟨rfl, rfl⟩
  all_goals subst h
  all_goals repeat' (first | refine h_yes (by decide) ?_ | refine h_no (by decide) ?_)
  all_goals exact h_end0 ⟨rfl, rfl⟩
theorem rnumbers_spec {I : Ctx} {k : Int} : Fn Tryd.prog 17 #[.int .i64 k] I [] (fun v h' => v = .int .i64 (numI k : Nat) ∧ h' = []) := by
  refine r_octroiref23_Numbers _ ?_
  rcases kinds k with h | h | h | h | h | h | h | h | h | h
  · rw [(kind_out h).2]
    repeat' (first | refine h_no (by simp; omega) ?_)
    exact h_end0 ⟨rfl, rfl⟩
  all_goals subst h
  all_goals repeat' (first | refine h_yes (by decide) ?_ | refine h_no (by decide) ?_)
  all_goals exact h_end0 ⟨rfl, rfl⟩
theorem kind_in {k : Int} (h : 0 ≤ k ∧ k < 9) : wordI k = word k.toNat ∧ numI k = num k.toNat := by
  unfold wordI numI
  rw [if_pos h.1, if_pos h.1]
  exact ⟨rfl, rfl⟩
def formV (k : Int) : Value := .agg #[.string (bS (wordI k)), .int .i64 (numI k : Nat)]
set_option maxRecDepth 100000 in
theorem of_spec {I : Ctx} {k : Int} : Fn Tryd.prog 25 #[.int .i64 k] I [] (fun v h' => v = formV k ∧ h' = []) := by
  refine r_script_of _ ?_
  ((first | ((with_reducible show holds _ _ _ _ (.sem (Instr.alloc 58 _ _) _ _) _); refine h_alloc zb_form fun _ _ _ => ?_) | ((with_reducible show holds _ _ _ _ (.sem (Instr.alloc 66 _ _) _ _) _); refine h_alloc zb_form_66 fun _ _ _ => ?_) | ((with_reducible show holds _ _ _ _ (.rd (Instr.loadAt _ (.pointer _)) _ _) _); refine la1 (by repeat (first | exact mq0 | apply mq1 | apply mq2)) (by rfl) (by kernel_rfl) ?_) | ((with_reducible show holds _ _ _ _ (.rd (loadVar _ _) _ _) _); first | refine lv1 (by repeat (first | exact mq0 | apply mq1 | apply mq2)) (by rfl) (by kernel_rfl) ?_ | refine lv2 (by repeat (first | exact mq0 | apply mq1 | apply mq2)) (by rfl) (by kernel_rfl) ?_) | ((with_reducible show holds _ _ _ _ (.unit (Instr.storeAt _ _ _) _) _); refine stU (by repeat (first | exact Upd.here | apply Upd.there | apply Upd.right)) (by kernel_rfl) (by rfl) (by simp [Value.cells]) ?_)); try dsimp only [getL])
  refine h_call0 (getL [{ s := bS (word 0) }, { i := 2 }, { s := bS (word 1) }, { i := 1 }, { s := bS (word 2) }, { i := 1 }, { s := bS (word 3) }, { i := 1 }, { s := bS (word 4) }, { i := 1 }, { s := bS (word 5) }, { i := 1 }, { s := bS (word 6) }, { i := 3 }, { s := bS (word 7) }, { i := 3 }, { s := bS (word 8) }, { i := 1 }]) ca_script_forms (fun hl => forms_spec) rfl ?_
  dsimp only [getL]
  ((first | ((with_reducible show holds _ _ _ _ (.sem (Instr.alloc 58 _ _) _ _) _); refine h_alloc zb_form fun _ _ _ => ?_) | ((with_reducible show holds _ _ _ _ (.sem (Instr.alloc 66 _ _) _ _) _); refine h_alloc zb_form_66 fun _ _ _ => ?_) | ((with_reducible show holds _ _ _ _ (.rd (Instr.loadAt _ (.pointer _)) _ _) _); refine la1 (by repeat (first | exact mq0 | apply mq1 | apply mq2)) (by rfl) (by kernel_rfl) ?_) | ((with_reducible show holds _ _ _ _ (.rd (loadVar _ _) _ _) _); first | refine lv1 (by repeat (first | exact mq0 | apply mq1 | apply mq2)) (by rfl) (by kernel_rfl) ?_ | refine lv2 (by repeat (first | exact mq0 | apply mq1 | apply mq2)) (by rfl) (by kernel_rfl) ?_) | ((with_reducible show holds _ _ _ _ (.unit (Instr.storeAt _ _ _) _) _); refine stU (by repeat (first | exact Upd.here | apply Upd.there | apply Upd.right)) (by kernel_rfl) (by rfl) (by simp [Value.cells]) ?_)); try dsimp only [getL])
  ((first | ((with_reducible show holds _ _ _ _ (.sem (Instr.alloc 58 _ _) _ _) _); refine h_alloc zb_form fun _ _ _ => ?_) | ((with_reducible show holds _ _ _ _ (.sem (Instr.alloc 66 _ _) _ _) _); refine h_alloc zb_form_66 fun _ _ _ => ?_) | ((with_reducible show holds _ _ _ _ (.rd (Instr.loadAt _ (.pointer _)) _ _) _); refine la1 (by repeat (first | exact mq0 | apply mq1 | apply mq2)) (by rfl) (by kernel_rfl) ?_) | ((with_reducible show holds _ _ _ _ (.rd (loadVar _ _) _ _) _); first | refine lv1 (by repeat (first | exact mq0 | apply mq1 | apply mq2)) (by rfl) (by kernel_rfl) ?_ | refine lv2 (by repeat (first | exact mq0 | apply mq1 | apply mq2)) (by rfl) (by kernel_rfl) ?_) | ((with_reducible show holds _ _ _ _ (.unit (Instr.storeAt _ _ _) _) _); refine stU (by repeat (first | exact Upd.here | apply Upd.there | apply Upd.right)) (by kernel_rfl) (by rfl) (by simp [Value.cells]) ?_)); try dsimp only [getL])
  refine h_ite (fun t0 => ?_) (fun t0 => ?_)
  · have h0 : k < 0 := by simpa using t0
    (repeat ((first | ((with_reducible show holds _ _ _ _ (.sem (Instr.alloc 58 _ _) _ _) _); refine h_alloc zb_form fun _ _ _ => ?_) | ((with_reducible show holds _ _ _ _ (.sem (Instr.alloc 66 _ _) _ _) _); refine h_alloc zb_form_66 fun _ _ _ => ?_) | ((with_reducible show holds _ _ _ _ (.rd (Instr.loadAt _ (.pointer _)) _ _) _); refine la1 (by repeat (first | exact mq0 | apply mq1 | apply mq2)) (by rfl) (by kernel_rfl) ?_) | ((with_reducible show holds _ _ _ _ (.rd (loadVar _ _) _ _) _); first | refine lv1 (by repeat (first | exact mq0 | apply mq1 | apply mq2)) (by rfl) (by kernel_rfl) ?_ | refine lv2 (by repeat (first | exact mq0 | apply mq1 | apply mq2)) (by rfl) (by kernel_rfl) ?_) | ((with_reducible show holds _ _ _ _ (.unit (Instr.storeAt _ _ _) _) _); refine stU (by repeat (first | exact Upd.here | apply Upd.there | apply Upd.right)) (by kernel_rfl) (by rfl) (by simp [Value.cells]) ?_)); try dsimp only [getL]))
    refine h_end0 ⟨?_, rfl⟩
    unfold formV
    rw [(kind_out (.inl h0)).1, (kind_out (.inl h0)).2]
    rfl
  have h0 : 0 ≤ k := by simpa using t0
  refine h_ite (fun t1 => ?_) (fun t1 => ?_)
  · have h1 : 9 ≤ k := by simpa using t1
    (repeat ((first | ((with_reducible show holds _ _ _ _ (.sem (Instr.alloc 58 _ _) _ _) _); refine h_alloc zb_form fun _ _ _ => ?_) | ((with_reducible show holds _ _ _ _ (.sem (Instr.alloc 66 _ _) _ _) _); refine h_alloc zb_form_66 fun _ _ _ => ?_) | ((with_reducible show holds _ _ _ _ (.rd (Instr.loadAt _ (.pointer _)) _ _) _); refine la1 (by repeat (first | exact mq0 | apply mq1 | apply mq2)) (by rfl) (by kernel_rfl) ?_) | ((with_reducible show holds _ _ _ _ (.rd (loadVar _ _) _ _) _); first | refine lv1 (by repeat (first | exact mq0 | apply mq1 | apply mq2)) (by rfl) (by kernel_rfl) ?_ | refine lv2 (by repeat (first | exact mq0 | apply mq1 | apply mq2)) (by rfl) (by kernel_rfl) ?_) | ((with_reducible show holds _ _ _ _ (.unit (Instr.storeAt _ _ _) _) _); refine stU (by repeat (first | exact Upd.here | apply Upd.there | apply Upd.right)) (by kernel_rfl) (by rfl) (by simp [Value.cells]) ?_)); try dsimp only [getL]))
    refine h_end0 ⟨?_, rfl⟩
    unfold formV
    rw [(kind_out (.inr h1)).1, (kind_out (.inr h1)).2]
    rfl
  have h1 : k < 9 := by simpa using t1
  obtain ⟨j, rfl⟩ := Int.eq_ofNat_of_zero_le h0
  refine h_indexP (e := 58) (sz := 2) (n := 9) j (by kernel_rfl) (by kernel_rfl) rfl (by omega) ?_
  dsimp only
  have hj : j < 9 := by omega
  have hk := kind_in (k := (j : Int)) ⟨by omega, by omega⟩
  rw [Int.toNat_natCast] at hk
  refine laG [.string (bS (word j)), .int .i64 (num j : Nat)] (getL [{ s := bS (word j) }, { i := (num j : Nat) }]) (by repeat (first | exact mq0 | apply mq1 | apply mq2)) (by show (formsC.drop (j * 2)).take 2 = _; exact formsC_at hj) (by kernel_rfl) rfl ?_
  dsimp only [getL]
  (repeat ((first | ((with_reducible show holds _ _ _ _ (.sem (Instr.alloc 58 _ _) _ _) _); refine h_alloc zb_form fun _ _ _ => ?_) | ((with_reducible show holds _ _ _ _ (.sem (Instr.alloc 66 _ _) _ _) _); refine h_alloc zb_form_66 fun _ _ _ => ?_) | ((with_reducible show holds _ _ _ _ (.rd (Instr.loadAt _ (.pointer _)) _ _) _); refine la1 (by repeat (first | exact mq0 | apply mq1 | apply mq2)) (by rfl) (by kernel_rfl) ?_) | ((with_reducible show holds _ _ _ _ (.rd (loadVar _ _) _ _) _); first | refine lv1 (by repeat (first | exact mq0 | apply mq1 | apply mq2)) (by rfl) (by kernel_rfl) ?_ | refine lv2 (by repeat (first | exact mq0 | apply mq1 | apply mq2)) (by rfl) (by kernel_rfl) ?_) | ((with_reducible show holds _ _ _ _ (.unit (Instr.storeAt _ _ _) _) _); refine stU (by repeat (first | exact Upd.here | apply Upd.there | apply Upd.right)) (by kernel_rfl) (by rfl) (by simp [Value.cells]) ?_)); try dsimp only [getL]))
  refine h_end0 ⟨?_, rfl⟩
  unfold formV
  rw [hk.1, hk.2]
theorem word_spec {I : Ctx} {k : Int} : Fn Tryd.prog 15 #[.int .i64 k] I [] (fun v h' => v = .string (bS (wordI k)) ∧ h' = []) := by
  refine r_script_Word _ ?_
  refine h_call0 (getL [{ s := bS (wordI k) }, { i := (numI k : Nat) }]) ca_script_of (fun hl => of_spec) rfl ?_
  exact h_end0 ⟨rfl, rfl⟩
theorem numbers_spec {I : Ctx} {k : Int} : Fn Tryd.prog 13 #[.int .i64 k] I [] (fun v h' => v = .int .i64 (numI k : Nat) ∧ h' = []) := by
  refine r_script_Numbers _ ?_
  refine h_call0 (getL [{ s := bS (wordI k) }, { i := (numI k : Nat) }]) ca_script_of (fun hl => of_spec) rfl ?_
  exact h_end0 ⟨rfl, rfl⟩
/-! The reference's digits and number. -/
theorem dig_byte {n : Nat} (h : n < 10) : IntKind.wrap .u8 (IntKind.wrap .i64 (48 + (n : Int))) = (((UInt8.ofNat (48 + n)).toNat : Nat) : Int) := by
  rw [wrap64 (by omega), wrap8, toNat_ofNat']
  omega
set_option maxRecDepth 20000 in
theorem digits_nat : ∀ (n : Nat), n ≤ 1000000000 → ∀ I : Ctx,
    Fn Tryd.prog 45 #[.int .i64 (n : Int)] I [] (fun v h' => v = .string (bS (Lib.decDigits n)) ∧ h' = []) := by
  intro n
  induction n using Nat.strongRecOn with
  | _ n ih =>
    intro hn I
    refine r_octroiref23_digits _ ?_
    refine h_ite (fun t0 => ?_) (fun t0 => ?_)
    · have h0 : n < 10 := by simp at t0; omega
      rw [dig_byte h0]
      refine h_row (e := 5) #[.int .u8 (((UInt8.ofNat (48 + n)).toNat : Nat) : Int)] (by kernel_rfl) fun g2 hg2 hI2 => ?_
      dsimp only
      refine h_toString (e := 5) (l := [UInt8.ofNat (48 + n)]) (by kernel_rfl) (by kernel_rfl) (by kernel_rfl) rfl (fun _ => ⟨_, rfl, cellsM' (by repeat (first | exact mq0 | apply mq1 | apply mq2)) rfl⟩) (by simp) ?_
      dsimp only
      refine h_end0 ⟨?_, rfl⟩
      rw [Lib.decDigits_one h0]
    · have h0 : ¬ n < 10 := by simp at t0; omega
      have e1 : IntKind.wrap .i64 (Int.tdiv (n : Int) 10) = ((n / 10 : Nat) : Int) := by
        rw [Int.tdiv_eq_ediv_of_nonneg (by omega), wrap64 (by omega)]; omega
      have e2 : Int.tmod (n : Int) 10 = ((n % 10 : Nat) : Int) := by rw [Int.tmod_eq_emod_of_nonneg (by omega)]; omega
      simp only [e1, e2]
      refine h_pcall (fun _ => { s := bS (Lib.decDigits (n / 10)) }) ca_octroiref23_digits (by kernel_rfl) (fun h hl => ih (n / 10) (by omega) (by omega) _) rfl ?_
      rw [dig_byte (Nat.mod_lt n (by decide))]
      refine h_row (e := 5) #[.int .u8 (((UInt8.ofNat (48 + n % 10)).toNat : Nat) : Int)] (by kernel_rfl) fun g2 hg2 hI2 => ?_
      dsimp only
      refine h_toString (e := 5) (l := [UInt8.ofNat (48 + n % 10)]) (by kernel_rfl) (by kernel_rfl) (by kernel_rfl) rfl (fun _ => ⟨_, rfl, cellsM' (by repeat (first | exact mq0 | apply mq1 | apply mq2)) rfl⟩) (by simp) ?_
      dsimp only
      have hlen := dec_len (k := 9) (n := n / 10) (by omega)
      refine h_addS (by simp; omega) ?_
      refine h_end0 ⟨?_, rfl⟩
      rw [dec_step h0]
theorem digits_spec {I : Ctx} {n : Int} (hn : 0 ≤ n ∧ n ≤ 1000000000) :
    Fn Tryd.prog 45 #[.int .i64 n] I [] (fun v h' => v = .string (bS (Lib.itoa n)) ∧ h' = []) := by
  obtain ⟨k, rfl⟩ := Int.eq_ofNat_of_zero_le hn.1
  rw [itoa_nat]
  exact digits_nat k (by omega) I
set_option maxRecDepth 20000 in
theorem number_loop {I : Ctx} {s : List UInt8} (hs : s.length ≤ 10) : ∀ (q i : Nat) (x : Int) (u : Nat → Value) (h : Mem), i + q = s.length →
    Wp Tryd.prog 40 k_octroiref23_number_1 (t_octroiref23_number_1 (bS s) x (i : Nat) u) I h (cl_ fun v h' => v = .int .i64 (numF x (s.drop i)) ∧ h' = []) := by
  intro q
  induction q with
  | zero =>
    intro i x u h hq
    refine r_octroiref23_number_1 _ _ _ _ ?_
    refine h_no (by rw [bS_size]; simp; omega) ?_
    refine h_end0 ⟨?_, rfl⟩
    rw [List.drop_eq_nil_of_le (by omega)]
    rfl
  | succ q ih =>
    intro i x u h hq
    have hi : i < s.length := by omega
    have hb : s[i]? = some s[i] := List.getElem?_eq_getElem hi
    have hd : s.drop i = s[i] :: s.drop (i + 1) := List.drop_eq_getElem_cons hi
    refine r_octroiref23_number_1 _ _ _ _ ?_
    refine h_yes (by rw [bS_size]; simp; omega) ?_
    refine h_byteS i hb rfl (by kernel_rfl) ?_
    dsimp only
    refine h_ite (fun t0 => ?_) (fun t0 => ?_)
    · refine h_end0 ⟨?_, rfl⟩
      rw [hd, numF, if_pos (by simpa using t0)]
    refine h_byteS i hb rfl (by kernel_rfl) ?_
    dsimp only
    refine h_ite (fun t1 => ?_) (fun t1 => ?_)
    · refine h_end0 ⟨?_, rfl⟩
      rw [hd, numF, if_neg (by simpa using t0), if_pos (by simpa using t1)]
    refine h_byteS i hb rfl (by kernel_rfl) ?_
    dsimp only
    refine h_stop fun hl2 => ?_
    rw [wrapS (by omega), hd, numF, if_neg (by simpa using t0), if_neg (by simpa using t1)]
    exact ih (i + 1) _ _ _ (by omega)
theorem number_spec {I : Ctx} {s : List UInt8} :
    Fn Tryd.prog 40 #[.string (bS s)] I [] (fun v h' => v = .int .i64 (numR s) ∧ h' = []) := by
  refine r_octroiref23_number _ ?_
  rw [bS_size]
  refine h_ite (fun t0 => ?_) (fun t0 => ?_)
  · refine h_end0 ⟨?_, rfl⟩
    unfold numR
    rw [if_pos (by simp at t0; simp [t0])]
  have h0 : ¬ s.length = 0 := by simp at t0; simp; exact t0
  refine h_ite (fun t1 => ?_) (fun t1 => ?_)
  · refine h_end0 ⟨?_, rfl⟩
    unfold numR
    rw [if_neg h0, if_pos (by simp at t1; omega)]
  have h1 : ¬ 10 < s.length := by simp at t1; omega
  refine h_stop fun hl2 => ?_
  refine (number_loop (by omega) s.length 0 0 _ _ (by omega)).mono ?_
  intro v h' hq
  unfold numR
  rw [if_neg h0, if_neg h1]
  exact hq
end Go.Proofs.YtcafalcmfdnojaaDoorS
