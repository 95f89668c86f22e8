import Derived.Test.YtcafalcmfdnojaaDoorN12
import Derived.Test.YtcafalcmfdnojaaDoorTA
set_option linter.unusedVariables false
set_option maxRecDepth 20000
namespace Go.Proofs.YtcafalcmfdnojaaDoorS
/-! The program's read. -/
theorem trim_line (l : List UInt8) : Lib.trimSuffix (l ++ [10]) [10] = l := by
  unfold Lib.trimSuffix Lib.hasSuffix
  simp
theorem trim_len (s p : List UInt8) : (Lib.trimSuffix s p).length ≤ s.length := by
  unfold Lib.trimSuffix
  split
  · simp
  · exact Nat.le_refl _
theorem fn1_spec {I : Ctx} {a : List UInt8} {n : Int} {d : Nat} {A : Option Addr} {c : Nat} {ws : List (List UInt8)} {w0 : List UInt8} (hd : CellIs I [] ⟨d, 0, none⟩ (.slice A ws.length c)) (hr : RdC I [] A (strs ws)) (h0 : ws[0]? = some w0) :
    Fn Tryd.prog 37 #[.agg #[.string (bS a), .int .i64 n], .pointer (some ⟨d, 0, none⟩)] I [] (fun v h' => v = .bool (a == w0) ∧ h' = []) := by
  refine r_script_read_fn1 _ _ _ ?_
  refine h_box fun g hg hI => ?_
  dsimp only
  refine ldS mq0 rfl (by kernel_rfl) ?_
  dsimp only
  refine h_loadL (by kernel_rfl) (hd.sub Sub.self) ?_
  dsimp only
  have hlt := (List.getElem?_eq_some_iff.1 h0).1
  refine h_strAt 0 (hr.sub Sub.self) h0 rfl rfl fun _ => ?_
  rw [bS_toList, bS_toList]
  exact h_end0 ⟨rfl, rfl⟩
/-- Which kind has that word. -/
def KindV (w : List UInt8) (v : Value) : Prop := ∃ k : Int, v = .int .i64 k ∧ ∀ j : Nat, j ≤ 8 → word j = w → k = j
theorem word_uniq {i j : Nat} (hi : i ≤ 8) (hj : j ≤ 8) (h : word i = word j) : i = j := by
  have := word_inj ⟨i, by omega⟩ ⟨j, by omega⟩ h
  injection this
theorem ifn_loop {I : Ctx} {F : Nat} {d : Nat} {A : Option Addr} {c : Nat} {ws : List (List UInt8)} {w0 : List UInt8} (hd : CellIs I [] ⟨d, 0, none⟩ (.slice A ws.length c)) (hr : RdC I [] A (strs ws)) (h0 : ws[0]? = some w0) (hF : RdC I [] (some ⟨F, 0, none⟩) formsC) :
    ∀ (q i : Nat) (u : Nat → Value) (h : Mem), i + q = 9 → (∀ j, j < i → word j ≠ w0) →
    Wp Tryd.prog 36 k_slices_IndexFunc_form_1 (t_slices_IndexFunc_form_1 (some ⟨F, 0, none⟩) 9 9 d (i : Nat) u) I h (cl_ fun v h' => KindV w0 v ∧ h' = []) := by
  intro q
  induction q with
  | zero =>
    intro i u h hq hno
    obtain rfl : i = 9 := by omega
    refine r_slices_IndexFunc_form_1 _ _ _ _ _ _ ?_
    refine h_no (by decide) ?_
    exact h_end0 ⟨⟨-1, rfl, fun j hj hw => absurd hw (hno j (by omega))⟩, rfl⟩
  | succ q ih =>
    intro i u h hq hno
    refine r_slices_IndexFunc_form_1 _ _ _ _ _ _ ?_
    refine h_yes (by simp; omega) ?_
    obtain ⟨a, ha, hcs⟩ := (hF.sub (h := h) Sub.self) (by simp [formsC])
    injection ha with ha
    subst ha
    refine h_index (e := 58) (sz := 2) ⟨F, 0, none⟩ (by kernel_rfl) (by kernel_rfl) (by omega) (by omega) rfl ?_
    dsimp only
    have hfc := formsC_at (k := i) (by omega)
    refine h_loadA (cs := [.string (bS (word i)), .int .i64 (num i : Nat)]) (getL [{ s := bS (word i) }, { i := (num i : Nat) }]) (by kernel_rfl) (by kernel_rfl) ?_ rfl ?_
    · rw [Int.toNat_natCast]
      refine hcs.at (i * 2) fun j v hj => ?_
      rw [← hfc, List.getElem?_take] at hj
      split at hj
      · rw [List.getElem?_drop] at hj; exact hj
      · cases hj
    dsimp only [getL]
    refine h_call0 (fun _ => { b := word i == w0 }) ca_script_read_fn1 (fun hl => fn1_spec (hd.up (Sub.self.up hl)) (hr.up (Sub.self.up hl)) h0) rfl ?_
    dsimp only
    refine h_ite (fun t0 => ?_) (fun t0 => ?_)
    · have h1 : word i = w0 := by simpa using t0
      refine h_end0 ⟨⟨_, rfl, fun j hj hw => ?_⟩, rfl⟩
      rw [← h1] at hw
      rw [word_uniq hj (by omega) hw]
    · have h1 : word i ≠ w0 := by simpa using t0
      refine h_stop fun hl2 => ?_
      rw [wrapS (by omega)]
      refine ih (i + 1) _ _ (by omega) fun j hj => ?_
      rcases Nat.lt_succ_iff_lt_or_eq.1 hj with hj | rfl
      · exact hno j hj
      · exact h1
theorem ifn_spec {I : Ctx} {F : Nat} {d : Nat} {A : Option Addr} {c : Nat} {ws : List (List UInt8)} {w0 : List UInt8} (hd : CellIs I [] ⟨d, 0, none⟩ (.slice A ws.length c)) (hr : RdC I [] A (strs ws)) (h0 : ws[0]? = some w0) (hF : RdC I [] (some ⟨F, 0, none⟩) formsC) :
    Fn Tryd.prog 36 #[.slice (some ⟨F, 0, none⟩) 9 9, .func (.func 37) #[] #[.pointer (some ⟨d, 0, none⟩)]] I [] (fun v h' => KindV w0 v ∧ h' = []) := by
  refine r_slices_IndexFunc_form _ _ _ _ ?_
  refine h_stop fun hl2 => ?_
  exact ifn_loop hd hr h0 hF 9 0 _ _ (by omega) (fun j hj => absurd hj (by omega))
/-- What the program's numbers are, as long as the text is a line. -/
def NumsIs (s : List UInt8) (i : Nat) (L : List Int) : Prop := L.length = 3 ∧ ∀ x, may x = true → lineL x = s → L = x.ns.take i ++ List.replicate (3 - i) 0
theorem numsIs_zero (s : List UInt8) : NumsIs s 0 [0, 0, 0] := ⟨rfl, fun x _ _ => rfl⟩
theorem numsIs_succ {s : List UInt8} {i : Nat} {L : List Int} {v : Int} {w : List UInt8} (h : NumsIs s i L) (hi : i < 3) (hw : (spl 32 (Lib.trimSuffix s [10]))[i + 1]? = some w) (hv : ∀ u, Lib.atoiAll w = .ok u → v = u) : NumsIs s (i + 1) (L.set i v) := by
  refine ⟨by rw [List.length_set]; exact h.1, fun x hx he => ?_⟩
  have h1 := h.2 x hx he
  subst he
  have ht : Lib.trimSuffix (lineL x) [10] = bare x := trim_line _
  rw [ht, bare_spl (may_ok hx), List.getElem?_cons_succ] at hw
  have hlt := (List.getElem?_eq_some_iff.1 hw).1
  rw [wds_len] at hlt
  obtain ⟨n, q1, q2, q3⟩ := wds_at hlt
  rw [q2] at hw
  injection hw with hw
  have hvn := hv n (by rw [← hw]; exact atoi_itoa (ok_get (may_ok hx) q3))
  subst hvn
  rw [h1]
  unfold It.ns at q1 ⊢
  match i, hi with
  | 0, _ => simp at q1; simp [q1]
  | 1, _ => simp at q1; simp [q1]
  | 2, _ => simp at q1; simp [q1]
theorem numsIs_end {s : List UInt8} {L : List Int} {x : It} (h : NumsIs s (numI x.k) L) (hx : may x = true) (he : lineL x = s) : L = x.ns := by
  rw [h.2 x hx he]
  have h1 := may_ok hx
  unfold okNs okN at h1
  unfold It.ns
  have hle := numI_le x.k
  generalize numI x.k = m at *
  match m, hle with
  | 0, _ => simp at h1; simp; omega
  | 1, _ => simp at h1; simp; omega
  | 2, _ => simp at h1; simp; omega
  | 3, _ => simp
def arB (y : Nat) (L : List Int) : Nat × Obj := (y, .cells ⟨ints L⟩ 71 (0, 0))
theorem wr_ints {L : List Int} {i : Nat} {v : Int} (h : i < L.length) : wr ⟨ints L⟩ i [.int .i64 v] = ⟨ints (L.set i v)⟩ := by
  apply arr_ext
  intro j
  rw [wr_get (by simp; omega)]
  simp only [List.getElem?_toArray, ints, List.getElem?_map, List.getElem?_set, List.length_singleton]
  by_cases hj : i = j
  · subst hj
    rw [if_pos (by omega), if_pos rfl, if_pos h]
    simp
  · rw [if_neg (by omega), if_neg hj]
theorem read_loop {I : Ctx} (hg : Glob I) {s : List UInt8} (hs : s.length ≤ 60000) {k : Int} (hk : ∀ x, may x = true → lineL x = s → k = x.k) {y2 y7 : Nat} {A : Option Addr} {c : Nat} {ws : List (List UInt8)} (hws : ws = (spl 32 (Lib.trimSuffix s [10])).drop 1) (hwl : ∀ w ∈ ws, w.length ≤ 60000) (hwn : ws.length ≤ 60001) {hr' : Mem} (hr : RdC I hr' A (strs ws)) :
    ∀ (q i : Nat) (L : List Int) (u : Nat → Value) (h : Mem), i + q = ws.length → i ≤ 3 → NumsIs s i L → Pick h [itB y2 zIt, arB y7 L] hr' →
    Wp Tryd.prog 20 k_script_read_1 (t_script_read_1 (bS s) y2 k y7 A ws.length c (ws.length : Nat) (i : Nat) u) I h (cl_ fun v h' => ReadV s v ∧ h' = []) := by
  intro q
  induction q with
  | zero =>
    intro i L u h hq hi3 hL hp
    refine r_script_read_1 _ _ _ _ _ _ _ _ _ _ ?_
    refine holds_perm (cl_.aff _) (g := itB y2 zIt :: arB y7 L :: hr') hp ?_
    refine h_no (by simp; omega) ?_
    have hend : ∀ x, may x = true → lineL x = s → x = itOf k L := by
      intro x hx he
      have h1 : i = numI x.k := by
        subst he
        have : ws.length = numI x.k := by
          rw [hws, show Lib.trimSuffix (lineL x) [10] = bare x from trim_line _, bare_spl (may_ok hx), List.drop_one, List.tail_cons, wds_len]
        omega
      rw [h1] at hL
      rw [numsIs_end hL hx he, hk x hx he]
      rfl
    obtain ⟨a, b, c, rfl⟩ := len3 hL.1
    have hx0 : itOf k [a, b, c] = ⟨k, a, b, c⟩ := rfl
    rw [hx0] at hend
    unfold itB arB zIt itC
    refine h_indexP (e := 3) (sz := 1) (n := 3) 0 (by kernel_rfl) (by kernel_rfl) rfl (by omega) ?_
    dsimp only
    refine ldI (by repeat (first | exact mq0 | apply mq1 | apply mq2)) rfl (by kernel_rfl) ?_
    dsimp only
    refine h_indexP (e := 3) (sz := 1) (n := 3) 1 (by kernel_rfl) (by kernel_rfl) rfl (by omega) ?_
    dsimp only
    refine ldI (by repeat (first | exact mq0 | apply mq1 | apply mq2)) rfl (by kernel_rfl) ?_
    dsimp only
    refine h_indexP (e := 3) (sz := 1) (n := 3) 2 (by kernel_rfl) (by kernel_rfl) rfl (by omega) ?_
    dsimp only
    refine ldI (by repeat (first | exact mq0 | apply mq1 | apply mq2)) rfl (by kernel_rfl) ?_
    dsimp only
    (repeat ((first | refine h_box fun _ _ _ => ?_ | ((with_reducible show holds _ _ _ _ (.sem (Instr.alloc 35 _ _) _ _) _); refine h_alloc zb_Item_35 fun _ _ _ => ?_) | ((with_reducible show holds _ _ _ _ (.sem (Instr.alloc 45 _ _) _ _) _); refine h_alloc zb_string fun _ _ _ => ?_) | ((with_reducible show holds _ _ _ _ (.sem (Instr.alloc 66 _ _) _ _) _); refine h_alloc zb_form_66 fun _ _ _ => ?_) | ((with_reducible show holds _ _ _ _ (.sem (Instr.alloc 71 _ _) _ _) _); refine h_alloc zb_3_int fun _ _ _ => ?_) | ((with_reducible show holds _ _ _ _ (.rd (Instr.loadAt _ (.pointer _)) _ _) _); first | refine ldI (by repeat (first | exact mq0 | apply mq1 | apply mq2)) (by rfl) (by kernel_rfl) ?_ | refine ldL (by repeat (first | exact mq0 | apply mq1 | apply mq2)) (by rfl) (by kernel_rfl) ?_ | refine ldS (by repeat (first | exact mq0 | apply mq1 | apply mq2)) (by rfl) (by kernel_rfl) ?_ | refine la0 (by repeat (first | exact mq0 | apply mq1 | apply mq2)) (by rfl) (by kernel_rfl) ?_ | refine la1 (by repeat (first | exact mq0 | apply mq1 | apply mq2)) (by rfl) (by kernel_rfl) ?_) | ((with_reducible show holds _ _ _ _ (.rd (loadVar _ _) _ _) _); refine lv0 (by repeat (first | exact mq0 | apply mq1 | apply mq2)) (by rfl) (by kernel_rfl) ?_) | ((with_reducible show holds _ _ _ _ (.unit (Instr.storeAt _ _ _) _) _); refine stU (by repeat (first | exact Upd.here | apply Upd.there | apply Upd.right)) (by kernel_rfl) (by rfl) (by simp [Value.cells]) ?_)); try dsimp only [getL]))
    refine h_call [] _ ca_script_line (List.Perm.refl _) (fun hl => line_spec (x := ⟨k, a, b, c⟩) (hg.plus hl)) ?_
    rintro v m1 ⟨⟨s', rfl, hs2⟩, rfl⟩
    refine ⟨getL [{ s := bS s' }, { b := may ⟨k, a, b, c⟩ }], rfl, ?_⟩
    dsimp only [getL]
    (repeat ((first | refine h_box fun _ _ _ => ?_ | ((with_reducible show holds _ _ _ _ (.sem (Instr.alloc 35 _ _) _ _) _); refine h_alloc zb_Item_35 fun _ _ _ => ?_) | ((with_reducible show holds _ _ _ _ (.sem (Instr.alloc 45 _ _) _ _) _); refine h_alloc zb_string fun _ _ _ => ?_) | ((with_reducible show holds _ _ _ _ (.sem (Instr.alloc 66 _ _) _ _) _); refine h_alloc zb_form_66 fun _ _ _ => ?_) | ((with_reducible show holds _ _ _ _ (.sem (Instr.alloc 71 _ _) _ _) _); refine h_alloc zb_3_int fun _ _ _ => ?_) | ((with_reducible show holds _ _ _ _ (.rd (Instr.loadAt _ (.pointer _)) _ _) _); first | refine ldI (by repeat (first | exact mq0 | apply mq1 | apply mq2)) (by rfl) (by kernel_rfl) ?_ | refine ldL (by repeat (first | exact mq0 | apply mq1 | apply mq2)) (by rfl) (by kernel_rfl) ?_ | refine ldS (by repeat (first | exact mq0 | apply mq1 | apply mq2)) (by rfl) (by kernel_rfl) ?_ | refine la0 (by repeat (first | exact mq0 | apply mq1 | apply mq2)) (by rfl) (by kernel_rfl) ?_ | refine la1 (by repeat (first | exact mq0 | apply mq1 | apply mq2)) (by rfl) (by kernel_rfl) ?_) | ((with_reducible show holds _ _ _ _ (.rd (loadVar _ _) _ _) _); refine lv0 (by repeat (first | exact mq0 | apply mq1 | apply mq2)) (by rfl) (by kernel_rfl) ?_) | ((with_reducible show holds _ _ _ _ (.unit (Instr.storeAt _ _ _) _) _); refine stU (by repeat (first | exact Upd.here | apply Upd.there | apply Upd.right)) (by kernel_rfl) (by rfl) (by simp [Value.cells]) ?_)); try dsimp only [getL]))
    refine h_ite (fun t0 => ?_) (fun t0 => ?_)
    · have h0 : may ⟨k, a, b, c⟩ = true := t0
      obtain rfl := hs2 h0
      (repeat ((first | refine h_box fun _ _ _ => ?_ | ((with_reducible show holds _ _ _ _ (.sem (Instr.alloc 35 _ _) _ _) _); refine h_alloc zb_Item_35 fun _ _ _ => ?_) | ((with_reducible show holds _ _ _ _ (.sem (Instr.alloc 45 _ _) _ _) _); refine h_alloc zb_string fun _ _ _ => ?_) | ((with_reducible show holds _ _ _ _ (.sem (Instr.alloc 66 _ _) _ _) _); refine h_alloc zb_form_66 fun _ _ _ => ?_) | ((with_reducible show holds _ _ _ _ (.sem (Instr.alloc 71 _ _) _ _) _); refine h_alloc zb_3_int fun _ _ _ => ?_) | ((with_reducible show holds _ _ _ _ (.rd (Instr.loadAt _ (.pointer _)) _ _) _); first | refine ldI (by repeat (first | exact mq0 | apply mq1 | apply mq2)) (by rfl) (by kernel_rfl) ?_ | refine ldL (by repeat (first | exact mq0 | apply mq1 | apply mq2)) (by rfl) (by kernel_rfl) ?_ | refine ldS (by repeat (first | exact mq0 | apply mq1 | apply mq2)) (by rfl) (by kernel_rfl) ?_ | refine la0 (by repeat (first | exact mq0 | apply mq1 | apply mq2)) (by rfl) (by kernel_rfl) ?_ | refine la1 (by repeat (first | exact mq0 | apply mq1 | apply mq2)) (by rfl) (by kernel_rfl) ?_) | ((with_reducible show holds _ _ _ _ (.rd (loadVar _ _) _ _) _); refine lv0 (by repeat (first | exact mq0 | apply mq1 | apply mq2)) (by rfl) (by kernel_rfl) ?_) | ((with_reducible show holds _ _ _ _ (.unit (Instr.storeAt _ _ _) _) _); refine stU (by repeat (first | exact Upd.here | apply Upd.there | apply Upd.right)) (by kernel_rfl) (by rfl) (by simp [Value.cells]) ?_)); try dsimp only [getL]))
      refine h_end0 ⟨?_, rfl⟩
      rw [bS_toList, bS_toList]
      refine readV_of (x := ⟨k, a, b, c⟩) (fun hb => ⟨h0, beq_iff_eq.1 hb⟩) (fun y hy he => ?_)
      rw [hend y hy he] at he
      exact beq_iff_eq.2 he
    · have h0 : may ⟨k, a, b, c⟩ = false := t0
      (repeat ((first | refine h_box fun _ _ _ => ?_ | ((with_reducible show holds _ _ _ _ (.sem (Instr.alloc 35 _ _) _ _) _); refine h_alloc zb_Item_35 fun _ _ _ => ?_) | ((with_reducible show holds _ _ _ _ (.sem (Instr.alloc 45 _ _) _ _) _); refine h_alloc zb_string fun _ _ _ => ?_) | ((with_reducible show holds _ _ _ _ (.sem (Instr.alloc 66 _ _) _ _) _); refine h_alloc zb_form_66 fun _ _ _ => ?_) | ((with_reducible show holds _ _ _ _ (.sem (Instr.alloc 71 _ _) _ _) _); refine h_alloc zb_3_int fun _ _ _ => ?_) | ((with_reducible show holds _ _ _ _ (.rd (Instr.loadAt _ (.pointer _)) _ _) _); first | refine ldI (by repeat (first | exact mq0 | apply mq1 | apply mq2)) (by rfl) (by kernel_rfl) ?_ | refine ldL (by repeat (first | exact mq0 | apply mq1 | apply mq2)) (by rfl) (by kernel_rfl) ?_ | refine ldS (by repeat (first | exact mq0 | apply mq1 | apply mq2)) (by rfl) (by kernel_rfl) ?_ | refine la0 (by repeat (first | exact mq0 | apply mq1 | apply mq2)) (by rfl) (by kernel_rfl) ?_ | refine la1 (by repeat (first | exact mq0 | apply mq1 | apply mq2)) (by rfl) (by kernel_rfl) ?_) | ((with_reducible show holds _ _ _ _ (.rd (loadVar _ _) _ _) _); refine lv0 (by repeat (first | exact mq0 | apply mq1 | apply mq2)) (by rfl) (by kernel_rfl) ?_) | ((with_reducible show holds _ _ _ _ (.unit (Instr.storeAt _ _ _) _) _); refine stU (by repeat (first | exact Upd.here | apply Upd.there | apply Upd.right)) (by kernel_rfl) (by rfl) (by simp [Value.cells]) ?_)); try dsimp only [getL]))
      refine h_end0 ⟨?_, rfl⟩
      refine readV_none (x := ⟨k, a, b, c⟩) fun y hy he => ?_
      rw [hend y hy he, h0] at hy
      cases hy
  | succ q ih =>
    intro i L u h hq hi3 hL hp
    have hil : i < ws.length := by omega
    have hb : ws[i]? = some ws[i] := List.getElem?_eq_getElem hil
    have hm : ws[i] ∈ ws := List.getElem_mem hil
    generalize ws[i] = w at *
    refine r_script_read_1 _ _ _ _ _ _ _ _ _ _ ?_
    refine holds_perm (cl_.aff _) (g := itB y2 zIt :: arB y7 L :: hr') hp ?_
    have hr2 : RdC I (itB y2 zIt :: arB y7 L :: hr') A (strs ws) := fun hn => let ⟨a, h1, h2⟩ := hr hn; ⟨a, h1, fun j v hj => (h2 j v hj).mono fun z hz => List.mem_cons_of_mem _ (List.mem_cons_of_mem _ hz)⟩
    refine h_yes (by simp; omega) ?_
    refine h_strAt i hr2 hb rfl rfl fun _ => ?_
    refine h_ite (fun t0 => ?_) (fun t0 => ?_)
    · have h0 : i = 3 := by simp at t0; omega
      unfold itB zIt itC
      (repeat ((first | refine h_box fun _ _ _ => ?_ | ((with_reducible show holds _ _ _ _ (.sem (Instr.alloc 35 _ _) _ _) _); refine h_alloc zb_Item_35 fun _ _ _ => ?_) | ((with_reducible show holds _ _ _ _ (.sem (Instr.alloc 45 _ _) _ _) _); refine h_alloc zb_string fun _ _ _ => ?_) | ((with_reducible show holds _ _ _ _ (.sem (Instr.alloc 66 _ _) _ _) _); refine h_alloc zb_form_66 fun _ _ _ => ?_) | ((with_reducible show holds _ _ _ _ (.sem (Instr.alloc 71 _ _) _ _) _); refine h_alloc zb_3_int fun _ _ _ => ?_) | ((with_reducible show holds _ _ _ _ (.rd (Instr.loadAt _ (.pointer _)) _ _) _); first | refine ldI (by repeat (first | exact mq0 | apply mq1 | apply mq2)) (by rfl) (by kernel_rfl) ?_ | refine ldL (by repeat (first | exact mq0 | apply mq1 | apply mq2)) (by rfl) (by kernel_rfl) ?_ | refine ldS (by repeat (first | exact mq0 | apply mq1 | apply mq2)) (by rfl) (by kernel_rfl) ?_ | refine la0 (by repeat (first | exact mq0 | apply mq1 | apply mq2)) (by rfl) (by kernel_rfl) ?_ | refine la1 (by repeat (first | exact mq0 | apply mq1 | apply mq2)) (by rfl) (by kernel_rfl) ?_) | ((with_reducible show holds _ _ _ _ (.rd (loadVar _ _) _ _) _); refine lv0 (by repeat (first | exact mq0 | apply mq1 | apply mq2)) (by rfl) (by kernel_rfl) ?_) | ((with_reducible show holds _ _ _ _ (.unit (Instr.storeAt _ _ _) _) _); refine stU (by repeat (first | exact Upd.here | apply Upd.there | apply Upd.right)) (by kernel_rfl) (by rfl) (by simp [Value.cells]) ?_)); try dsimp only [getL]))
      refine h_end0 ⟨?_, rfl⟩
      refine readV_none (x := zIt) fun x hx he => ?_
      subst he
      have h1 : ws.length = numI x.k := by
        rw [hws, show Lib.trimSuffix (lineL x) [10] = bare x from trim_line _, bare_spl (may_ok hx), List.drop_one, List.tail_cons, wds_len]
      have := numI_le x.k
      omega
    have h0 : i < 3 := by
      have : i ≠ 3 := by simp at t0; omega
      omega
    refine h_call [] _ ca_strconv_Atoi (List.Perm.refl _) (fun hl => atoi_fn (hg.plus hl) (by have := hwl w hm; omega)) ?_
    rintro v m1 ⟨⟨x, e, rfl, hxr, hxu⟩, rfl⟩
    refine ⟨getL [{ i := x }, { v := e }], rfl, ?_⟩
    dsimp only [getL]
    refine h_indexP (e := 3) (sz := 1) (n := 3) i (by kernel_rfl) (by kernel_rfl) rfl h0 ?_
    dsimp only
    rw [Nat.mul_one]
    unfold arB
    refine stU (t0 := 71) (b := y7) (off := i) (arr := ⟨ints L⟩) (h' := itB y2 zIt :: arB y7 (L.set i x) :: hr') ?_ (by kernel_rfl) (Nat.ble_eq_true_of_le (show i + 1 ≤ (ints L).length from by rw [List.length_map, hL.1]; omega)) (by simp [Value.cells]) ?_
    · refine Upd.there ?_
      unfold arB
      rw [show (Value.int .i64 x).cells.toList = [.int .i64 x] from rfl, wr_ints (by rw [hL.1]; exact h0)]
      exact Upd.here
    refine h_stop fun hl2 => ?_
    rw [wrapS (by omega)]
    refine ih (i + 1) (L.set i x) _ _ (by omega) (by omega) (numsIs_succ hL h0 (w := w) ?_ hxu) (List.Perm.refl _)
    · rw [hws, List.getElem?_drop, Nat.add_comm] at hb
      exact hb
theorem split_len_le : ∀ (sg : UInt8) (s : List UInt8), (spl sg s).length ≤ s.length + 1 ∧ ∀ w ∈ spl sg s, w.length ≤ s.length
  | sg, [] => by simp [spl]
  | sg, c :: r => by
    obtain ⟨h1, h2⟩ := split_len_le sg r
    simp only [spl]
    split
    · refine ⟨by simp; omega, fun w hw => ?_⟩
      rcases List.mem_cons.1 hw with rfl | hw
      · simp
      · have := h2 w hw; simp; omega
    · cases hc : spl sg r with
      | nil => exact absurd hc (spl_ne _ _)
      | cons x xs =>
        rw [hc] at h1 h2
        refine ⟨by simp at h1 ⊢; omega, fun w hw => ?_⟩
        rcases List.mem_cons.1 hw with rfl | hw
        · have := h2 x List.mem_cons_self; simp; omega
        · have := h2 w (List.mem_cons_of_mem _ hw); simp; omega
theorem read_spec {I : Ctx} (hg : Glob I) {s : List UInt8} (hs : s.length ≤ 60000) :
    Fn Tryd.prog 20 #[.string (bS s)] I [] (fun v h' => ReadV s v ∧ h' = []) := by
  refine r_script_read _ ?_
  ((first | refine h_box fun _ _ _ => ?_ | ((with_reducible show holds _ _ _ _ (.sem (Instr.alloc 35 _ _) _ _) _); refine h_alloc zb_Item_35 fun _ _ _ => ?_) | ((with_reducible show holds _ _ _ _ (.sem (Instr.alloc 45 _ _) _ _) _); refine h_alloc zb_string fun _ _ _ => ?_) | ((with_reducible show holds _ _ _ _ (.sem (Instr.alloc 66 _ _) _ _) _); refine h_alloc zb_form_66 fun _ _ _ => ?_) | ((with_reducible show holds _ _ _ _ (.sem (Instr.alloc 71 _ _) _ _) _); refine h_alloc zb_3_int fun _ _ _ => ?_) | ((with_reducible show holds _ _ _ _ (.rd (Instr.loadAt _ (.pointer _)) _ _) _); first | refine ldI (by repeat (first | exact mq0 | apply mq1 | apply mq2)) (by rfl) (by kernel_rfl) ?_ | refine ldL (by repeat (first | exact mq0 | apply mq1 | apply mq2)) (by rfl) (by kernel_rfl) ?_ | refine ldS (by repeat (first | exact mq0 | apply mq1 | apply mq2)) (by rfl) (by kernel_rfl) ?_ | refine la0 (by repeat (first | exact mq0 | apply mq1 | apply mq2)) (by rfl) (by kernel_rfl) ?_ | refine la1 (by repeat (first | exact mq0 | apply mq1 | apply mq2)) (by rfl) (by kernel_rfl) ?_) | ((with_reducible show holds _ _ _ _ (.rd (loadVar _ _) _ _) _); refine lv0 (by repeat (first | exact mq0 | apply mq1 | apply mq2)) (by rfl) (by kernel_rfl) ?_) | ((with_reducible show holds _ _ _ _ (.unit (Instr.storeAt _ _ _) _) _); refine stU (by repeat (first | exact Upd.here | apply Upd.there | apply Upd.right)) (by kernel_rfl) (by rfl) (by simp [Value.cells]) ?_)); try dsimp only [getL])
  have htl := trim_len s [10]
  refine h_call0 (fun _ => { s := bS (Lib.trimSuffix s [10]) }) ca_strings_TrimSuffix (fun hl => trim_fn (p := [10]) (by omega)) rfl ?_
  dsimp only
  refine h_call [] _ ca_strings_Split (List.Perm.refl _) (fun hl => split_fn (sg := 32) (hg.plus hl) (by omega)) ?_
  rintro v m1 ⟨N, o, ⟨rfl, rfl⟩, rfl⟩
  refine ⟨fun _ => { A := some ⟨N, 0, none⟩, n := (splitL (Lib.trimSuffix s [10]) 32).length, c := (splitL (Lib.trimSuffix s [10]) 32).length }, rfl, ?_⟩
  dsimp only
  rw [split_spl]
  obtain ⟨hl1, hl2⟩ := split_len_le 32 (Lib.trimSuffix s [10])
  have hne := spl_ne 32 (Lib.trimSuffix s [10])
  generalize hws : spl 32 (Lib.trimSuffix s [10]) = ws at *
  have hpos : 0 < ws.length := List.length_pos_iff.2 hne
  obtain ⟨w0, hw0⟩ : ∃ w0, ws[0]? = some w0 := ⟨_, List.getElem?_eq_getElem hpos⟩
  ((first | refine h_box fun _ _ _ => ?_ | ((with_reducible show holds _ _ _ _ (.sem (Instr.alloc 35 _ _) _ _) _); refine h_alloc zb_Item_35 fun _ _ _ => ?_) | ((with_reducible show holds _ _ _ _ (.sem (Instr.alloc 45 _ _) _ _) _); refine h_alloc zb_string fun _ _ _ => ?_) | ((with_reducible show holds _ _ _ _ (.sem (Instr.alloc 66 _ _) _ _) _); refine h_alloc zb_form_66 fun _ _ _ => ?_) | ((with_reducible show holds _ _ _ _ (.sem (Instr.alloc 71 _ _) _ _) _); refine h_alloc zb_3_int fun _ _ _ => ?_) | ((with_reducible show holds _ _ _ _ (.rd (Instr.loadAt _ (.pointer _)) _ _) _); first | refine ldI (by repeat (first | exact mq0 | apply mq1 | apply mq2)) (by rfl) (by kernel_rfl) ?_ | refine ldL (by repeat (first | exact mq0 | apply mq1 | apply mq2)) (by rfl) (by kernel_rfl) ?_ | refine ldS (by repeat (first | exact mq0 | apply mq1 | apply mq2)) (by rfl) (by kernel_rfl) ?_ | refine la0 (by repeat (first | exact mq0 | apply mq1 | apply mq2)) (by rfl) (by kernel_rfl) ?_ | refine la1 (by repeat (first | exact mq0 | apply mq1 | apply mq2)) (by rfl) (by kernel_rfl) ?_) | ((with_reducible show holds _ _ _ _ (.rd (loadVar _ _) _ _) _); refine lv0 (by repeat (first | exact mq0 | apply mq1 | apply mq2)) (by rfl) (by kernel_rfl) ?_) | ((with_reducible show holds _ _ _ _ (.unit (Instr.storeAt _ _ _) _) _); refine stU (by repeat (first | exact Upd.here | apply Upd.there | apply Upd.right)) (by kernel_rfl) (by rfl) (by simp [Value.cells]) ?_)); try dsimp only [getL])
  ((first | refine h_box fun _ _ _ => ?_ | ((with_reducible show holds _ _ _ _ (.sem (Instr.alloc 35 _ _) _ _) _); refine h_alloc zb_Item_35 fun _ _ _ => ?_) | ((with_reducible show holds _ _ _ _ (.sem (Instr.alloc 45 _ _) _ _) _); refine h_alloc zb_string fun _ _ _ => ?_) | ((with_reducible show holds _ _ _ _ (.sem (Instr.alloc 66 _ _) _ _) _); refine h_alloc zb_form_66 fun _ _ _ => ?_) | ((with_reducible show holds _ _ _ _ (.sem (Instr.alloc 71 _ _) _ _) _); refine h_alloc zb_3_int fun _ _ _ => ?_) | ((with_reducible show holds _ _ _ _ (.rd (Instr.loadAt _ (.pointer _)) _ _) _); first | refine ldI (by repeat (first | exact mq0 | apply mq1 | apply mq2)) (by rfl) (by kernel_rfl) ?_ | refine ldL (by repeat (first | exact mq0 | apply mq1 | apply mq2)) (by rfl) (by kernel_rfl) ?_ | refine ldS (by repeat (first | exact mq0 | apply mq1 | apply mq2)) (by rfl) (by kernel_rfl) ?_ | refine la0 (by repeat (first | exact mq0 | apply mq1 | apply mq2)) (by rfl) (by kernel_rfl) ?_ | refine la1 (by repeat (first | exact mq0 | apply mq1 | apply mq2)) (by rfl) (by kernel_rfl) ?_) | ((with_reducible show holds _ _ _ _ (.rd (loadVar _ _) _ _) _); refine lv0 (by repeat (first | exact mq0 | apply mq1 | apply mq2)) (by rfl) (by kernel_rfl) ?_) | ((with_reducible show holds _ _ _ _ (.unit (Instr.storeAt _ _ _) _) _); refine stU (by repeat (first | exact Upd.here | apply Upd.there | apply Upd.right)) (by kernel_rfl) (by rfl) (by simp [Value.cells]) ?_)); try dsimp only [getL])
  refine h_call0 (getL [{ s := bS (word 0) }, { i := 2 }, { s := bS (word 1) }, { i := 1 }, { s := bS (word 2) }, { i := 1 }, { s := bS (word 3) }, { i := 1 }, { s := bS (word 4) }, { i := 1 }, { s := bS (word 5) }, { i := 1 }, { s := bS (word 6) }, { i := 3 }, { s := bS (word 7) }, { i := 3 }, { s := bS (word 8) }, { i := 1 }]) ca_script_forms (fun hl => forms_spec) rfl ?_
  dsimp only [getL]
  ((first | refine h_box fun _ _ _ => ?_ | ((with_reducible show holds _ _ _ _ (.sem (Instr.alloc 35 _ _) _ _) _); refine h_alloc zb_Item_35 fun _ _ _ => ?_) | ((with_reducible show holds _ _ _ _ (.sem (Instr.alloc 45 _ _) _ _) _); refine h_alloc zb_string fun _ _ _ => ?_) | ((with_reducible show holds _ _ _ _ (.sem (Instr.alloc 66 _ _) _ _) _); refine h_alloc zb_form_66 fun _ _ _ => ?_) | ((with_reducible show holds _ _ _ _ (.sem (Instr.alloc 71 _ _) _ _) _); refine h_alloc zb_3_int fun _ _ _ => ?_) | ((with_reducible show holds _ _ _ _ (.rd (Instr.loadAt _ (.pointer _)) _ _) _); first | refine ldI (by repeat (first | exact mq0 | apply mq1 | apply mq2)) (by rfl) (by kernel_rfl) ?_ | refine ldL (by repeat (first | exact mq0 | apply mq1 | apply mq2)) (by rfl) (by kernel_rfl) ?_ | refine ldS (by repeat (first | exact mq0 | apply mq1 | apply mq2)) (by rfl) (by kernel_rfl) ?_ | refine la0 (by repeat (first | exact mq0 | apply mq1 | apply mq2)) (by rfl) (by kernel_rfl) ?_ | refine la1 (by repeat (first | exact mq0 | apply mq1 | apply mq2)) (by rfl) (by kernel_rfl) ?_) | ((with_reducible show holds _ _ _ _ (.rd (loadVar _ _) _ _) _); refine lv0 (by repeat (first | exact mq0 | apply mq1 | apply mq2)) (by rfl) (by kernel_rfl) ?_) | ((with_reducible show holds _ _ _ _ (.unit (Instr.storeAt _ _ _) _) _); refine stU (by repeat (first | exact Upd.here | apply Upd.there | apply Upd.right)) (by kernel_rfl) (by rfl) (by simp [Value.cells]) ?_)); try dsimp only [getL])
  ((first | refine h_box fun _ _ _ => ?_ | ((with_reducible show holds _ _ _ _ (.sem (Instr.alloc 35 _ _) _ _) _); refine h_alloc zb_Item_35 fun _ _ _ => ?_) | ((with_reducible show holds _ _ _ _ (.sem (Instr.alloc 45 _ _) _ _) _); refine h_alloc zb_string fun _ _ _ => ?_) | ((with_reducible show holds _ _ _ _ (.sem (Instr.alloc 66 _ _) _ _) _); refine h_alloc zb_form_66 fun _ _ _ => ?_) | ((with_reducible show holds _ _ _ _ (.sem (Instr.alloc 71 _ _) _ _) _); refine h_alloc zb_3_int fun _ _ _ => ?_) | ((with_reducible show holds _ _ _ _ (.rd (Instr.loadAt _ (.pointer _)) _ _) _); first | refine ldI (by repeat (first | exact mq0 | apply mq1 | apply mq2)) (by rfl) (by kernel_rfl) ?_ | refine ldL (by repeat (first | exact mq0 | apply mq1 | apply mq2)) (by rfl) (by kernel_rfl) ?_ | refine ldS (by repeat (first | exact mq0 | apply mq1 | apply mq2)) (by rfl) (by kernel_rfl) ?_ | refine la0 (by repeat (first | exact mq0 | apply mq1 | apply mq2)) (by rfl) (by kernel_rfl) ?_ | refine la1 (by repeat (first | exact mq0 | apply mq1 | apply mq2)) (by rfl) (by kernel_rfl) ?_) | ((with_reducible show holds _ _ _ _ (.rd (loadVar _ _) _ _) _); refine lv0 (by repeat (first | exact mq0 | apply mq1 | apply mq2)) (by rfl) (by kernel_rfl) ?_) | ((with_reducible show holds _ _ _ _ (.unit (Instr.storeAt _ _ _) _) _); refine stU (by repeat (first | exact Upd.here | apply Upd.there | apply Upd.right)) (by kernel_rfl) (by rfl) (by simp [Value.cells]) ?_)); try dsimp only [getL])
  refine h_cutP (e := 58) (sz := 2) (n := 9) (by kernel_rfl) (by kernel_rfl) (by omega) ?_
  dsimp only
  refine h_call [] _ ca_slices_IndexFunc_form (List.Perm.refl _) (fun hl => ifn_spec (A := some ⟨N, 0, none⟩) (c := ws.length) (ws := ws) (w0 := w0) ?_ ?_ hw0 ?_) ?_
  · refine CellIs.all hl ?_
    apply cellM
    repeat (first | exact mq0 | apply mq1 | apply mq2)
    rfl
  · exact RdC.all hl (fun _ => ⟨_, rfl, cellsM' (by repeat (first | exact mq0 | apply mq1 | apply mq2)) (by show ((strs ws).drop 0).take (strs ws).length = strs ws; rw [List.drop_zero, List.take_length])⟩)
  · exact RdC.all hl (fun _ => ⟨_, rfl, cellsM' (by repeat (first | exact mq0 | apply mq1 | apply mq2)) rfl⟩)
  rintro v m1 ⟨⟨k, rfl, hk⟩, rfl⟩
  refine ⟨fun _ => { i := k }, rfl, ?_⟩
  dsimp only
  ((first | refine h_box fun _ _ _ => ?_ | ((with_reducible show holds _ _ _ _ (.sem (Instr.alloc 35 _ _) _ _) _); refine h_alloc zb_Item_35 fun _ _ _ => ?_) | ((with_reducible show holds _ _ _ _ (.sem (Instr.alloc 45 _ _) _ _) _); refine h_alloc zb_string fun _ _ _ => ?_) | ((with_reducible show holds _ _ _ _ (.sem (Instr.alloc 66 _ _) _ _) _); refine h_alloc zb_form_66 fun _ _ _ => ?_) | ((with_reducible show holds _ _ _ _ (.sem (Instr.alloc 71 _ _) _ _) _); refine h_alloc zb_3_int fun _ _ _ => ?_) | ((with_reducible show holds _ _ _ _ (.rd (Instr.loadAt _ (.pointer _)) _ _) _); first | refine ldI (by repeat (first | exact mq0 | apply mq1 | apply mq2)) (by rfl) (by kernel_rfl) ?_ | refine ldL (by repeat (first | exact mq0 | apply mq1 | apply mq2)) (by rfl) (by kernel_rfl) ?_ | refine ldS (by repeat (first | exact mq0 | apply mq1 | apply mq2)) (by rfl) (by kernel_rfl) ?_ | refine la0 (by repeat (first | exact mq0 | apply mq1 | apply mq2)) (by rfl) (by kernel_rfl) ?_ | refine la1 (by repeat (first | exact mq0 | apply mq1 | apply mq2)) (by rfl) (by kernel_rfl) ?_) | ((with_reducible show holds _ _ _ _ (.rd (loadVar _ _) _ _) _); refine lv0 (by repeat (first | exact mq0 | apply mq1 | apply mq2)) (by rfl) (by kernel_rfl) ?_) | ((with_reducible show holds _ _ _ _ (.unit (Instr.storeAt _ _ _) _) _); refine stU (by repeat (first | exact Upd.here | apply Upd.there | apply Upd.right)) (by kernel_rfl) (by rfl) (by simp [Value.cells]) ?_)); try dsimp only [getL])
  ((first | refine h_box fun _ _ _ => ?_ | ((with_reducible show holds _ _ _ _ (.sem (Instr.alloc 35 _ _) _ _) _); refine h_alloc zb_Item_35 fun _ _ _ => ?_) | ((with_reducible show holds _ _ _ _ (.sem (Instr.alloc 45 _ _) _ _) _); refine h_alloc zb_string fun _ _ _ => ?_) | ((with_reducible show holds _ _ _ _ (.sem (Instr.alloc 66 _ _) _ _) _); refine h_alloc zb_form_66 fun _ _ _ => ?_) | ((with_reducible show holds _ _ _ _ (.sem (Instr.alloc 71 _ _) _ _) _); refine h_alloc zb_3_int fun _ _ _ => ?_) | ((with_reducible show holds _ _ _ _ (.rd (Instr.loadAt _ (.pointer _)) _ _) _); first | refine ldI (by repeat (first | exact mq0 | apply mq1 | apply mq2)) (by rfl) (by kernel_rfl) ?_ | refine ldL (by repeat (first | exact mq0 | apply mq1 | apply mq2)) (by rfl) (by kernel_rfl) ?_ | refine ldS (by repeat (first | exact mq0 | apply mq1 | apply mq2)) (by rfl) (by kernel_rfl) ?_ | refine la0 (by repeat (first | exact mq0 | apply mq1 | apply mq2)) (by rfl) (by kernel_rfl) ?_ | refine la1 (by repeat (first | exact mq0 | apply mq1 | apply mq2)) (by rfl) (by kernel_rfl) ?_) | ((with_reducible show holds _ _ _ _ (.rd (loadVar _ _) _ _) _); refine lv0 (by repeat (first | exact mq0 | apply mq1 | apply mq2)) (by rfl) (by kernel_rfl) ?_) | ((with_reducible show holds _ _ _ _ (.unit (Instr.storeAt _ _ _) _) _); refine stU (by repeat (first | exact Upd.here | apply Upd.there | apply Upd.right)) (by kernel_rfl) (by rfl) (by simp [Value.cells]) ?_)); try dsimp only [getL])
  refine h_cut (e := 9) (sz := 1) 1 ws.length ws.length (by kernel_rfl) (by kernel_rfl) (by simp [okB]) (by simp [okB]) (by simp [okB]) (fun h => absurd rfl h) hpos (Nat.le_refl _) (Nat.le_refl _) ?_
  dsimp only
  refine h_stop fun hlive => ?_
  have hdl : ws.length - 1 = (ws.drop 1).length := by simp
  rw [hdl]
  refine read_loop hg hs (ws := ws.drop 1) (k := k) ?_ (by rw [hws]) (fun w hw => ?_) (by rw [← hdl]; omega) (hr' := _) ?_ (ws.drop 1).length 0 [0, 0, 0] _ _ (by omega) (by omega) (numsIs_zero s) (show Pick _ ([itB _ zIt] ++ [arB _ [0, 0, 0]]) _ from (by repeat (first | exact Pick.here | exact Pick.one | exact Pick.all | apply Pick.two | apply Pick.cons | apply Pick.app)))
  · intro x hx he
    subst he
    rw [show Lib.trimSuffix (lineL x) [10] = bare x from trim_line _, bare_spl (may_ok hx)] at hws
    rw [← hws] at hw0
    simp at hw0
    obtain ⟨hk1, hk2⟩ := may_kind hx
    have := hk x.k.toNat (by omega) (by rw [← (kind_in ⟨hk1, by omega⟩).1, hw0])
    rw [this]
    omega
  · have := hl2 w (List.mem_of_mem_drop hw); omega
  · rw [show strs (ws.drop 1) = ((strs ws).drop (1 * 1)).take ((ws.length - 1) * 1) by
      rw [Nat.mul_one, Nat.mul_one, List.take_of_length_le (by simp)]; simp [strs]]
    refine RdC.cut (fun _ => ⟨_, rfl, ?_⟩) (Nat.le_refl _)
    refine cellsM' (arr := ⟨strs ws⟩) (t := 9) (fz := (0, 0)) (by repeat (first | exact mq0 | apply mq1 | apply mq2)) ?_
    show ((strs ws).drop 0).take (strs ws).length = strs ws
    rw [List.drop_zero, List.take_length]
end Go.Proofs.YtcafalcmfdnojaaDoorS
