import Derived.Test.YtcafalcmfdnojaaDoorN10
import Derived.Test.YtcafalcmfdnojaaDoorTA
set_option linter.unusedVariables false
set_option maxRecDepth 20000
namespace Go.Proofs.YtcafalcmfdnojaaDoorS
abbrev OwnI (A : Option Addr) (n c : Nat) (l : List Int) (m : Mem) : Prop := Own 3 1 A n c (ints l) m
def itB (y : Nat) (x : It) : Nat × Obj := (y, .cells ⟨itC x⟩ 35 (0, 0))
theorem ints_set {l : List Int} {i : Nat} {v : Int} (h : i < l.length) : wrL (ints l) i [.int .i64 v] = ints (l.set i v) := by
  apply List.ext_getElem?
  intro j
  rw [wrL_get (by simp; omega)]
  simp only [ints, List.getElem?_map, List.getElem?_set, List.length_singleton]
  by_cases hj : i = j
  · subst hj
    rw [if_pos (by omega), if_pos rfl, if_pos h]
    simp
  · rw [if_neg (by omega), if_neg hj]
theorem len3 {L : List Int} (h : L.length = 3) : ∃ a b c, L = [a, b, c] := by
  match L, h with
  | [a, b, c], _ => exact ⟨a, b, c, rfl⟩
/-- What the reference answers for an item that it has read. -/
theorem rread_end {s : List UInt8} {k : Nat} (hk : k ≤ 8) (hs : (spl 32 s).length = num k + 1) (hw : (spl 32 s)[0]? = some (word k)) :
    ∀ y, may y = true → lineL y = s ++ [10] → y = itOf k (fill 0 ((spl 32 s).drop 1) [0, 0, 0]) := by
  intro y hy he
  obtain ⟨h1, h2⟩ := line_words hy he
  rw [h2] at hs hw
  rw [h2]
  have hkk := kind_in (k := (k : Int)) ⟨by omega, by omega⟩
  rw [Int.toNat_natCast] at hkk
  rw [List.length_cons, wds_len] at hs
  have hn : numI y.k = numI k := by rw [hkk.2]; omega
  simp at hw
  have h3 : (k : Int) = y.k := wordI_inj (by rw [← hn]; exact may_num hy) (may_num hy) (by rw [hkk.1, hw])
  rw [h3, List.drop_one, List.tail_cons, fill_wds (may_ok hy)]
  rfl
theorem rread_loop2 {I : Ctx} {s : List UInt8} (hsl : s.length ≤ 100) {k : Nat} (hk : k ≤ 8) (hs : (spl 32 s).length = num k + 1) (hw : (spl 32 s)[0]? = some (word k)) {y2 : Nat} {A4 : Option Addr} {c4 : Nat} {g : Nat} {c6 : Nat} {m1 : Mem} (ho1 : OwnS A4 (spl 32 s).length c4 (spl 32 s) m1) :
    ∀ (q i : Nat) (L : List Int) (u : Nat → Value) (h m2 hr' : Mem), i + 1 + q = (spl 32 s).length → L.length = 3 → fill i ((spl 32 s).drop (i + 1)) L = fill 0 ((spl 32 s).drop 1) [0, 0, 0] →
    OwnI (some ⟨g, 0, none⟩) 3 c6 L m2 → Pick h (itB y2 zIt :: (m1 ++ m2)) hr' →
    Wp Tryd.prog 21 k_octroiref23_read_2 (t_octroiref23_read_2 (bS s) y2 A4 (spl 32 s).length c4 (k : Nat) (some ⟨g, 0, none⟩) 3 c6 ((i + 1 : Nat) : Int) u) I h (cl_ fun v h' => ReadV (s ++ [10]) v ∧ h' = []) := by
  have hn3 : num k ≤ 3 := by have := numI_le (k : Int); rw [(kind_in (k := (k : Int)) ⟨by omega, by omega⟩).2] at this; simpa using this
  intro q
  induction q with
  | zero =>
    intro i L u h m2 hr' hq hL hf ho2 hp
    refine r_octroiref23_read_2 _ _ _ _ _ _ _ _ _ _ _ ?_
    refine holds_perm (cl_.aff _) (g := itB y2 zIt :: (m1 ++ (m2 ++ hr'))) (by simpa [Pick] using hp) ?_
    refine h_no (by simp; omega) ?_
    rw [List.drop_eq_nil_of_le (by omega)] at hf
    have hend := rread_end hk hs hw
    rw [← hf] at hend
    simp only [fill] at hend
    obtain ⟨a, b, c, rfl⟩ := len3 hL
    have hri : RdC I (itB y2 zIt :: (m1 ++ (m2 ++ hr'))) (some ⟨g, 0, none⟩) (ints [a, b, c]) := ho2.rd (by intro z hz; simp [hz])
    refine h_intAt 0 hri rfl rfl rfl fun _ => ?_
    refine h_intAt 1 hri rfl rfl rfl fun _ => ?_
    refine h_intAt 2 hri rfl rfl rfl fun _ => ?_
    unfold itB zIt itC
    (repeat ((first | ((with_reducible show holds _ _ _ _ (.sem (Instr.alloc 35 _ _) _ _) _); refine h_alloc zb_Item_35 fun _ _ _ => ?_) | ((with_reducible show holds _ _ _ _ (.rd (Instr.loadAt _ (.pointer _)) _ _) _); first | refine ldI (by repeat (first | exact mq0 | apply mq1 | apply mq2)) (by rfl) (by kernel_rfl) ?_ | refine ldS (by repeat (first | exact mq0 | apply mq1 | apply mq2)) (by rfl) (by kernel_rfl) ?_ | refine la0 (by repeat (first | exact mq0 | apply mq1 | apply mq2)) (by rfl) (by kernel_rfl) ?_) | ((with_reducible show holds _ _ _ _ (.rd (loadVar _ _) _ _) _); refine lv0 (by repeat (first | exact mq0 | apply mq1 | apply mq2)) (by rfl) (by kernel_rfl) ?_) | ((with_reducible show holds _ _ _ _ (.unit (Instr.storeAt _ _ _) _) _); refine stU (by repeat (first | exact Upd.here | apply Upd.there | apply Upd.right)) (by kernel_rfl) (by rfl) (by simp [Value.cells]) ?_) | ((with_reducible show holds _ _ _ _ (.pin (vN (Instr.loadAt _ _)) _ _) _); first | refine pnA (by repeat (first | exact mq0 | apply mq1 | apply mq2)) (by rfl) (by kernel_rfl) ?_ | refine pn1 (by repeat (first | exact mq0 | apply mq1 | apply mq2)) (by rfl) (by kernel_rfl) ?_)); try dsimp only [getL]))
    refine h_call0 (fun _ => { b := may ⟨k, a, b, c⟩ }) ca_octroiref23_May (fun hl => may_spec (x := ⟨k, a, b, c⟩)) rfl ?_
    dsimp only
    (repeat ((first | ((with_reducible show holds _ _ _ _ (.sem (Instr.alloc 35 _ _) _ _) _); refine h_alloc zb_Item_35 fun _ _ _ => ?_) | ((with_reducible show holds _ _ _ _ (.rd (Instr.loadAt _ (.pointer _)) _ _) _); first | refine ldI (by repeat (first | exact mq0 | apply mq1 | apply mq2)) (by rfl) (by kernel_rfl) ?_ | refine ldS (by repeat (first | exact mq0 | apply mq1 | apply mq2)) (by rfl) (by kernel_rfl) ?_ | refine la0 (by repeat (first | exact mq0 | apply mq1 | apply mq2)) (by rfl) (by kernel_rfl) ?_) | ((with_reducible show holds _ _ _ _ (.rd (loadVar _ _) _ _) _); refine lv0 (by repeat (first | exact mq0 | apply mq1 | apply mq2)) (by rfl) (by kernel_rfl) ?_) | ((with_reducible show holds _ _ _ _ (.unit (Instr.storeAt _ _ _) _) _); refine stU (by repeat (first | exact Upd.here | apply Upd.there | apply Upd.right)) (by kernel_rfl) (by rfl) (by simp [Value.cells]) ?_) | ((with_reducible show holds _ _ _ _ (.pin (vN (Instr.loadAt _ _)) _ _) _); first | refine pnA (by repeat (first | exact mq0 | apply mq1 | apply mq2)) (by rfl) (by kernel_rfl) ?_ | refine pn1 (by repeat (first | exact mq0 | apply mq1 | apply mq2)) (by rfl) (by kernel_rfl) ?_)); try dsimp only [getL]))
    refine h_ite (fun t0 => ?_) (fun t0 => ?_)
    · have h0 : may ⟨k, a, b, c⟩ = true := t0
      (repeat ((first | ((with_reducible show holds _ _ _ _ (.sem (Instr.alloc 35 _ _) _ _) _); refine h_alloc zb_Item_35 fun _ _ _ => ?_) | ((with_reducible show holds _ _ _ _ (.rd (Instr.loadAt _ (.pointer _)) _ _) _); first | refine ldI (by repeat (first | exact mq0 | apply mq1 | apply mq2)) (by rfl) (by kernel_rfl) ?_ | refine ldS (by repeat (first | exact mq0 | apply mq1 | apply mq2)) (by rfl) (by kernel_rfl) ?_ | refine la0 (by repeat (first | exact mq0 | apply mq1 | apply mq2)) (by rfl) (by kernel_rfl) ?_) | ((with_reducible show holds _ _ _ _ (.rd (loadVar _ _) _ _) _); refine lv0 (by repeat (first | exact mq0 | apply mq1 | apply mq2)) (by rfl) (by kernel_rfl) ?_) | ((with_reducible show holds _ _ _ _ (.unit (Instr.storeAt _ _ _) _) _); refine stU (by repeat (first | exact Upd.here | apply Upd.there | apply Upd.right)) (by kernel_rfl) (by rfl) (by simp [Value.cells]) ?_) | ((with_reducible show holds _ _ _ _ (.pin (vN (Instr.loadAt _ _)) _ _) _); first | refine pnA (by repeat (first | exact mq0 | apply mq1 | apply mq2)) (by rfl) (by kernel_rfl) ?_ | refine pn1 (by repeat (first | exact mq0 | apply mq1 | apply mq2)) (by rfl) (by kernel_rfl) ?_)); try dsimp only [getL]))
      refine h_addS (y := [10]) (by simp; omega) ?_
      dsimp only
      refine h_call0 (fun _ => { s := bS (lineL ⟨k, a, b, c⟩) }) ca_octroiref23_line (fun hl => rline_spec (x := ⟨k, a, b, c⟩) (may_ok h0)) rfl ?_
      dsimp only
      refine pn_addS (y := [10]) (by simp; omega) ?_
      (repeat ((first | ((with_reducible show holds _ _ _ _ (.sem (Instr.alloc 35 _ _) _ _) _); refine h_alloc zb_Item_35 fun _ _ _ => ?_) | ((with_reducible show holds _ _ _ _ (.rd (Instr.loadAt _ (.pointer _)) _ _) _); first | refine ldI (by repeat (first | exact mq0 | apply mq1 | apply mq2)) (by rfl) (by kernel_rfl) ?_ | refine ldS (by repeat (first | exact mq0 | apply mq1 | apply mq2)) (by rfl) (by kernel_rfl) ?_ | refine la0 (by repeat (first | exact mq0 | apply mq1 | apply mq2)) (by rfl) (by kernel_rfl) ?_) | ((with_reducible show holds _ _ _ _ (.rd (loadVar _ _) _ _) _); refine lv0 (by repeat (first | exact mq0 | apply mq1 | apply mq2)) (by rfl) (by kernel_rfl) ?_) | ((with_reducible show holds _ _ _ _ (.unit (Instr.storeAt _ _ _) _) _); refine stU (by repeat (first | exact Upd.here | apply Upd.there | apply Upd.right)) (by kernel_rfl) (by rfl) (by simp [Value.cells]) ?_) | ((with_reducible show holds _ _ _ _ (.pin (vN (Instr.loadAt _ _)) _ _) _); first | refine pnA (by repeat (first | exact mq0 | apply mq1 | apply mq2)) (by rfl) (by kernel_rfl) ?_ | refine pn1 (by repeat (first | exact mq0 | apply mq1 | apply mq2)) (by rfl) (by kernel_rfl) ?_)); try dsimp only [getL]))
      refine pn_addS (y := [10]) (by simp; omega) ?_
      (repeat ((first | ((with_reducible show holds _ _ _ _ (.sem (Instr.alloc 35 _ _) _ _) _); refine h_alloc zb_Item_35 fun _ _ _ => ?_) | ((with_reducible show holds _ _ _ _ (.rd (Instr.loadAt _ (.pointer _)) _ _) _); first | refine ldI (by repeat (first | exact mq0 | apply mq1 | apply mq2)) (by rfl) (by kernel_rfl) ?_ | refine ldS (by repeat (first | exact mq0 | apply mq1 | apply mq2)) (by rfl) (by kernel_rfl) ?_ | refine la0 (by repeat (first | exact mq0 | apply mq1 | apply mq2)) (by rfl) (by kernel_rfl) ?_) | ((with_reducible show holds _ _ _ _ (.rd (loadVar _ _) _ _) _); refine lv0 (by repeat (first | exact mq0 | apply mq1 | apply mq2)) (by rfl) (by kernel_rfl) ?_) | ((with_reducible show holds _ _ _ _ (.unit (Instr.storeAt _ _ _) _) _); refine stU (by repeat (first | exact Upd.here | apply Upd.there | apply Upd.right)) (by kernel_rfl) (by rfl) (by simp [Value.cells]) ?_) | ((with_reducible show holds _ _ _ _ (.pin (vN (Instr.loadAt _ _)) _ _) _); first | refine pnA (by repeat (first | exact mq0 | apply mq1 | apply mq2)) (by rfl) (by kernel_rfl) ?_ | refine pn1 (by repeat (first | exact mq0 | apply mq1 | apply mq2)) (by rfl) (by kernel_rfl) ?_)); try dsimp only [getL]))
      refine h_end0 ⟨?_, rfl⟩
      rw [bS_toList, bS_toList]
      refine readV_of (x := ⟨k, a, b, c⟩) (fun hb => ⟨h0, by simpa using hb⟩) (fun y hy he => ?_)
      have := hend y hy he
      rw [this] at he
      exact beq_iff_eq.2 he
    · have h0 : may ⟨k, a, b, c⟩ = false := t0
      (repeat ((first | ((with_reducible show holds _ _ _ _ (.sem (Instr.alloc 35 _ _) _ _) _); refine h_alloc zb_Item_35 fun _ _ _ => ?_) | ((with_reducible show holds _ _ _ _ (.rd (Instr.loadAt _ (.pointer _)) _ _) _); first | refine ldI (by repeat (first | exact mq0 | apply mq1 | apply mq2)) (by rfl) (by kernel_rfl) ?_ | refine ldS (by repeat (first | exact mq0 | apply mq1 | apply mq2)) (by rfl) (by kernel_rfl) ?_ | refine la0 (by repeat (first | exact mq0 | apply mq1 | apply mq2)) (by rfl) (by kernel_rfl) ?_) | ((with_reducible show holds _ _ _ _ (.rd (loadVar _ _) _ _) _); refine lv0 (by repeat (first | exact mq0 | apply mq1 | apply mq2)) (by rfl) (by kernel_rfl) ?_) | ((with_reducible show holds _ _ _ _ (.unit (Instr.storeAt _ _ _) _) _); refine stU (by repeat (first | exact Upd.here | apply Upd.there | apply Upd.right)) (by kernel_rfl) (by rfl) (by simp [Value.cells]) ?_) | ((with_reducible show holds _ _ _ _ (.pin (vN (Instr.loadAt _ _)) _ _) _); first | refine pnA (by repeat (first | exact mq0 | apply mq1 | apply mq2)) (by rfl) (by kernel_rfl) ?_ | refine pn1 (by repeat (first | exact mq0 | apply mq1 | apply mq2)) (by rfl) (by kernel_rfl) ?_)); try dsimp only [getL]))
      refine h_end0 ⟨?_, rfl⟩
      refine readV_none (x := ⟨k, a, b, c⟩) fun y hy he => ?_
      have := hend y hy he
      rw [this] at hy
      rw [show itOf k [a, b, c] = ⟨k, a, b, c⟩ from rfl, h0] at hy
      cases hy
  | succ q ih =>
    intro i L u h m2 hr' hq hL hf ho2 hp
    have hi : i + 1 < (spl 32 s).length := by omega
    have hb : (spl 32 s)[i + 1]? = some (spl 32 s)[i + 1] := List.getElem?_eq_getElem hi
    have hd : (spl 32 s).drop (i + 1) = (spl 32 s)[i + 1] :: (spl 32 s).drop (i + 2) := List.drop_eq_getElem_cons hi
    rw [hd, fill] at hf
    generalize (spl 32 s)[i + 1] = w at *
    refine r_octroiref23_read_2 _ _ _ _ _ _ _ _ _ _ _ ?_
    refine holds_perm (cl_.aff _) (g := itB y2 zIt :: (m1 ++ (m2 ++ hr'))) (by simpa [Pick] using hp) ?_
    refine h_yes (by simp; omega) ?_
    refine h_strAt (i + 1) (ho1.rd (by intro z hz; simp [hz])) hb rfl rfl fun _ => ?_
    refine h_call0 (fun _ => { i := numR w }) ca_octroiref23_number (fun hl => number_spec) rfl ?_
    dsimp only
    rw [show IntKind.wrap .i64 (((i + 1 : Nat) : Int) - 1) = (i : Int) by rw [wrap64 (by omega)]; omega]
    refine h_index (e := 3) (sz := 1) ⟨g, 0, none⟩ (by kernel_rfl) (by kernel_rfl) (by omega) (by omega) rfl ?_
    dsimp only
    refine h_storeE i (m := m2) (hr := itB y2 zIt :: (m1 ++ hr')) (cl_.aff _) (perm_count fun D_ a_ => by simp only [Value.cells, List.count_append, List.count_cons, List.count_nil, List.nil_append, List.cons_append]; omega) ho2 (by rw [Int.toNat_natCast, Nat.mul_one]) (by kernel_rfl) (by simp [Value.cells]; omega) (by simp [Value.cells]) fun m' ho' => ?_
    rw [show (Value.int .i64 (numR w)).cells.toList = [.int .i64 (numR w)] from rfl, ints_set (by omega)] at ho'
    refine h_stop fun hl2 => ?_
    rw [wrapS (by omega)]
    exact ih (i + 1) _ _ _ m' hr' (by omega) (by simpa using hL) hf ho' (by unfold Pick; exact (perm_count fun D_ a_ => by simp only [Value.cells, List.count_append, List.count_cons, List.count_nil, List.nil_append, List.cons_append]; omega))
theorem rread_loop {I : Ctx} {s : List UInt8} (hsl : s.length ≤ 100) {y2 : Nat} {A4 : Option Addr} {c4 : Nat} {m1 : Mem} (ho1 : OwnS A4 (spl 32 s).length c4 (spl 32 s) m1) {w0 : List UInt8} (hw0 : (spl 32 s)[0]? = some w0) :
    ∀ (q k : Nat) (u : Nat → Value) (h hr' : Mem), k + q = 9 → (∀ j, j < k → ¬ (word j = w0 ∧ (spl 32 s).length = num j + 1)) → Pick h (itB y2 zIt :: m1) hr' →
    Wp Tryd.prog 21 k_octroiref23_read_1 (t_octroiref23_read_1 (bS s) y2 A4 (spl 32 s).length c4 (k : Nat) u) I h (cl_ fun v h' => ReadV (s ++ [10]) v ∧ h' = []) := by
  intro q
  induction q with
  | zero =>
    intro k u h hr' hq hno hp
    obtain rfl : k = 9 := by omega
    refine r_octroiref23_read_1 _ _ _ _ _ _ _ ?_
    refine holds_perm (cl_.aff _) hp ?_
    refine h_no (by decide) ?_
    unfold itB zIt itC
    (repeat ((first | ((with_reducible show holds _ _ _ _ (.sem (Instr.alloc 35 _ _) _ _) _); refine h_alloc zb_Item_35 fun _ _ _ => ?_) | ((with_reducible show holds _ _ _ _ (.rd (Instr.loadAt _ (.pointer _)) _ _) _); first | refine ldI (by repeat (first | exact mq0 | apply mq1 | apply mq2)) (by rfl) (by kernel_rfl) ?_ | refine ldS (by repeat (first | exact mq0 | apply mq1 | apply mq2)) (by rfl) (by kernel_rfl) ?_ | refine la0 (by repeat (first | exact mq0 | apply mq1 | apply mq2)) (by rfl) (by kernel_rfl) ?_) | ((with_reducible show holds _ _ _ _ (.rd (loadVar _ _) _ _) _); refine lv0 (by repeat (first | exact mq0 | apply mq1 | apply mq2)) (by rfl) (by kernel_rfl) ?_) | ((with_reducible show holds _ _ _ _ (.unit (Instr.storeAt _ _ _) _) _); refine stU (by repeat (first | exact Upd.here | apply Upd.there | apply Upd.right)) (by kernel_rfl) (by rfl) (by simp [Value.cells]) ?_) | ((with_reducible show holds _ _ _ _ (.pin (vN (Instr.loadAt _ _)) _ _) _); first | refine pnA (by repeat (first | exact mq0 | apply mq1 | apply mq2)) (by rfl) (by kernel_rfl) ?_ | refine pn1 (by repeat (first | exact mq0 | apply mq1 | apply mq2)) (by rfl) (by kernel_rfl) ?_)); try dsimp only [getL]))
    refine h_end0 ⟨?_, rfl⟩
    refine readV_none (x := zIt) fun x hx he => ?_
    obtain ⟨h1, h2⟩ := line_words hx he
    obtain ⟨hk1, hk2⟩ := may_kind hx
    obtain ⟨hk3, hk4⟩ := kind_in (k := x.k) ⟨hk1, by omega⟩
    refine hno x.k.toNat (by omega) ⟨?_, ?_⟩
    · rw [h2] at hw0; simp at hw0; rw [← hk3]; exact hw0
    · rw [h2, List.length_cons, wds_len, hk4]
  | succ q ih =>
    intro k u h hr' hq hno hp
    have hkk := kind_in (k := (k : Int)) ⟨by omega, by omega⟩
    rw [Int.toNat_natCast] at hkk
    have hne : ∀ (h0 : ¬ (word k = w0 ∧ (spl 32 s).length = num k + 1)), ∀ j, j < k + 1 → ¬ (word j = w0 ∧ (spl 32 s).length = num j + 1) := by
      intro h0 j hj
      rcases Nat.lt_succ_iff_lt_or_eq.1 hj with hj | rfl
      · exact hno j hj
      · exact h0
    refine r_octroiref23_read_1 _ _ _ _ _ _ _ ?_
    refine holds_perm (cl_.aff _) hp ?_
    refine h_yes (by simp; omega) ?_
    have hrs : RdC I (itB y2 zIt :: (m1 ++ hr')) A4 (strs (spl 32 s)) := ho1.rd (by intro z hz; simp [hz])
    obtain ⟨a, rfl, hcs⟩ := hrs (fun e => by have := congrArg List.length e; simp at this; exact spl_ne _ _ this)
    have hpos : 0 < (spl 32 s).length := (List.getElem?_eq_some_iff.1 hw0).1
    have hc0 : CellIs I (itB y2 zIt :: (m1 ++ hr')) (a.add (Int.toNat 0 * 1)) (.string (bS w0)) := hcs 0 _ (by simp [hw0])
    refine h_index (e := 9) (sz := 1) a (by kernel_rfl) (by kernel_rfl) (by omega) (by omega) rfl ?_
    dsimp only
    refine h_loadS (x := bS w0) (by kernel_rfl) hc0 ?_
    dsimp only
    refine h_call0 (fun _ => { s := bS (wordI k) }) ca_octroiref23_Word (fun hl => rword_spec) rfl ?_
    dsimp only
    refine h_pinC hc0 (by kernel_rfl) ?_
    refine h_pin (rwp_vN (rw_index (e := 9) (sz := 1) (by kernel_rfl) (by kernel_rfl) (by omega) (by omega) rfl rfl)) ?_
    rw [bS_toList, bS_toList, hkk.1]
    refine h_ite (fun t0 => ?_) (fun t0 => ?_)
    · refine h_stop fun hl2 => ?_
      rw [wrapS (by omega)]
      exact ih (k + 1) _ _ hr' (by omega) (hne fun h0 => by simp [h0.1] at t0) Pick.here
    have h0 : word k = w0 := by simpa using t0
    refine h_call0 (fun _ => { i := (numI k : Nat) }) ca_octroiref23_Numbers (fun hl => rnumbers_spec) rfl ?_
    dsimp only
    have hn3 := numI_le (k : Int)
    rw [hkk.2] at hn3
    rw [hkk.2, wrapS (by omega)]
    refine h_ite (fun t1 => ?_) (fun t1 => ?_)
    · refine h_stop fun hl2 => ?_
      rw [wrapS (by omega)]
      exact ih (k + 1) _ _ hr' (by omega) (hne fun h0 => by simp at t1; omega) Pick.here
    have h1 : (spl 32 s).length = num k + 1 := by simp at t1; omega
    refine h_make (n := 3) (c := 3) eb_int (by omega) (by omega) (by omega) fun g hg hI ho => ?_
    dsimp only
    refine h_stop fun hl2 => ?_
    have ho2 : OwnI (some ⟨g, 0, none⟩) 3 3 [0, 0, 0] [(g, .cells (Builtin.zeroCells (Value.int .i64 0).cells 3) 3 (0, 0))] := by
      rw [show (Builtin.zeroCells (Value.int .i64 0).cells 3).toList = ints [0, 0, 0] by simp [Builtin.zeroCells, Value.cells, List.range_succ]] at ho
      exact ho
    exact rread_loop2 hsl (by omega) h1 (by rw [hw0, h0]) ho1 (num k) 0 [0, 0, 0] _ _ _ hr' (by omega) rfl rfl ho2 (by unfold Pick; exact (perm_count fun D_ a_ => by simp only [Value.cells, List.count_append, List.count_cons, List.count_nil, List.nil_append, List.cons_append]; omega))
theorem rread_spec {I : Ctx} {s : List UInt8} (hsl : s.length ≤ 100000) :
    Fn Tryd.prog 21 #[.string (bS s)] I [] (fun v h' => ReadV (s ++ [10]) v ∧ h' = []) := by
  refine r_octroiref23_read _ ?_
  ((first | ((with_reducible show holds _ _ _ _ (.sem (Instr.alloc 35 _ _) _ _) _); refine h_alloc zb_Item_35 fun _ _ _ => ?_) | ((with_reducible show holds _ _ _ _ (.rd (Instr.loadAt _ (.pointer _)) _ _) _); first | refine ldI (by repeat (first | exact mq0 | apply mq1 | apply mq2)) (by rfl) (by kernel_rfl) ?_ | refine ldS (by repeat (first | exact mq0 | apply mq1 | apply mq2)) (by rfl) (by kernel_rfl) ?_ | refine la0 (by repeat (first | exact mq0 | apply mq1 | apply mq2)) (by rfl) (by kernel_rfl) ?_) | ((with_reducible show holds _ _ _ _ (.rd (loadVar _ _) _ _) _); refine lv0 (by repeat (first | exact mq0 | apply mq1 | apply mq2)) (by rfl) (by kernel_rfl) ?_) | ((with_reducible show holds _ _ _ _ (.unit (Instr.storeAt _ _ _) _) _); refine stU (by repeat (first | exact Upd.here | apply Upd.there | apply Upd.right)) (by kernel_rfl) (by rfl) (by simp [Value.cells]) ?_) | ((with_reducible show holds _ _ _ _ (.pin (vN (Instr.loadAt _ _)) _ _) _); first | refine pnA (by repeat (first | exact mq0 | apply mq1 | apply mq2)) (by rfl) (by kernel_rfl) ?_ | refine pn1 (by repeat (first | exact mq0 | apply mq1 | apply mq2)) (by rfl) (by kernel_rfl) ?_)); try dsimp only [getL])
  rw [bS_size]
  refine h_ite (fun t0 => ?_) (fun t0 => ?_)
  · (repeat ((first | ((with_reducible show holds _ _ _ _ (.sem (Instr.alloc 35 _ _) _ _) _); refine h_alloc zb_Item_35 fun _ _ _ => ?_) | ((with_reducible show holds _ _ _ _ (.rd (Instr.loadAt _ (.pointer _)) _ _) _); first | refine ldI (by repeat (first | exact mq0 | apply mq1 | apply mq2)) (by rfl) (by kernel_rfl) ?_ | refine ldS (by repeat (first | exact mq0 | apply mq1 | apply mq2)) (by rfl) (by kernel_rfl) ?_ | refine la0 (by repeat (first | exact mq0 | apply mq1 | apply mq2)) (by rfl) (by kernel_rfl) ?_) | ((with_reducible show holds _ _ _ _ (.rd (loadVar _ _) _ _) _); refine lv0 (by repeat (first | exact mq0 | apply mq1 | apply mq2)) (by rfl) (by kernel_rfl) ?_) | ((with_reducible show holds _ _ _ _ (.unit (Instr.storeAt _ _ _) _) _); refine stU (by repeat (first | exact Upd.here | apply Upd.there | apply Upd.right)) (by kernel_rfl) (by rfl) (by simp [Value.cells]) ?_) | ((with_reducible show holds _ _ _ _ (.pin (vN (Instr.loadAt _ _)) _ _) _); first | refine pnA (by repeat (first | exact mq0 | apply mq1 | apply mq2)) (by rfl) (by kernel_rfl) ?_ | refine pn1 (by repeat (first | exact mq0 | apply mq1 | apply mq2)) (by rfl) (by kernel_rfl) ?_)); try dsimp only [getL]))
    refine h_end0 ⟨?_, rfl⟩
    refine readV_none (x := zIt) fun x hx he => ?_
    have h1 := bare_len (may_ok hx)
    rw [(line_words hx he).1] at h1
    simp at t0
    omega
  have h0 : s.length ≤ 100 := by simp at t0; omega
  refine h_call [] _ ca_octroiref23_words (List.Perm.refl _) (fun hl => words_spec hsl) ?_
  rintro v m1 ⟨A, c, rfl, ho⟩
  refine ⟨fun _ => { A := A, n := (spl 32 s).length, c := c }, rfl, ?_⟩
  refine h_stop fun hl2 => ?_
  obtain ⟨w0, hw0⟩ : ∃ w0, (spl 32 s)[0]? = some w0 := ⟨_, List.getElem?_eq_getElem (List.length_pos_iff.2 (spl_ne 32 s))⟩
  exact rread_loop h0 ho hw0 9 0 _ _ _ (by omega) (fun j hj => absurd hj (by omega)) (by unfold Pick; rw [List.append_nil]; exact List.perm_append_comm (l₁ := m1) (l₂ := [_]))
end Go.Proofs.YtcafalcmfdnojaaDoorS
