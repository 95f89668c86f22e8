import Derived.Test.YtenlioajflbegaaDoorN5
import Derived.Test.YtenlioajflbegaaDoorTA
set_option linter.unusedVariables false
namespace Go.Proofs.YtenlioajflbegaaDoorS
abbrev strs (xs : List (List UInt8)) : List Value := xs.map fun x => .string (bS x)
abbrev OwnS (A : Option Addr) (n c : Nat) (xs : List (List UInt8)) (m : Mem) : Prop := Own 9 1 A n c (strs xs) m
theorem dot_take {a i : Nat} (h : i < 4) : (dotL a).take (i + 1) = (dotL a).take i ++ [Lib.decDigits (part a i)] := by
  unfold dotL
  rw [← List.map_take, ← List.map_take, List.take_range, List.take_range, Nat.min_eq_left (by omega), Nat.min_eq_left (by omega), List.range_succ, List.map_append]
  rfl
theorem shr_part {a i : Nat} (ha : a < 4294967296) (hi : i < 4) : bitop .and .u32 (Int.fdiv (a : Int) (2 ^ (min (Int.toNat ((8 * (3 - i) : Nat) : Int)) 32))) 255 = ((part a i : Nat) : Int) := by
  rw [show min (Int.toNat ((8 * (3 - i) : Nat) : Int)) 32 = 8 * (3 - i) by rw [Int.toNat_natCast]; omega, fdiv_pow]
  have hlt : a / 2 ^ (8 * (3 - i)) < 4294967296 := Nat.lt_of_le_of_lt (Nat.div_le_self _ _) ha
  have := bv_and (a := a / 2 ^ (8 * (3 - i))) (b := 255) hlt (by decide)
  rw [show ((255 : Nat) : Int) = 255 from rfl] at this
  rw [this]
  unfold part
  rw [show (255 : Nat) = 2 ^ 8 - 1 from rfl, Nat.and_two_pow_sub_one_eq_mod]
theorem own_spot {e : TypeId} {sz : Nat} {A : Option Addr} {n c : Nat} {cs : List Value} {m : Mem} (ho : Own e sz A n c cs m) : ∀ a, A = some a → a.spot = none := by
  obtain ⟨_, _, ho | ⟨b, arr, hA, _⟩⟩ := ho
  · intro a ha; rw [ho.1] at ha; cases ha
  · intro a ha; rw [hA] at ha; injection ha with ha; subst ha; rfl
set_option maxRecDepth 20000 in
theorem show_loop {I : Ctx} (hg : Glob I) {a : Nat} {n : Int} (ha : a < 4294967296) (hn : -9223372036854775808 ≤ n ∧ n ≤ 9223372036854775807) : ∀ (q i : Nat) (y1 : Nat) (A : Option Addr) (c : Nat) (u : Nat → Value) (h m hr' : Mem),
    i + q = 4 → OwnS A i c ((dotL a).take i) m → Pick h ([(y1, .cells #[.int .u32 a, .int .i64 n] 24 (0, 0))] ++ m) hr' →
    Wp Tryd.prog 14 k_prefix_Show_1 (t_prefix_Show_1 y1 A i c i u) I h (cl_ fun v h' => v = .string (bS (showL a n)) ∧ h' = []) := by
  intro q
  induction q with
  | zero =>
    intro i y1 A c u h m hr' hq ho hp
    refine r_prefix_Show_1 _ _ _ _ _ _ ?_
    refine holds_perm (cl_.aff _) (g := (y1, .cells #[.int .u32 a, .int .i64 n] 24 (0, 0)) :: (m ++ hr')) hp ?_
    obtain rfl : i = 4 := by omega
    refine h_no (by decide) ?_
    ((first | refine h_box fun _ _ _ => ?_ | ((with_reducible show holds _ _ _ _ (.sem (Instr.alloc 24 _ _) _ _) _); refine h_alloc zb_Prefix fun _ _ _ => ?_) | ((with_reducible show holds _ _ _ _ (.rd (Instr.loadAt _ (.pointer _)) _ _) _); first | refine ldI (by repeat (first | exact mq0 | apply mq1 | apply mq2)) (by rfl) (by kernel_rfl) ?_ | refine la0 (by repeat (first | exact mq0 | apply mq1 | apply mq2)) (by rfl) (by kernel_rfl) ?_) | ((with_reducible show holds _ _ _ _ (.rd (loadVar _ _) _ _) _); refine lv0 (by repeat (first | exact mq0 | apply mq1 | apply mq2)) (by rfl) (by kernel_rfl) ?_) | ((with_reducible show holds _ _ _ _ (.unit (Instr.storeAt _ _ _) _) _); refine stU (by repeat (first | exact Upd.here | apply Upd.there | apply Upd.right)) (by kernel_rfl) (by rfl) (by simp [Value.cells]) ?_) | ((with_reducible show holds _ _ _ _ (.pin (vN (Instr.loadAt _ _)) _ _) _); first | refine pnA (by repeat (first | exact mq0 | apply mq1 | apply mq2)) (by rfl) (by kernel_rfl) ?_ | refine pn1 (by repeat (first | exact mq0 | apply mq1 | apply mq2)) (by rfl) (by kernel_rfl) ?_)); try dsimp only [getL])
    have hd : (dotL a).take 4 = dotL a := List.take_of_length_le (by simp [dotL])
    rw [hd] at ho
    obtain ⟨l1, l2⟩ := showL_len a n hn
    refine h_call0 (fun _ => { s := bS (Lib.join (dotL a) [46]) }) ca_strings_Join (fun hl => join_fn (xs := dotL a) (sep := [46]) (by simp [dotL]) ((ho.rd (h := (y1, .cells #[.int .u32 a, .int .i64 n] 24 (0, 0)) :: (m ++ hr')) (fun x hx => by first | (simp [hx]; done) | (rw [List.mem_singleton] at hx; subst hx; simp; done))).all hl) (own_spot ho) ho.2.1 (by simp [dotL]) (by omega)) rfl ?_
    dsimp only
    ((first | refine h_box fun _ _ _ => ?_ | ((with_reducible show holds _ _ _ _ (.sem (Instr.alloc 24 _ _) _ _) _); refine h_alloc zb_Prefix fun _ _ _ => ?_) | ((with_reducible show holds _ _ _ _ (.rd (Instr.loadAt _ (.pointer _)) _ _) _); first | refine ldI (by repeat (first | exact mq0 | apply mq1 | apply mq2)) (by rfl) (by kernel_rfl) ?_ | refine la0 (by repeat (first | exact mq0 | apply mq1 | apply mq2)) (by rfl) (by kernel_rfl) ?_) | ((with_reducible show holds _ _ _ _ (.rd (loadVar _ _) _ _) _); refine lv0 (by repeat (first | exact mq0 | apply mq1 | apply mq2)) (by rfl) (by kernel_rfl) ?_) | ((with_reducible show holds _ _ _ _ (.unit (Instr.storeAt _ _ _) _) _); refine stU (by repeat (first | exact Upd.here | apply Upd.there | apply Upd.right)) (by kernel_rfl) (by rfl) (by simp [Value.cells]) ?_) | ((with_reducible show holds _ _ _ _ (.pin (vN (Instr.loadAt _ _)) _ _) _); first | refine pnA (by repeat (first | exact mq0 | apply mq1 | apply mq2)) (by rfl) (by kernel_rfl) ?_ | refine pn1 (by repeat (first | exact mq0 | apply mq1 | apply mq2)) (by rfl) (by kernel_rfl) ?_)); try dsimp only [getL])
    refine h_addS (x := Lib.join (dotL a) [46]) (y := [47]) (by simp; omega) ?_
    dsimp only
    refine h_call0 (fun _ => { s := bS (Lib.itoa n) }) ca_strconv_Itoa (fun hl => itoa_fn (hg.plus hl) hn) rfl ?_
    dsimp only
    refine pn_addS (x := Lib.join (dotL a) [46]) (y := [47]) (by simp; omega) ?_
    refine h_addS (by simp; omega) ?_
    exact h_end0 ⟨rfl, rfl⟩
  | succ q ih =>
    intro i y1 A c u h m hr' hq ho hp
    refine r_prefix_Show_1 _ _ _ _ _ _ ?_
    refine holds_perm (cl_.aff _) (g := (y1, .cells #[.int .u32 a, .int .i64 n] 24 (0, 0)) :: (m ++ hr')) hp ?_
    refine h_yes (by simp; omega) ?_
    ((first | refine h_box fun _ _ _ => ?_ | ((with_reducible show holds _ _ _ _ (.sem (Instr.alloc 24 _ _) _ _) _); refine h_alloc zb_Prefix fun _ _ _ => ?_) | ((with_reducible show holds _ _ _ _ (.rd (Instr.loadAt _ (.pointer _)) _ _) _); first | refine ldI (by repeat (first | exact mq0 | apply mq1 | apply mq2)) (by rfl) (by kernel_rfl) ?_ | refine la0 (by repeat (first | exact mq0 | apply mq1 | apply mq2)) (by rfl) (by kernel_rfl) ?_) | ((with_reducible show holds _ _ _ _ (.rd (loadVar _ _) _ _) _); refine lv0 (by repeat (first | exact mq0 | apply mq1 | apply mq2)) (by rfl) (by kernel_rfl) ?_) | ((with_reducible show holds _ _ _ _ (.unit (Instr.storeAt _ _ _) _) _); refine stU (by repeat (first | exact Upd.here | apply Upd.there | apply Upd.right)) (by kernel_rfl) (by rfl) (by simp [Value.cells]) ?_) | ((with_reducible show holds _ _ _ _ (.pin (vN (Instr.loadAt _ _)) _ _) _); first | refine pnA (by repeat (first | exact mq0 | apply mq1 | apply mq2)) (by rfl) (by kernel_rfl) ?_ | refine pn1 (by repeat (first | exact mq0 | apply mq1 | apply mq2)) (by rfl) (by kernel_rfl) ?_)); try dsimp only [getL])
    rw [wrap64 (x := 3 - (i : Int)) (by omega), wrap64 (x := 8 * (3 - (i : Int))) (by omega), show 8 * (3 - (i : Int)) = ((8 * (3 - i) : Nat) : Int) by omega]
    refine h_shr (by omega) ?_
    dsimp only
    have hb : IntKind.bits .u32 = 32 := rfl
    have hpl := part_lt a i
    rw [hb, shr_part ha (by omega), wrap64 (x := ((part a i : Nat) : Int)) (by omega)]
    refine h_call0 (fun _ => { s := bS (Lib.decDigits (part a i)) }) ca_strconv_Itoa (fun hl => by have h := itoa_fn (hg.plus hl) (n := ((part a i : Nat) : Int)) (by omega); rw [itoa_nat] at h; exact h) rfl ?_
    dsimp only
    refine h_row (e := 9) #[.string (bS (Lib.decDigits (part a i)))] (by kernel_rfl) fun g2 hg2 hI2 => ?_
    dsimp only
    refine h_append (cl_.aff _) eb_string (by kernel_rfl) (cs2 := strs [Lib.decDigits (part a i)]) (fun _ => ⟨_, rfl, cellsM' (by repeat (first | exact mq0 | apply mq1 | apply mq2)) rfl⟩) (by simp) rfl (by simp) (m := m) (by repeat (first | exact Pick.here | exact Pick.one | exact Pick.all | apply Pick.two | apply Pick.cons | apply Pick.app)) ho (by omega) (by omega) ?_
    intro A' c' m' ho'
    dsimp only
    rw [show strs ((dotL a).take i) ++ strs [Lib.decDigits (part a i)] = strs ((dotL a).take (i + 1)) by rw [dot_take (by omega)]; simp [strs]] at ho'
    refine h_stop fun hl2 => ?_
    rw [wrap64 (x := (i : Int) + 1) (by omega), show (i : Int) + 1 = ((i + 1 : Nat) : Int) by omega]
    exact ih (i + 1) y1 A' c' _ _ m' _ (by omega) ho' (by repeat (first | exact Pick.here | exact Pick.one | exact Pick.all | apply Pick.two | apply Pick.cons | apply Pick.app))
theorem show_spec {I : Ctx} (hg : Glob I) {a : Nat} {n : Int} (ha : a < 4294967296) (hn : -9223372036854775808 ≤ n ∧ n ≤ 9223372036854775807) :
    Fn Tryd.prog 14 #[.agg #[.int .u32 (a : Int), .int .i64 n]] I [] (fun v h' => v = .string (bS (showL a n)) ∧ h' = []) := by
  refine r_prefix_Show _ _ ?_
  ((first | refine h_box fun _ _ _ => ?_ | ((with_reducible show holds _ _ _ _ (.sem (Instr.alloc 24 _ _) _ _) _); refine h_alloc zb_Prefix fun _ _ _ => ?_) | ((with_reducible show holds _ _ _ _ (.rd (Instr.loadAt _ (.pointer _)) _ _) _); first | refine ldI (by repeat (first | exact mq0 | apply mq1 | apply mq2)) (by rfl) (by kernel_rfl) ?_ | refine la0 (by repeat (first | exact mq0 | apply mq1 | apply mq2)) (by rfl) (by kernel_rfl) ?_) | ((with_reducible show holds _ _ _ _ (.rd (loadVar _ _) _ _) _); refine lv0 (by repeat (first | exact mq0 | apply mq1 | apply mq2)) (by rfl) (by kernel_rfl) ?_) | ((with_reducible show holds _ _ _ _ (.unit (Instr.storeAt _ _ _) _) _); refine stU (by repeat (first | exact Upd.here | apply Upd.there | apply Upd.right)) (by kernel_rfl) (by rfl) (by simp [Value.cells]) ?_) | ((with_reducible show holds _ _ _ _ (.pin (vN (Instr.loadAt _ _)) _ _) _); first | refine pnA (by repeat (first | exact mq0 | apply mq1 | apply mq2)) (by rfl) (by kernel_rfl) ?_ | refine pn1 (by repeat (first | exact mq0 | apply mq1 | apply mq2)) (by rfl) (by kernel_rfl) ?_)); try dsimp only [getL])
  refine h_stop fun hl2 => ?_
  exact show_loop hg ha hn 4 0 _ none 0 _ _ [] _ (by omega) (Own.nil _ _) (by repeat (first | exact Pick.here | exact Pick.one | exact Pick.all | apply Pick.two | apply Pick.cons | apply Pick.app))
def NumV (o : Option (Nat × List UInt8)) (v : Value) : Prop := match o with
  | some p => v = .tuple #[.int .u32 (p.1 : Nat), .string (bS p.2), .bool true]
  | none => ∃ x r, v = .tuple #[.int .u32 x, .string r, .bool false]
theorem number_spec {I : Ctx} (hg : Glob I) {s : List UInt8} {sg : UInt8} (hs : s.length ≤ 4000000000) :
    Fn Tryd.prog 30 #[.string (bS s), .string (bS [sg])] I [] (fun v h' => NumV (numP s sg) v ∧ h' = []) := by
  refine r_prefix_number _ _ ?_
  refine h_call0 (getL [{ s := bS (Lib.cut s [sg]).1 }, { s := bS (Lib.cut s [sg]).2.1 }, { b := (Lib.cut s [sg]).2.2 }]) ca_strings_Cut (fun hl => cut_fn (hg.plus hl) hs) rfl ?_
  dsimp only [getL]
  refine h_ite (fun t0 => ?_) (fun t0 => ?_)
  · refine h_end0 ⟨?_, rfl⟩
    unfold numP
    rw [if_neg (by simpa using t0)]
    exact ⟨_, _, rfl⟩
  have h0 : (Lib.cut s [sg]).2.2 = true := by simpa using t0
  simp only [bS_size]
  refine h_ite (fun t1 => ?_) (fun t1 => ?_)
  · refine h_end0 ⟨?_, rfl⟩
    unfold numP
    rw [if_pos h0, if_pos (by simp at t1; omega)]
    exact ⟨_, _, rfl⟩
  have h1 : ¬ 3 < (Lib.cut s [sg]).1.length := by simp at t1; omega
  have hcl : (Lib.cut s [sg]).1.length ≤ 4000000000 := by omega
  refine h_call [] _ ca_strconv_ParseUint (List.Perm.refl _) (fun hl => puint_fn (hg.plus hl) hcl) ?_
  rintro v m1 ⟨hv, rfl⟩
  rcases hv with ⟨x, hx, rfl⟩ | ⟨hx, x, t, p, rfl, h2, h3⟩
  · refine ⟨getL [{ i := (x : Nat) }, { v := .nilIface }], rfl, ?_⟩
    dsimp only [getL]
    refine h_ifE true (by kernel_rfl) (.inl ⟨rfl, rfl⟩) ?_
    refine h_end0 ⟨?_, rfl⟩
    have := pu8_lt hx
    rw [wrap32n (by omega)]
    unfold numP
    rw [if_pos h0, if_neg h1, hx]
    rfl
  · refine ⟨getL [{ i := x }, { v := .iface t (.pointer p) }], rfl, ?_⟩
    dsimp only [getL]
    refine h_ifE false (by kernel_rfl) (.inr ⟨rfl, _, _, rfl⟩) ?_
    refine h_end0 ⟨?_, rfl⟩
    unfold numP
    rw [if_pos h0, if_neg h1, hx]
    exact ⟨_, _, rfl⟩
/-- What is answered. -/
def resV (o : Option (Nat × Int)) : Value := match o with
  | some p => .tuple #[.agg #[.int .u32 (p.1 : Nat), .int .i64 p.2], .int .i64 0]
  | none => .tuple #[.agg #[.int .u32 0, .int .i64 0], .int .i64 2]
set_option maxRecDepth 20000 in
theorem length_spec {I : Ctx} (hg : Glob I) {a : Nat} {r s : List UInt8} (ha : a < 4294967296) (hr : r.length ≤ 4000000000) :
    Fn Tryd.prog 31 #[.agg #[.int .u32 (a : Int), .int .i64 0], .string (bS r), .string (bS s)] I [] (fun v h' => v = resV (lenP a r s) ∧ h' = []) := by
  refine r_prefix_length _ _ _ _ ?_
  (repeat ((first | refine h_box fun _ _ _ => ?_ | ((with_reducible show holds _ _ _ _ (.sem (Instr.alloc 24 _ _) _ _) _); refine h_alloc zb_Prefix fun _ _ _ => ?_) | ((with_reducible show holds _ _ _ _ (.rd (Instr.loadAt _ (.pointer _)) _ _) _); first | refine ldI (by repeat (first | exact mq0 | apply mq1 | apply mq2)) (by rfl) (by kernel_rfl) ?_ | refine la0 (by repeat (first | exact mq0 | apply mq1 | apply mq2)) (by rfl) (by kernel_rfl) ?_) | ((with_reducible show holds _ _ _ _ (.rd (loadVar _ _) _ _) _); refine lv0 (by repeat (first | exact mq0 | apply mq1 | apply mq2)) (by rfl) (by kernel_rfl) ?_) | ((with_reducible show holds _ _ _ _ (.unit (Instr.storeAt _ _ _) _) _); refine stU (by repeat (first | exact Upd.here | apply Upd.there | apply Upd.right)) (by kernel_rfl) (by rfl) (by simp [Value.cells]) ?_) | ((with_reducible show holds _ _ _ _ (.pin (vN (Instr.loadAt _ _)) _ _) _); first | refine pnA (by repeat (first | exact mq0 | apply mq1 | apply mq2)) (by rfl) (by kernel_rfl) ?_ | refine pn1 (by repeat (first | exact mq0 | apply mq1 | apply mq2)) (by rfl) (by kernel_rfl) ?_)); try dsimp only [getL]))
  refine h_call [] _ ca_strconv_ParseUint (List.Perm.refl _) (fun hl => puint_fn (hg.plus hl) hr) ?_
  rintro v m1 ⟨hv, rfl⟩
  rcases hv with ⟨x, hx, rfl⟩ | ⟨hx, x, t, p, rfl, h2, h3⟩
  · refine ⟨getL [{ i := (x : Nat) }, { v := .nilIface }], rfl, ?_⟩
    dsimp only [getL]
    have hlt := pu8_lt hx
    rw [wrap64 (x := ((x : Nat) : Int)) (by omega)]
    (repeat ((first | refine h_box fun _ _ _ => ?_ | ((with_reducible show holds _ _ _ _ (.sem (Instr.alloc 24 _ _) _ _) _); refine h_alloc zb_Prefix fun _ _ _ => ?_) | ((with_reducible show holds _ _ _ _ (.rd (Instr.loadAt _ (.pointer _)) _ _) _); first | refine ldI (by repeat (first | exact mq0 | apply mq1 | apply mq2)) (by rfl) (by kernel_rfl) ?_ | refine la0 (by repeat (first | exact mq0 | apply mq1 | apply mq2)) (by rfl) (by kernel_rfl) ?_) | ((with_reducible show holds _ _ _ _ (.rd (loadVar _ _) _ _) _); refine lv0 (by repeat (first | exact mq0 | apply mq1 | apply mq2)) (by rfl) (by kernel_rfl) ?_) | ((with_reducible show holds _ _ _ _ (.unit (Instr.storeAt _ _ _) _) _); refine stU (by repeat (first | exact Upd.here | apply Upd.there | apply Upd.right)) (by kernel_rfl) (by rfl) (by simp [Value.cells]) ?_) | ((with_reducible show holds _ _ _ _ (.pin (vN (Instr.loadAt _ _)) _ _) _); first | refine pnA (by repeat (first | exact mq0 | apply mq1 | apply mq2)) (by rfl) (by kernel_rfl) ?_ | refine pn1 (by repeat (first | exact mq0 | apply mq1 | apply mq2)) (by rfl) (by kernel_rfl) ?_)); try dsimp only [getL]))
    refine h_ifN true (by kernel_rfl) (.inl ⟨rfl, rfl⟩) ?_
    dsimp only
    refine h_no rfl ?_
    (repeat ((first | refine h_box fun _ _ _ => ?_ | ((with_reducible show holds _ _ _ _ (.sem (Instr.alloc 24 _ _) _ _) _); refine h_alloc zb_Prefix fun _ _ _ => ?_) | ((with_reducible show holds _ _ _ _ (.rd (Instr.loadAt _ (.pointer _)) _ _) _); first | refine ldI (by repeat (first | exact mq0 | apply mq1 | apply mq2)) (by rfl) (by kernel_rfl) ?_ | refine la0 (by repeat (first | exact mq0 | apply mq1 | apply mq2)) (by rfl) (by kernel_rfl) ?_) | ((with_reducible show holds _ _ _ _ (.rd (loadVar _ _) _ _) _); refine lv0 (by repeat (first | exact mq0 | apply mq1 | apply mq2)) (by rfl) (by kernel_rfl) ?_) | ((with_reducible show holds _ _ _ _ (.unit (Instr.storeAt _ _ _) _) _); refine stU (by repeat (first | exact Upd.here | apply Upd.there | apply Upd.right)) (by kernel_rfl) (by rfl) (by simp [Value.cells]) ?_) | ((with_reducible show holds _ _ _ _ (.pin (vN (Instr.loadAt _ _)) _ _) _); first | refine pnA (by repeat (first | exact mq0 | apply mq1 | apply mq2)) (by rfl) (by kernel_rfl) ?_ | refine pn1 (by repeat (first | exact mq0 | apply mq1 | apply mq2)) (by rfl) (by kernel_rfl) ?_)); try dsimp only [getL]))
    refine h_call0 (fun _ => { b := mayB a x }) ca_prefix_May (fun hl => may_spec ha (by omega)) rfl ?_
    dsimp only
    refine h_ite (fun t0 => ?_) (fun t0 => ?_)
    · (repeat ((first | refine h_box fun _ _ _ => ?_ | ((with_reducible show holds _ _ _ _ (.sem (Instr.alloc 24 _ _) _ _) _); refine h_alloc zb_Prefix fun _ _ _ => ?_) | ((with_reducible show holds _ _ _ _ (.rd (Instr.loadAt _ (.pointer _)) _ _) _); first | refine ldI (by repeat (first | exact mq0 | apply mq1 | apply mq2)) (by rfl) (by kernel_rfl) ?_ | refine la0 (by repeat (first | exact mq0 | apply mq1 | apply mq2)) (by rfl) (by kernel_rfl) ?_) | ((with_reducible show holds _ _ _ _ (.rd (loadVar _ _) _ _) _); refine lv0 (by repeat (first | exact mq0 | apply mq1 | apply mq2)) (by rfl) (by kernel_rfl) ?_) | ((with_reducible show holds _ _ _ _ (.unit (Instr.storeAt _ _ _) _) _); refine stU (by repeat (first | exact Upd.here | apply Upd.there | apply Upd.right)) (by kernel_rfl) (by rfl) (by simp [Value.cells]) ?_) | ((with_reducible show holds _ _ _ _ (.pin (vN (Instr.loadAt _ _)) _ _) _); first | refine pnA (by repeat (first | exact mq0 | apply mq1 | apply mq2)) (by rfl) (by kernel_rfl) ?_ | refine pn1 (by repeat (first | exact mq0 | apply mq1 | apply mq2)) (by rfl) (by kernel_rfl) ?_)); try dsimp only [getL]))
      refine h_end0 ⟨?_, rfl⟩
      unfold lenP
      rw [hx, Option.bind_some, if_neg (by simpa using t0)]
      rfl
    have h0 : mayB a x = true := by simpa using t0
    (repeat ((first | refine h_box fun _ _ _ => ?_ | ((with_reducible show holds _ _ _ _ (.sem (Instr.alloc 24 _ _) _ _) _); refine h_alloc zb_Prefix fun _ _ _ => ?_) | ((with_reducible show holds _ _ _ _ (.rd (Instr.loadAt _ (.pointer _)) _ _) _); first | refine ldI (by repeat (first | exact mq0 | apply mq1 | apply mq2)) (by rfl) (by kernel_rfl) ?_ | refine la0 (by repeat (first | exact mq0 | apply mq1 | apply mq2)) (by rfl) (by kernel_rfl) ?_) | ((with_reducible show holds _ _ _ _ (.rd (loadVar _ _) _ _) _); refine lv0 (by repeat (first | exact mq0 | apply mq1 | apply mq2)) (by rfl) (by kernel_rfl) ?_) | ((with_reducible show holds _ _ _ _ (.unit (Instr.storeAt _ _ _) _) _); refine stU (by repeat (first | exact Upd.here | apply Upd.there | apply Upd.right)) (by kernel_rfl) (by rfl) (by simp [Value.cells]) ?_) | ((with_reducible show holds _ _ _ _ (.pin (vN (Instr.loadAt _ _)) _ _) _); first | refine pnA (by repeat (first | exact mq0 | apply mq1 | apply mq2)) (by rfl) (by kernel_rfl) ?_ | refine pn1 (by repeat (first | exact mq0 | apply mq1 | apply mq2)) (by rfl) (by kernel_rfl) ?_)); try dsimp only [getL]))
    refine h_call0 (fun _ => { s := bS (showL a x) }) ca_prefix_Show (fun hl => show_spec (hg.plus hl) ha (by omega)) rfl ?_
    dsimp only
    rw [bS_toList, bS_toList]
    refine h_ite (fun t1 => ?_) (fun t1 => ?_)
    · (repeat ((first | refine h_box fun _ _ _ => ?_ | ((with_reducible show holds _ _ _ _ (.sem (Instr.alloc 24 _ _) _ _) _); refine h_alloc zb_Prefix fun _ _ _ => ?_) | ((with_reducible show holds _ _ _ _ (.rd (Instr.loadAt _ (.pointer _)) _ _) _); first | refine ldI (by repeat (first | exact mq0 | apply mq1 | apply mq2)) (by rfl) (by kernel_rfl) ?_ | refine la0 (by repeat (first | exact mq0 | apply mq1 | apply mq2)) (by rfl) (by kernel_rfl) ?_) | ((with_reducible show holds _ _ _ _ (.rd (loadVar _ _) _ _) _); refine lv0 (by repeat (first | exact mq0 | apply mq1 | apply mq2)) (by rfl) (by kernel_rfl) ?_) | ((with_reducible show holds _ _ _ _ (.unit (Instr.storeAt _ _ _) _) _); refine stU (by repeat (first | exact Upd.here | apply Upd.there | apply Upd.right)) (by kernel_rfl) (by rfl) (by simp [Value.cells]) ?_) | ((with_reducible show holds _ _ _ _ (.pin (vN (Instr.loadAt _ _)) _ _) _); first | refine pnA (by repeat (first | exact mq0 | apply mq1 | apply mq2)) (by rfl) (by kernel_rfl) ?_ | refine pn1 (by repeat (first | exact mq0 | apply mq1 | apply mq2)) (by rfl) (by kernel_rfl) ?_)); try dsimp only [getL]))
      refine h_end0 ⟨?_, rfl⟩
      unfold lenP
      rw [hx, Option.bind_some, if_pos h0, if_neg (by simpa using t1)]
      rfl
    have h1 : showL a x = s := by simpa using t1
    (repeat ((first | refine h_box fun _ _ _ => ?_ | ((with_reducible show holds _ _ _ _ (.sem (Instr.alloc 24 _ _) _ _) _); refine h_alloc zb_Prefix fun _ _ _ => ?_) | ((with_reducible show holds _ _ _ _ (.rd (Instr.loadAt _ (.pointer _)) _ _) _); first | refine ldI (by repeat (first | exact mq0 | apply mq1 | apply mq2)) (by rfl) (by kernel_rfl) ?_ | refine la0 (by repeat (first | exact mq0 | apply mq1 | apply mq2)) (by rfl) (by kernel_rfl) ?_) | ((with_reducible show holds _ _ _ _ (.rd (loadVar _ _) _ _) _); refine lv0 (by repeat (first | exact mq0 | apply mq1 | apply mq2)) (by rfl) (by kernel_rfl) ?_) | ((with_reducible show holds _ _ _ _ (.unit (Instr.storeAt _ _ _) _) _); refine stU (by repeat (first | exact Upd.here | apply Upd.there | apply Upd.right)) (by kernel_rfl) (by rfl) (by simp [Value.cells]) ?_) | ((with_reducible show holds _ _ _ _ (.pin (vN (Instr.loadAt _ _)) _ _) _); first | refine pnA (by repeat (first | exact mq0 | apply mq1 | apply mq2)) (by rfl) (by kernel_rfl) ?_ | refine pn1 (by repeat (first | exact mq0 | apply mq1 | apply mq2)) (by rfl) (by kernel_rfl) ?_)); try dsimp only [getL]))
    refine h_end0 ⟨?_, rfl⟩
    unfold lenP
    rw [hx, Option.bind_some, if_pos h0, if_pos h1]
    rfl
  · refine ⟨getL [{ i := x }, { v := .iface t (.pointer p) }], rfl, ?_⟩
    dsimp only [getL]
    (repeat ((first | refine h_box fun _ _ _ => ?_ | ((with_reducible show holds _ _ _ _ (.sem (Instr.alloc 24 _ _) _ _) _); refine h_alloc zb_Prefix fun _ _ _ => ?_) | ((with_reducible show holds _ _ _ _ (.rd (Instr.loadAt _ (.pointer _)) _ _) _); first | refine ldI (by repeat (first | exact mq0 | apply mq1 | apply mq2)) (by rfl) (by kernel_rfl) ?_ | refine la0 (by repeat (first | exact mq0 | apply mq1 | apply mq2)) (by rfl) (by kernel_rfl) ?_) | ((with_reducible show holds _ _ _ _ (.rd (loadVar _ _) _ _) _); refine lv0 (by repeat (first | exact mq0 | apply mq1 | apply mq2)) (by rfl) (by kernel_rfl) ?_) | ((with_reducible show holds _ _ _ _ (.unit (Instr.storeAt _ _ _) _) _); refine stU (by repeat (first | exact Upd.here | apply Upd.there | apply Upd.right)) (by kernel_rfl) (by rfl) (by simp [Value.cells]) ?_) | ((with_reducible show holds _ _ _ _ (.pin (vN (Instr.loadAt _ _)) _ _) _); first | refine pnA (by repeat (first | exact mq0 | apply mq1 | apply mq2)) (by rfl) (by kernel_rfl) ?_ | refine pn1 (by repeat (first | exact mq0 | apply mq1 | apply mq2)) (by rfl) (by kernel_rfl) ?_)); try dsimp only [getL]))
    refine h_ifN false (by kernel_rfl) (.inr ⟨rfl, _, _, rfl⟩) ?_
    dsimp only
    refine h_yes rfl ?_
    (repeat ((first | refine h_box fun _ _ _ => ?_ | ((with_reducible show holds _ _ _ _ (.sem (Instr.alloc 24 _ _) _ _) _); refine h_alloc zb_Prefix fun _ _ _ => ?_) | ((with_reducible show holds _ _ _ _ (.rd (Instr.loadAt _ (.pointer _)) _ _) _); first | refine ldI (by repeat (first | exact mq0 | apply mq1 | apply mq2)) (by rfl) (by kernel_rfl) ?_ | refine la0 (by repeat (first | exact mq0 | apply mq1 | apply mq2)) (by rfl) (by kernel_rfl) ?_) | ((with_reducible show holds _ _ _ _ (.rd (loadVar _ _) _ _) _); refine lv0 (by repeat (first | exact mq0 | apply mq1 | apply mq2)) (by rfl) (by kernel_rfl) ?_) | ((with_reducible show holds _ _ _ _ (.unit (Instr.storeAt _ _ _) _) _); refine stU (by repeat (first | exact Upd.here | apply Upd.there | apply Upd.right)) (by kernel_rfl) (by rfl) (by simp [Value.cells]) ?_) | ((with_reducible show holds _ _ _ _ (.pin (vN (Instr.loadAt _ _)) _ _) _); first | refine pnA (by repeat (first | exact mq0 | apply mq1 | apply mq2)) (by rfl) (by kernel_rfl) ?_ | refine pn1 (by repeat (first | exact mq0 | apply mq1 | apply mq2)) (by rfl) (by kernel_rfl) ?_)); try dsimp only [getL]))
    refine h_end0 ⟨?_, rfl⟩
    unfold lenP
    rw [hx]
    rfl
end Go.Proofs.YtenlioajflbegaaDoorS
