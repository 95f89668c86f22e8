import Derived.Test.YtenlioajflbegaaDoorN8
import Derived.Test.YtenlioajflbegaaDoorTA
set_option linter.unusedVariables false
namespace Go.Proofs.YtenlioajflbegaaDoorS
def stepR (x : Int) (c : UInt8) : Int := IntKind.wrap .i64 (IntKind.wrap .i64 (10 * x) + IntKind.wrap .i64 (IntKind.wrap .u8 ((c.toNat : Int) - 48)))
def scanR : List UInt8 → Int → List Int → List Int
  | [], x, acc => acc ++ [x]
  | c :: r, x, acc => if isDig c = true then scanR r (stepR x c) acc else scanR r 0 (acc ++ [x])
def addrR (a b c d : Int) : Int := IntKind.wrap .u32 (IntKind.wrap .i64 (IntKind.wrap .i64 (IntKind.wrap .i64 (IntKind.wrap .i64 (a * 16777216) + IntKind.wrap .i64 (b * 65536)) + IntKind.wrap .i64 (c * 256)) + d))
def finR (s : List UInt8) : List Int → Option (Nat × Int)
  | [a, b, c, d, e] => if a > 255 then none else if b > 255 then none else if c > 255 then none else if d > 255 then none else
      if mayB (addrR a b c d).toNat e = true then if showL (addrR a b c d).toNat e = s then some ((addrR a b c d).toNat, e) else none else none
  | _ => none
def parseR (s : List UInt8) : Option (Nat × Int) := if 18 < s.length then none else finR s (scanR s 0 [])
theorem scan_digs : ∀ {x : List UInt8} {r : List UInt8} {v : Int} {acc : List Int}, (∀ c ∈ x, isDig c = true) → scanR (x ++ r) v acc = scanR r (x.foldl stepR v) acc
  | [], _, _, _, _ => rfl
  | c :: x, r, v, acc, h => by
    rw [List.cons_append, scanR, if_pos (h c List.mem_cons_self), scan_digs fun d hd => h d (List.mem_cons_of_mem _ hd)]
    rfl
theorem dec3_fold : ∀ b : Fin 256, (dec3 b.1).foldl stepR 0 = (b.1 : Int) := by decide +kernel
theorem scan_dec {b : Nat} {r : List UInt8} {acc : List Int} (h : b < 256) : scanR (Lib.decDigits b ++ r) 0 acc = scanR r b acc := by
  rw [scan_digs (dec_dig h), dec_eq (by omega), dec3_fold ⟨b, h⟩]
theorem scan_sep {c : UInt8} {r : List UInt8} {x : Int} {acc : List Int} (h : isDig c = false) : scanR (c :: r) x acc = scanR r 0 (acc ++ [x]) := by rw [scanR, if_neg (by simp [h])]
theorem addr_parts {a : Nat} (ha : a < 4294967296) : addrR (part a 0 : Nat) (part a 1 : Nat) (part a 2 : Nat) (part a 3 : Nat) = (a : Int) := by
  have h0 := part_lt a 0
  have h1 := part_lt a 1
  have h2 := part_lt a 2
  have h3 := part_lt a 3
  have hp := parts_all ha
  unfold addrR
  rw [wrap64 (x := ((part a 0 : Nat) : Int) * 16777216) (by omega), wrap64 (x := ((part a 1 : Nat) : Int) * 65536) (by omega), wrap64 (x := ((part a 2 : Nat) : Int) * 256) (by omega),
    wrap64 (x := ((part a 0 : Nat) : Int) * 16777216 + ((part a 1 : Nat) : Int) * 65536) (by omega), wrap64 (x := ((part a 0 : Nat) : Int) * 16777216 + ((part a 1 : Nat) : Int) * 65536 + ((part a 2 : Nat) : Int) * 256) (by omega),
    wrap64 (x := ((part a 0 : Nat) : Int) * 16777216 + ((part a 1 : Nat) : Int) * 65536 + ((part a 2 : Nat) : Int) * 256 + ((part a 3 : Nat) : Int)) (by omega), wrap32]
  omega
theorem addr_lt (a b c d : Int) : 0 ≤ addrR a b c d ∧ addrR a b c d < 4294967296 := by
  unfold addrR
  rw [wrap32]
  omega
theorem parseR_eq (s : List UInt8) : parseR s = parseP s := by
  refine parse_unique (fun a n ha hm => ?_) (fun s a n h => ?_) s
  · obtain ⟨h0, h1⟩ := may_out hm
    obtain ⟨k, rfl⟩ := Int.eq_ofNat_of_zero_le h0
    have l0 := dec_len (part_lt a 0)
    have l1 := dec_len (part_lt a 1)
    have l2 := dec_len (part_lt a 2)
    have l3 := dec_len (part_lt a 3)
    have lk : (Lib.decDigits k).length ≤ 2 := by
      rw [dec_eq (by omega)]; unfold dec3; split
      · simp
      · rw [if_pos (by omega)]; simp
    have d46 : isDig 46 = false := by decide
    have d47 : isDig 47 = false := by decide
    unfold parseR
    rw [if_neg (by rw [showL_eq, itoa_nat]; simp; omega)]
    have hs : scanR (showL a k) 0 [] = [((part a 0 : Nat) : Int), ((part a 1 : Nat) : Int), ((part a 2 : Nat) : Int), ((part a 3 : Nat) : Int), (k : Int)] := by
      rw [showL_eq, itoa_nat, scan_dec (part_lt a 0), scan_sep d46, scan_dec (part_lt a 1), scan_sep d46, scan_dec (part_lt a 2), scan_sep d46, scan_dec (part_lt a 3), scan_sep d47]
      have := scan_dec (b := k) (r := []) (acc := [] ++ [((part a 0 : Nat) : Int)] ++ [((part a 1 : Nat) : Int)] ++ [((part a 2 : Nat) : Int)] ++ [((part a 3 : Nat) : Int)]) (by omega)
      rw [List.append_nil] at this
      rw [this]
      rfl
    rw [hs]
    have h0 := part_lt a 0
    have h1 := part_lt a 1
    have h2 := part_lt a 2
    have h3 := part_lt a 3
    simp only [finR]
    rw [if_neg (by omega), if_neg (by omega), if_neg (by omega), if_neg (by omega), addr_parts ha, Int.toNat_natCast, if_pos hm, if_pos rfl]
  · unfold parseR at h
    split at h
    · cases h
    · unfold finR at h
      split at h
      · rename_i p q x y z _
        have hl := addr_lt p q x y
        repeat (split at h; cases h)
        split at h
        · rename_i hm
          split at h
          · rename_i hsh
            injection h with h
            injection h with h1 h2
            subst h1; subst h2
            exact ⟨by omega, hm, hsh⟩
          · cases h
        · cases h
      · cases h
abbrev ints (l : List Int) : List Value := l.map fun x => .int .i64 x
abbrev OwnI (A : Option Addr) (n c : Nat) (l : List Int) (m : Mem) : Prop := Own 3 1 A n c (ints l) m
set_option maxRecDepth 20000 in
set_option maxHeartbeats 2000000 in
theorem rfin {I : Ctx} {s : List UInt8} {y2 : Nat} {A : Option Addr} {c : Nat} {m h hr' : Mem} {u : Nat → Value} {x : Int} {acc : List Int}
    (hw : ∀ z ∈ acc ++ [x], -9223372036854775808 ≤ z ∧ z ≤ 9223372036854775807) (hacc : acc.length ≤ 1000) (ho : OwnI A acc.length c acc m) (hp : Pick h ([bpf y2 0] ++ m) hr') :
    Wp Tryd.prog 13 k_octroiref02_Parse_1 (t_octroiref02_Parse_1 (bS s) y2 A acc.length c x (s.length : Nat) u) I h (cl_ fun v h' => v = resV (finR s (acc ++ [x])) ∧ h' = []) := by
  refine r_octroiref02_Parse_1 _ _ _ _ _ _ _ _ ?_
  refine holds_perm (cl_.aff _) (g := bpf y2 0 :: (m ++ hr')) hp ?_
  simp only [bS_size]
  refine h_no (by simp) ?_
  refine h_row (e := 3) #[.int .i64 x] (by kernel_rfl) fun g2 hg2 hI2 => ?_
  dsimp only
  refine h_append (cl_.aff _) eb_int (by kernel_rfl) (cs2 := ints [x]) (fun _ => ⟨_, rfl, cellsM' (by repeat (first | exact mq0 | apply mq1 | apply mq2)) rfl⟩) (by simp) rfl (by simp) (m := m) (by repeat (first | exact Pick.here | exact Pick.one | exact Pick.all | apply Pick.two | apply Pick.cons | apply Pick.app)) ho (by omega) (by omega) ?_
  intro A' c' m' ho'
  rw [show ints acc ++ ints [x] = ints (acc ++ [x]) by simp [ints]] at ho'
  dsimp only
  refine h_ite (fun t0 => ?_) (fun t0 => ?_)
  · have hl : (acc ++ [x]).length ≠ 5 := by intro e; simp at e; simp at t0; omega
    rw [show finR s (acc ++ [x]) = none by unfold finR; split <;> first | rfl | (rename_i e; rw [e] at hl; simp at hl)]
    (repeat ((first | ((with_reducible show holds _ _ _ _ (.sem (Instr.alloc 24 _ _) _ _) _); refine h_alloc zb_Prefix fun _ _ _ => ?_) | ((with_reducible show holds _ _ _ _ (.rd (Instr.loadAt _ (.pointer _)) _ _) _); first | refine ldI (by repeat (first | exact mq0 | apply mq1 | apply mq2)) (by rfl) (by kernel_rfl) ?_ | refine la0 (by repeat (first | exact mq0 | apply mq1 | apply mq2)) (by rfl) (by kernel_rfl) ?_) | ((with_reducible show holds _ _ _ _ (.rd (loadVar _ _) _ _) _); refine lv0 (by repeat (first | exact mq0 | apply mq1 | apply mq2)) (by rfl) (by kernel_rfl) ?_) | ((with_reducible show holds _ _ _ _ (.unit (Instr.storeAt _ _ _) _) _); refine stU (by repeat (first | exact Upd.here | apply Upd.there | apply Upd.right)) (by kernel_rfl) (by rfl) (by simp [Value.cells]) ?_)); try dsimp only [getL]))
    exact h_end0 ⟨rfl, rfl⟩
  have hl : (acc ++ [x]).length = 5 := by simp at t0; simp; omega
  have hn5 : acc.length + 1 = 5 := by simpa using hl
  generalize acc ++ [x] = w at ho' hl hw ⊢
  rw [hn5] at ho' ⊢
  match w, hl with
  | [p0, p1, p2, p3, p4], _ =>
    obtain ⟨a, rfl, _⟩ := ho'.rd (I := I) (h := m') (fun z hz => hz) (by simp)
    have hcs : ∀ H : Mem, (∀ z ∈ m', z ∈ H) → Cells I H a (ints [p0, p1, p2, p3, p4]) := fun H hH => by
      obtain ⟨a2, e, hc⟩ := ho'.rd (I := I) hH (by simp)
      injection e with e; subst e; exact hc
    have hal := addr_lt p0 p1 p2 p3
    refine h_index (e := 3) (sz := 1) _ (by kernel_rfl) (by kernel_rfl) (by decide) (by decide) rfl ?_
    refine h_loadI (x := p0) (by kernel_rfl) (hcs _ (fun x hx => by first | (simp [hx]; done) | (rw [List.mem_singleton] at hx; subst hx; simp; done)) 0 _ rfl) ?_
    dsimp only
    refine h_ite (fun t1 => ?_) (fun t1 => ?_)
    · rw [show finR s [p0, p1, p2, p3, p4] = none by simp only [finR]; rw [if_pos (by simpa using t1)]]
      (repeat ((first | ((with_reducible show holds _ _ _ _ (.sem (Instr.alloc 24 _ _) _ _) _); refine h_alloc zb_Prefix fun _ _ _ => ?_) | ((with_reducible show holds _ _ _ _ (.rd (Instr.loadAt _ (.pointer _)) _ _) _); first | refine ldI (by repeat (first | exact mq0 | apply mq1 | apply mq2)) (by rfl) (by kernel_rfl) ?_ | refine la0 (by repeat (first | exact mq0 | apply mq1 | apply mq2)) (by rfl) (by kernel_rfl) ?_) | ((with_reducible show holds _ _ _ _ (.rd (loadVar _ _) _ _) _); refine lv0 (by repeat (first | exact mq0 | apply mq1 | apply mq2)) (by rfl) (by kernel_rfl) ?_) | ((with_reducible show holds _ _ _ _ (.unit (Instr.storeAt _ _ _) _) _); refine stU (by repeat (first | exact Upd.here | apply Upd.there | apply Upd.right)) (by kernel_rfl) (by rfl) (by simp [Value.cells]) ?_)); try dsimp only [getL]))
      exact h_end0 ⟨rfl, rfl⟩
    have b1 : ¬ p0 > 255 := by simpa using t1
    refine h_index (e := 3) (sz := 1) _ (by kernel_rfl) (by kernel_rfl) (by decide) (by decide) rfl ?_
    refine h_loadI (x := p1) (by kernel_rfl) (hcs _ (fun x hx => by first | (simp [hx]; done) | (rw [List.mem_singleton] at hx; subst hx; simp; done)) 1 _ rfl) ?_
    dsimp only
    refine h_ite (fun t2 => ?_) (fun t2 => ?_)
    · rw [show finR s [p0, p1, p2, p3, p4] = none by simp only [finR]; rw [if_neg b1, if_pos (by simpa using t2)]]
      (repeat ((first | ((with_reducible show holds _ _ _ _ (.sem (Instr.alloc 24 _ _) _ _) _); refine h_alloc zb_Prefix fun _ _ _ => ?_) | ((with_reducible show holds _ _ _ _ (.rd (Instr.loadAt _ (.pointer _)) _ _) _); first | refine ldI (by repeat (first | exact mq0 | apply mq1 | apply mq2)) (by rfl) (by kernel_rfl) ?_ | refine la0 (by repeat (first | exact mq0 | apply mq1 | apply mq2)) (by rfl) (by kernel_rfl) ?_) | ((with_reducible show holds _ _ _ _ (.rd (loadVar _ _) _ _) _); refine lv0 (by repeat (first | exact mq0 | apply mq1 | apply mq2)) (by rfl) (by kernel_rfl) ?_) | ((with_reducible show holds _ _ _ _ (.unit (Instr.storeAt _ _ _) _) _); refine stU (by repeat (first | exact Upd.here | apply Upd.there | apply Upd.right)) (by kernel_rfl) (by rfl) (by simp [Value.cells]) ?_)); try dsimp only [getL]))
      exact h_end0 ⟨rfl, rfl⟩
    have b2 : ¬ p1 > 255 := by simpa using t2
    refine h_index (e := 3) (sz := 1) _ (by kernel_rfl) (by kernel_rfl) (by decide) (by decide) rfl ?_
    refine h_loadI (x := p2) (by kernel_rfl) (hcs _ (fun x hx => by first | (simp [hx]; done) | (rw [List.mem_singleton] at hx; subst hx; simp; done)) 2 _ rfl) ?_
    dsimp only
    refine h_ite (fun t3 => ?_) (fun t3 => ?_)
    · rw [show finR s [p0, p1, p2, p3, p4] = none by simp only [finR]; rw [if_neg b1, if_neg b2, if_pos (by simpa using t3)]]
      (repeat ((first | ((with_reducible show holds _ _ _ _ (.sem (Instr.alloc 24 _ _) _ _) _); refine h_alloc zb_Prefix fun _ _ _ => ?_) | ((with_reducible show holds _ _ _ _ (.rd (Instr.loadAt _ (.pointer _)) _ _) _); first | refine ldI (by repeat (first | exact mq0 | apply mq1 | apply mq2)) (by rfl) (by kernel_rfl) ?_ | refine la0 (by repeat (first | exact mq0 | apply mq1 | apply mq2)) (by rfl) (by kernel_rfl) ?_) | ((with_reducible show holds _ _ _ _ (.rd (loadVar _ _) _ _) _); refine lv0 (by repeat (first | exact mq0 | apply mq1 | apply mq2)) (by rfl) (by kernel_rfl) ?_) | ((with_reducible show holds _ _ _ _ (.unit (Instr.storeAt _ _ _) _) _); refine stU (by repeat (first | exact Upd.here | apply Upd.there | apply Upd.right)) (by kernel_rfl) (by rfl) (by simp [Value.cells]) ?_)); try dsimp only [getL]))
      exact h_end0 ⟨rfl, rfl⟩
    have b3 : ¬ p2 > 255 := by simpa using t3
    refine h_index (e := 3) (sz := 1) _ (by kernel_rfl) (by kernel_rfl) (by decide) (by decide) rfl ?_
    refine h_loadI (x := p3) (by kernel_rfl) (hcs _ (fun x hx => by first | (simp [hx]; done) | (rw [List.mem_singleton] at hx; subst hx; simp; done)) 3 _ rfl) ?_
    dsimp only
    refine h_ite (fun t4 => ?_) (fun t4 => ?_)
    · rw [show finR s [p0, p1, p2, p3, p4] = none by simp only [finR]; rw [if_neg b1, if_neg b2, if_neg b3, if_pos (by simpa using t4)]]
      (repeat ((first | ((with_reducible show holds _ _ _ _ (.sem (Instr.alloc 24 _ _) _ _) _); refine h_alloc zb_Prefix fun _ _ _ => ?_) | ((with_reducible show holds _ _ _ _ (.rd (Instr.loadAt _ (.pointer _)) _ _) _); first | refine ldI (by repeat (first | exact mq0 | apply mq1 | apply mq2)) (by rfl) (by kernel_rfl) ?_ | refine la0 (by repeat (first | exact mq0 | apply mq1 | apply mq2)) (by rfl) (by kernel_rfl) ?_) | ((with_reducible show holds _ _ _ _ (.rd (loadVar _ _) _ _) _); refine lv0 (by repeat (first | exact mq0 | apply mq1 | apply mq2)) (by rfl) (by kernel_rfl) ?_) | ((with_reducible show holds _ _ _ _ (.unit (Instr.storeAt _ _ _) _) _); refine stU (by repeat (first | exact Upd.here | apply Upd.there | apply Upd.right)) (by kernel_rfl) (by rfl) (by simp [Value.cells]) ?_)); try dsimp only [getL]))
      exact h_end0 ⟨rfl, rfl⟩
    have b4 : ¬ p3 > 255 := by simpa using t4
    have e0 : finR s [p0, p1, p2, p3, p4] = if mayB (addrR p0 p1 p2 p3).toNat p4 = true then if showL (addrR p0 p1 p2 p3).toNat p4 = s then some ((addrR p0 p1 p2 p3).toNat, p4) else none else none := by
      simp only [finR]; rw [if_neg b1, if_neg b2, if_neg b3, if_neg b4]
    rw [e0]
    refine h_index (e := 3) (sz := 1) _ (by kernel_rfl) (by kernel_rfl) (by decide) (by decide) rfl ?_
    refine h_loadI (x := p0) (by kernel_rfl) (hcs _ (fun x hx => by first | (simp [hx]; done) | (rw [List.mem_singleton] at hx; subst hx; simp; done)) 0 _ rfl) ?_
    dsimp only
    refine h_index (e := 3) (sz := 1) _ (by kernel_rfl) (by kernel_rfl) (by decide) (by decide) rfl ?_
    refine h_loadI (x := p1) (by kernel_rfl) (hcs _ (fun x hx => by first | (simp [hx]; done) | (rw [List.mem_singleton] at hx; subst hx; simp; done)) 1 _ rfl) ?_
    dsimp only
    refine h_index (e := 3) (sz := 1) _ (by kernel_rfl) (by kernel_rfl) (by decide) (by decide) rfl ?_
    refine h_loadI (x := p2) (by kernel_rfl) (hcs _ (fun x hx => by first | (simp [hx]; done) | (rw [List.mem_singleton] at hx; subst hx; simp; done)) 2 _ rfl) ?_
    dsimp only
    refine h_index (e := 3) (sz := 1) _ (by kernel_rfl) (by kernel_rfl) (by decide) (by decide) rfl ?_
    refine h_loadI (x := p3) (by kernel_rfl) (hcs _ (fun x hx => by first | (simp [hx]; done) | (rw [List.mem_singleton] at hx; subst hx; simp; done)) 3 _ rfl) ?_
    dsimp only
    refine h_index (e := 3) (sz := 1) _ (by kernel_rfl) (by kernel_rfl) (by decide) (by decide) rfl ?_
    refine h_loadI (x := p4) (by kernel_rfl) (hcs _ (fun x hx => by first | (simp [hx]; done) | (rw [List.mem_singleton] at hx; subst hx; simp; done)) 4 _ rfl) ?_
    dsimp only
    show holds _ _ _ _ (.sem _ _ fun l35 => .unit (Instr.storeAt _ _ (.agg #[.int .u32 (addrR p0 p1 p2 p3), .int .i64 p4])) _) _
    have hp4 : -9223372036854775808 ≤ p4 ∧ p4 ≤ 9223372036854775807 := hw p4 (by simp)
    have hk : (((addrR p0 p1 p2 p3).toNat : Nat) : Int) = addrR p0 p1 p2 p3 := by omega
    rw [← hk]
    simp only [Int.toNat_natCast]
    have ha : (addrR p0 p1 p2 p3).toNat < 4294967296 := by omega
    generalize (addrR p0 p1 p2 p3).toNat = ad at ha ⊢
    (repeat ((first | ((with_reducible show holds _ _ _ _ (.sem (Instr.alloc 24 _ _) _ _) _); refine h_alloc zb_Prefix fun _ _ _ => ?_) | ((with_reducible show holds _ _ _ _ (.rd (Instr.loadAt _ (.pointer _)) _ _) _); first | refine ldI (by repeat (first | exact mq0 | apply mq1 | apply mq2)) (by rfl) (by kernel_rfl) ?_ | refine la0 (by repeat (first | exact mq0 | apply mq1 | apply mq2)) (by rfl) (by kernel_rfl) ?_) | ((with_reducible show holds _ _ _ _ (.rd (loadVar _ _) _ _) _); refine lv0 (by repeat (first | exact mq0 | apply mq1 | apply mq2)) (by rfl) (by kernel_rfl) ?_) | ((with_reducible show holds _ _ _ _ (.unit (Instr.storeAt _ _ _) _) _); refine stU (by repeat (first | exact Upd.here | apply Upd.there | apply Upd.right)) (by kernel_rfl) (by rfl) (by simp [Value.cells]) ?_)); try dsimp only [getL]))
    refine h_call0 (fun _ => { b := mayB ad p4 }) ca_octroiref02_May (fun hl => rmay_spec ha hp4) rfl ?_
    dsimp only
    refine h_ite (fun t5 => ?_) (fun t5 => ?_)
    · rw [if_neg (by simpa using t5)]
      (repeat ((first | ((with_reducible show holds _ _ _ _ (.sem (Instr.alloc 24 _ _) _ _) _); refine h_alloc zb_Prefix fun _ _ _ => ?_) | ((with_reducible show holds _ _ _ _ (.rd (Instr.loadAt _ (.pointer _)) _ _) _); first | refine ldI (by repeat (first | exact mq0 | apply mq1 | apply mq2)) (by rfl) (by kernel_rfl) ?_ | refine la0 (by repeat (first | exact mq0 | apply mq1 | apply mq2)) (by rfl) (by kernel_rfl) ?_) | ((with_reducible show holds _ _ _ _ (.rd (loadVar _ _) _ _) _); refine lv0 (by repeat (first | exact mq0 | apply mq1 | apply mq2)) (by rfl) (by kernel_rfl) ?_) | ((with_reducible show holds _ _ _ _ (.unit (Instr.storeAt _ _ _) _) _); refine stU (by repeat (first | exact Upd.here | apply Upd.there | apply Upd.right)) (by kernel_rfl) (by rfl) (by simp [Value.cells]) ?_)); try dsimp only [getL]))
      exact h_end0 ⟨rfl, rfl⟩
    have b5 : mayB ad p4 = true := by simpa using t5
    rw [if_pos b5]
    have b6 := may_out b5
    (repeat ((first | ((with_reducible show holds _ _ _ _ (.sem (Instr.alloc 24 _ _) _ _) _); refine h_alloc zb_Prefix fun _ _ _ => ?_) | ((with_reducible show holds _ _ _ _ (.rd (Instr.loadAt _ (.pointer _)) _ _) _); first | refine ldI (by repeat (first | exact mq0 | apply mq1 | apply mq2)) (by rfl) (by kernel_rfl) ?_ | refine la0 (by repeat (first | exact mq0 | apply mq1 | apply mq2)) (by rfl) (by kernel_rfl) ?_) | ((with_reducible show holds _ _ _ _ (.rd (loadVar _ _) _ _) _); refine lv0 (by repeat (first | exact mq0 | apply mq1 | apply mq2)) (by rfl) (by kernel_rfl) ?_) | ((with_reducible show holds _ _ _ _ (.unit (Instr.storeAt _ _ _) _) _); refine stU (by repeat (first | exact Upd.here | apply Upd.there | apply Upd.right)) (by kernel_rfl) (by rfl) (by simp [Value.cells]) ?_)); try dsimp only [getL]))
    refine h_call0 (fun _ => { s := bS (showL ad p4) }) ca_octroiref02_Show (fun hl => rshow_spec ha (by omega)) rfl ?_
    dsimp only
    rw [bS_toList, bS_toList]
    refine h_ite (fun t6 => ?_) (fun t6 => ?_)
    · rw [if_neg (by simpa using t6)]
      (repeat ((first | ((with_reducible show holds _ _ _ _ (.sem (Instr.alloc 24 _ _) _ _) _); refine h_alloc zb_Prefix fun _ _ _ => ?_) | ((with_reducible show holds _ _ _ _ (.rd (Instr.loadAt _ (.pointer _)) _ _) _); first | refine ldI (by repeat (first | exact mq0 | apply mq1 | apply mq2)) (by rfl) (by kernel_rfl) ?_ | refine la0 (by repeat (first | exact mq0 | apply mq1 | apply mq2)) (by rfl) (by kernel_rfl) ?_) | ((with_reducible show holds _ _ _ _ (.rd (loadVar _ _) _ _) _); refine lv0 (by repeat (first | exact mq0 | apply mq1 | apply mq2)) (by rfl) (by kernel_rfl) ?_) | ((with_reducible show holds _ _ _ _ (.unit (Instr.storeAt _ _ _) _) _); refine stU (by repeat (first | exact Upd.here | apply Upd.there | apply Upd.right)) (by kernel_rfl) (by rfl) (by simp [Value.cells]) ?_)); try dsimp only [getL]))
      exact h_end0 ⟨rfl, rfl⟩
    rw [if_pos (by simpa using t6)]
    (repeat ((first | ((with_reducible show holds _ _ _ _ (.sem (Instr.alloc 24 _ _) _ _) _); refine h_alloc zb_Prefix fun _ _ _ => ?_) | ((with_reducible show holds _ _ _ _ (.rd (Instr.loadAt _ (.pointer _)) _ _) _); first | refine ldI (by repeat (first | exact mq0 | apply mq1 | apply mq2)) (by rfl) (by kernel_rfl) ?_ | refine la0 (by repeat (first | exact mq0 | apply mq1 | apply mq2)) (by rfl) (by kernel_rfl) ?_) | ((with_reducible show holds _ _ _ _ (.rd (loadVar _ _) _ _) _); refine lv0 (by repeat (first | exact mq0 | apply mq1 | apply mq2)) (by rfl) (by kernel_rfl) ?_) | ((with_reducible show holds _ _ _ _ (.unit (Instr.storeAt _ _ _) _) _); refine stU (by repeat (first | exact Upd.here | apply Upd.there | apply Upd.right)) (by kernel_rfl) (by rfl) (by simp [Value.cells]) ?_)); try dsimp only [getL]))
    exact h_end0 ⟨rfl, rfl⟩
theorem wrap_rng (x : Int) : -9223372036854775808 ≤ IntKind.wrap .i64 x ∧ IntKind.wrap .i64 x ≤ 9223372036854775807 := by
  have : IntKind.i64.wrap x = if (true && decide (x % 18446744073709551616 ≥ 9223372036854775808)) = true then x % 18446744073709551616 - 18446744073709551616 else x % 18446744073709551616 := rfl
  rw [this]
  simp only [Bool.true_and, decide_eq_true_eq]
  split <;> omega
theorem step_rng (x : Int) (c : UInt8) : -9223372036854775808 ≤ stepR x c ∧ stepR x c ≤ 9223372036854775807 := by
  unfold stepR
  exact wrap_rng _
set_option maxHeartbeats 1000000 in
theorem rparse_loop {I : Ctx} {s : List UInt8} {y2 : Nat} (hs : s.length ≤ 18) : ∀ (q i : Nat) (x : Int) (acc : List Int) (A : Option Addr) (c : Nat) (u : Nat → Value) (h m hr' : Mem),
    i + q = s.length → acc.length ≤ i → (∀ z ∈ acc ++ [x], -9223372036854775808 ≤ z ∧ z ≤ 9223372036854775807) → OwnI A acc.length c acc m → Pick h ([bpf y2 0] ++ m) hr' →
    Wp Tryd.prog 13 k_octroiref02_Parse_1 (t_octroiref02_Parse_1 (bS s) y2 A acc.length c x i u) I h (cl_ fun v h' => v = resV (finR s (scanR (s.drop i) x acc)) ∧ h' = []) := by
  intro q
  induction q with
  | zero =>
    intro i x acc A c u h m hr' hq hai hw ho hp
    obtain rfl : i = s.length := by omega
    rw [List.drop_length]
    exact rfin hw (by omega) ho hp
  | succ q ih =>
    intro i x acc A c u h m hr' hq hai hw ho hp
    obtain ⟨b, hb⟩ : ∃ b, s[i]? = some b := ⟨s[i]'(by omega), List.getElem?_eq_getElem (by omega)⟩
    have hd : s.drop i = b :: s.drop (i + 1) := by
      rw [List.drop_eq_getElem_cons (by omega)]
      rw [List.getElem?_eq_getElem (by omega)] at hb
      injection hb with hb
      rw [hb]
    have hbt := b.toNat_lt
    refine r_octroiref02_Parse_1 _ _ _ _ _ _ _ _ ?_
    refine holds_perm (cl_.aff _) (g := bpf y2 0 :: (m ++ hr')) hp ?_
    simp only [bS_size]
    rw [hd]
    have hwi : IntKind.wrap .i64 ((i : Int) + 1) = ((i + 1 : Nat) : Int) := by rw [wrap64 (by omega)]; omega
    simp only [hwi]
    refine h_yes (by simp; omega) ?_
    refine h_byteS i hb rfl (by kernel_rfl) ?_
    dsimp only
    have sep : ∀ hsep : isDig b = false, scanR (b :: s.drop (i + 1)) x acc = scanR (s.drop (i + 1)) 0 (acc ++ [x]) := fun hsep => scan_sep hsep
    have nx : ∀ (A' : Option Addr) (c' : Nat) (m' : Mem) (u' : Nat → Value) (h2 hr2 : Mem), OwnI A' (acc.length + 1) c' (acc ++ [x]) m' → Pick h2 ([bpf y2 0] ++ m') hr2 →
        Wp Tryd.prog 13 k_octroiref02_Parse_1 (t_octroiref02_Parse_1 (bS s) y2 A' (acc.length + 1) c' 0 (i + 1 : Nat) u') I h2 (cl_ fun v h' => v = resV (finR s (scanR (s.drop (i + 1)) 0 (acc ++ [x]))) ∧ h' = []) := by
      intro A' c' m' u' h2 hr2 ho' hp'
      have e : (acc ++ [x]).length = acc.length + 1 := by simp
      rw [← e] at ho' ⊢
      refine ih (i + 1) 0 (acc ++ [x]) A' c' u' h2 m' hr2 (by omega) (by omega) (fun z hz => ?_) ho' hp'
      rcases List.mem_append.1 hz with hz | hz
      · exact hw z hz
      · simp at hz; subst hz; omega
    refine h_ite (fun t0 => ?_) (fun t0 => ?_)
    · refine h_byteS i hb rfl (by kernel_rfl) ?_
      dsimp only
      refine h_ite (fun t1 => ?_) (fun t1 => ?_)
      · refine h_byteS i hb rfl (by kernel_rfl) ?_
        dsimp only
        have hdg : isDig b = true := by unfold isDig; simp at t0 t1 ⊢; omega
        rw [show scanR (b :: s.drop (i + 1)) x acc = scanR (s.drop (i + 1)) (stepR x b) acc by rw [scanR, if_pos hdg]]
        refine h_stop fun hl2 => ?_
        refine ih (i + 1) (stepR x b) acc A c _ _ m hr' (by omega) (by omega) (fun z hz => ?_) ho (by repeat (first | exact Pick.here | exact Pick.one | exact Pick.all | apply Pick.two | apply Pick.cons | apply Pick.app))
        rcases List.mem_append.1 hz with hz | hz
        · exact hw z (List.mem_append_left _ hz)
        · simp at hz; subst hz; exact step_rng x b
      · have hdg : isDig b = false := by unfold isDig; simp at t1 ⊢; omega
        rw [sep hdg]
        refine h_row (e := 3) #[.int .i64 x] (by kernel_rfl) fun g2 hg2 hI2 => ?_
        dsimp only
        refine h_append (cl_.aff _) eb_int (by kernel_rfl) (cs2 := ints [x]) (fun _ => ⟨_, rfl, cellsM' (by repeat (first | exact mq0 | apply mq1 | apply mq2)) rfl⟩) (by simp) rfl (by simp) (m := m) (by repeat (first | exact Pick.here | exact Pick.one | exact Pick.all | apply Pick.two | apply Pick.cons | apply Pick.app)) ho (by omega) (by omega) ?_
        intro A' c' m' ho'
        rw [show ints acc ++ ints [x] = ints (acc ++ [x]) by simp [ints]] at ho'
        dsimp only
        refine h_stop fun hl2 => ?_
        exact nx A' c' m' _ _ _ ho' (by repeat (first | exact Pick.here | exact Pick.one | exact Pick.all | apply Pick.two | apply Pick.cons | apply Pick.app))
    · have hdg : isDig b = false := by unfold isDig; simp at t0 ⊢; omega
      rw [sep hdg]
      refine h_row (e := 3) #[.int .i64 x] (by kernel_rfl) fun g2 hg2 hI2 => ?_
      dsimp only
      refine h_append (cl_.aff _) eb_int (by kernel_rfl) (cs2 := ints [x]) (fun _ => ⟨_, rfl, cellsM' (by repeat (first | exact mq0 | apply mq1 | apply mq2)) rfl⟩) (by simp) rfl (by simp) (m := m) (by repeat (first | exact Pick.here | exact Pick.one | exact Pick.all | apply Pick.two | apply Pick.cons | apply Pick.app)) ho (by omega) (by omega) ?_
      intro A' c' m' ho'
      rw [show ints acc ++ ints [x] = ints (acc ++ [x]) by simp [ints]] at ho'
      dsimp only
      refine h_stop fun hl2 => ?_
      exact nx A' c' m' _ _ _ ho' (by repeat (first | exact Pick.here | exact Pick.one | exact Pick.all | apply Pick.two | apply Pick.cons | apply Pick.app))
set_option maxRecDepth 20000 in
theorem rparse_spec {I : Ctx} {s : List UInt8} : Fn Tryd.prog 13 #[.string (bS s)] I [] (fun v h' => v = resV (parseP s) ∧ h' = []) := by
  rw [← parseR_eq]
  refine r_octroiref02_Parse _ ?_
  ((first | ((with_reducible show holds _ _ _ _ (.sem (Instr.alloc 24 _ _) _ _) _); refine h_alloc zb_Prefix fun _ _ _ => ?_) | ((with_reducible show holds _ _ _ _ (.rd (Instr.loadAt _ (.pointer _)) _ _) _); first | refine ldI (by repeat (first | exact mq0 | apply mq1 | apply mq2)) (by rfl) (by kernel_rfl) ?_ | refine la0 (by repeat (first | exact mq0 | apply mq1 | apply mq2)) (by rfl) (by kernel_rfl) ?_) | ((with_reducible show holds _ _ _ _ (.rd (loadVar _ _) _ _) _); refine lv0 (by repeat (first | exact mq0 | apply mq1 | apply mq2)) (by rfl) (by kernel_rfl) ?_) | ((with_reducible show holds _ _ _ _ (.unit (Instr.storeAt _ _ _) _) _); refine stU (by repeat (first | exact Upd.here | apply Upd.there | apply Upd.right)) (by kernel_rfl) (by rfl) (by simp [Value.cells]) ?_)); try dsimp only [getL])
  simp only [bS_size]
  refine h_ite (fun t0 => ?_) (fun t0 => ?_)
  · rw [show parseR s = none by unfold parseR; rw [if_pos (by simp at t0; omega)]]
    (repeat ((first | ((with_reducible show holds _ _ _ _ (.sem (Instr.alloc 24 _ _) _ _) _); refine h_alloc zb_Prefix fun _ _ _ => ?_) | ((with_reducible show holds _ _ _ _ (.rd (Instr.loadAt _ (.pointer _)) _ _) _); first | refine ldI (by repeat (first | exact mq0 | apply mq1 | apply mq2)) (by rfl) (by kernel_rfl) ?_ | refine la0 (by repeat (first | exact mq0 | apply mq1 | apply mq2)) (by rfl) (by kernel_rfl) ?_) | ((with_reducible show holds _ _ _ _ (.rd (loadVar _ _) _ _) _); refine lv0 (by repeat (first | exact mq0 | apply mq1 | apply mq2)) (by rfl) (by kernel_rfl) ?_) | ((with_reducible show holds _ _ _ _ (.unit (Instr.storeAt _ _ _) _) _); refine stU (by repeat (first | exact Upd.here | apply Upd.there | apply Upd.right)) (by kernel_rfl) (by rfl) (by simp [Value.cells]) ?_)); try dsimp only [getL]))
    exact h_end0 ⟨rfl, rfl⟩
  have hs : s.length ≤ 18 := by simp at t0; omega
  rw [show parseR s = finR s (scanR (s.drop 0) 0 []) by unfold parseR; rw [if_neg (by omega)]; rfl]
  refine h_stop fun hl2 => ?_
  exact rparse_loop hs s.length 0 0 [] none 0 _ _ [] _ (by omega) (by simp) (by simp) (Own.nil _ _) (by repeat (first | exact Pick.here | exact Pick.one | exact Pick.all | apply Pick.two | apply Pick.cons | apply Pick.app))
end Go.Proofs.YtenlioajflbegaaDoorS
