import Derived.Test.YtcafalcmfdnojaaDoorN11
import Derived.Test.YtcafalcmfdnojaaDoorTA
set_option linter.unusedVariables false
set_option maxRecDepth 20000
namespace Go.Proofs.YtcafalcmfdnojaaDoorS
/-! The reference's Parse. -/
abbrev ParseV (s : List UInt8) (v : Value) (m : Mem) : Prop := ∃ A c, v = .tuple #[.slice A (parseP s).1.length c, .int .i64 (parseP s).2] ∧ OwnT A (parseP s).1.length c (parseP s).1 m
theorem parseV_err {s : List UInt8} {e : Int} (h : parseP s = ([], e)) : ParseV s (.tuple #[.slice none 0 0, .int .i64 e]) [] := by
  refine ⟨none, 0, ?_, ?_⟩
  · rw [h]; rfl
  · rw [h]; exact Own.nil _ _
theorem readAll_bad : ∀ {ls : List (List UInt8)} {l : List UInt8}, l ∈ ls → readP l = none → readAll ls = none
  | [], _, h, _ => by simp at h
  | x :: r, l, h, hl => by
    rw [readAll]
    cases hx : readP x with
    | none => rfl
    | some y =>
      rcases List.mem_cons.1 h with rfl | h
      · rw [hl] at hx; cases hx
      · simp only; rw [readAll_bad h hl]; rfl
theorem read_open {s : List UInt8} (h : 10 ∉ s) : readP s = none := readP_none fun x hx e => h (by rw [← e]; unfold lineL; simp)
theorem parse_bad {s l : List UInt8} (hc : s.count 10 ≤ 1000) (h : l ∈ linesL s) (hl : readP l = none) : parseP s = ([], 2) := by
  unfold parseP
  rw [if_neg (by omega), readAll_bad h hl]
theorem parse_good {s : List UInt8} {l : List It} (hc : s.count 10 ≤ 1000) (h : readAll (linesL s) = some l) : parseP s = (l, 0) := by
  unfold parseP
  rw [if_neg (by omega), h]
def ends (acc : List (List UInt8)) : List (List UInt8) := acc.map (· ++ [10])
theorem rparse_loop2 {I : Ctx} {s : List UInt8} (hs : s.length ≤ 60000) (hc : s.count 10 ≤ 1000) {acc : List (List UInt8)} (hacc : linesL s = ends acc) (hal : acc.length ≤ 1000) (hll : ∀ l ∈ acc, l.length ≤ 60000) {A4 : Option Addr} {c4 : Nat} {m1 : Mem} (ho1 : OwnS A4 acc.length c4 acc m1) :
    ∀ (q i : Nat) (its : List It) (A : Option Addr) (c : Nat) (u : Nat → Value) (h m2 hr' : Mem), i + q = acc.length → its.length = i → readAll (linesL s) = (readAll (ends (acc.drop i))).map (its ++ ·) → OwnT A its.length c its m2 → Pick h (m1 ++ m2) hr' →
    Wp Tryd.prog 10 k_octroiref23_Parse_2 (t_octroiref23_Parse_2 A4 acc.length c4 A its.length c (i : Nat) u) I h (cl_ fun v h' => ParseV s v h') := by
  intro q
  induction q with
  | zero =>
    intro i its A c u h m2 hr' hq hi hra ho2 hp
    refine r_octroiref23_Parse_2 _ _ _ _ _ _ _ _ ?_
    refine holds_perm (cl_.aff _) (g := m1 ++ (m2 ++ hr')) (by simpa [Pick] using hp) ?_
    refine h_no (by simp; omega) ?_
    rw [List.drop_eq_nil_of_le (by omega)] at hra
    have hg := parse_good hc (l := its) (by rw [hra]; simp [ends, readAll])
    refine h_end (h1 := m2) (g := m1 ++ hr') (perm_count fun D_ a_ => by simp only [Value.cells, List.count_append, List.count_cons, List.count_nil, List.nil_append, List.cons_append]; omega) ⟨A, c, ?_, ?_⟩
    · rw [hg]
    · rw [hg]; exact ho2
  | succ q ih =>
    intro i its A c u h m2 hr' hq hi hra ho2 hp
    have hil : i < acc.length := by omega
    have hb : acc[i]? = some acc[i] := List.getElem?_eq_getElem hil
    have hd : acc.drop i = acc[i] :: acc.drop (i + 1) := List.drop_eq_getElem_cons hil
    have hm : acc[i] ∈ acc := List.getElem_mem hil
    generalize acc[i] = l at *
    refine r_octroiref23_Parse_2 _ _ _ _ _ _ _ _ ?_
    refine holds_perm (cl_.aff _) (g := m1 ++ (m2 ++ hr')) (by simpa [Pick] using hp) ?_
    refine h_yes (by simp; omega) ?_
    refine h_strAt i (ho1.rd (by intro z hz; simp [hz])) hb rfl rfl fun _ => ?_
    refine h_call [] _ ca_octroiref23_read (List.Perm.refl _) (fun hl => rread_spec (by have := hll l hm; omega)) ?_
    have hml : (l ++ [10]) ∈ linesL s := by rw [hacc]; exact List.mem_map.2 ⟨l, hm, rfl⟩
    rintro v m3 ⟨⟨x, hx⟩, rfl⟩
    rcases hx with ⟨hx, rfl⟩ | ⟨hx, rfl⟩
    · refine ⟨getL [{ i := x.k }, { i := x.a }, { i := x.b }, { i := x.c }, { b := true }], rfl, ?_⟩
      dsimp only [getL]
      ((first | ((with_reducible show holds _ _ _ _ (.sem (Instr.alloc 35 _ _) _ _) _); refine h_alloc zb_Item_35 fun _ _ _ => ?_) | ((with_reducible show holds _ _ _ _ (.rd (Instr.loadAt _ (.pointer _)) _ _) _); first | refine ldS (by repeat (first | exact mq0 | apply mq1 | apply mq2)) (by rfl) (by kernel_rfl) ?_ | refine la0 (by repeat (first | exact mq0 | apply mq1 | apply mq2)) (by rfl) (by kernel_rfl) ?_) | ((with_reducible show holds _ _ _ _ (.unit (Instr.storeAt _ _ _) _) _); refine stU (by repeat (first | exact Upd.here | apply Upd.there | apply Upd.right)) (by kernel_rfl) (by rfl) (by simp [Value.cells]) ?_)); try dsimp only [getL])
      ((first | ((with_reducible show holds _ _ _ _ (.sem (Instr.alloc 35 _ _) _ _) _); refine h_alloc zb_Item_35 fun _ _ _ => ?_) | ((with_reducible show holds _ _ _ _ (.rd (Instr.loadAt _ (.pointer _)) _ _) _); first | refine ldS (by repeat (first | exact mq0 | apply mq1 | apply mq2)) (by rfl) (by kernel_rfl) ?_ | refine la0 (by repeat (first | exact mq0 | apply mq1 | apply mq2)) (by rfl) (by kernel_rfl) ?_) | ((with_reducible show holds _ _ _ _ (.unit (Instr.storeAt _ _ _) _) _); refine stU (by repeat (first | exact Upd.here | apply Upd.there | apply Upd.right)) (by kernel_rfl) (by rfl) (by simp [Value.cells]) ?_)); try dsimp only [getL])
      refine h_no rfl ?_
      ((first | ((with_reducible show holds _ _ _ _ (.sem (Instr.alloc 35 _ _) _ _) _); refine h_alloc zb_Item_35 fun _ _ _ => ?_) | ((with_reducible show holds _ _ _ _ (.rd (Instr.loadAt _ (.pointer _)) _ _) _); first | refine ldS (by repeat (first | exact mq0 | apply mq1 | apply mq2)) (by rfl) (by kernel_rfl) ?_ | refine la0 (by repeat (first | exact mq0 | apply mq1 | apply mq2)) (by rfl) (by kernel_rfl) ?_) | ((with_reducible show holds _ _ _ _ (.unit (Instr.storeAt _ _ _) _) _); refine stU (by repeat (first | exact Upd.here | apply Upd.there | apply Upd.right)) (by kernel_rfl) (by rfl) (by simp [Value.cells]) ?_)); try dsimp only [getL])
      refine h_row (e := 35) ⟨itC x⟩ (by kernel_rfl) fun g2 hg2 hI2 => ?_
      dsimp only
      refine h_append (cl_.aff _) eb_Item (by kernel_rfl) (cs2 := itCs [x]) (fun _ => ⟨_, rfl, cellsM' (by repeat (first | exact mq0 | apply mq1 | apply mq2)) rfl⟩) (by simp) rfl (itCs_plain _) (m := m2) (by repeat (first | exact Pick.here | exact Pick.one | exact Pick.all | apply Pick.two | apply Pick.cons | apply Pick.app)) ho2 (by omega) (by omega) ?_
      intro A' c' m' ho'
      dsimp only
      rw [← itCs_append] at ho'
      refine h_stop fun hl2 => ?_
      rw [wrapS (by omega)]
      have e : its.length + 1 = (its ++ [x]).length := by simp
      rw [e] at ho' ⊢
      refine ih (i + 1) (its ++ [x]) A' c' _ _ m' _ (by omega) (by simp; omega) ?_ ho' (by repeat (first | exact Pick.here | exact Pick.one | exact Pick.all | apply Pick.two | apply Pick.cons | apply Pick.app))
      rw [hra, hd]
      simp only [ends, List.map_cons, readAll, hx, Option.map_map]
      congr 1
      funext r
      simp
    · refine ⟨getL [{ i := x.k }, { i := x.a }, { i := x.b }, { i := x.c }, { b := false }], rfl, ?_⟩
      dsimp only [getL]
      ((first | ((with_reducible show holds _ _ _ _ (.sem (Instr.alloc 35 _ _) _ _) _); refine h_alloc zb_Item_35 fun _ _ _ => ?_) | ((with_reducible show holds _ _ _ _ (.rd (Instr.loadAt _ (.pointer _)) _ _) _); first | refine ldS (by repeat (first | exact mq0 | apply mq1 | apply mq2)) (by rfl) (by kernel_rfl) ?_ | refine la0 (by repeat (first | exact mq0 | apply mq1 | apply mq2)) (by rfl) (by kernel_rfl) ?_) | ((with_reducible show holds _ _ _ _ (.unit (Instr.storeAt _ _ _) _) _); refine stU (by repeat (first | exact Upd.here | apply Upd.there | apply Upd.right)) (by kernel_rfl) (by rfl) (by simp [Value.cells]) ?_)); try dsimp only [getL])
      ((first | ((with_reducible show holds _ _ _ _ (.sem (Instr.alloc 35 _ _) _ _) _); refine h_alloc zb_Item_35 fun _ _ _ => ?_) | ((with_reducible show holds _ _ _ _ (.rd (Instr.loadAt _ (.pointer _)) _ _) _); first | refine ldS (by repeat (first | exact mq0 | apply mq1 | apply mq2)) (by rfl) (by kernel_rfl) ?_ | refine la0 (by repeat (first | exact mq0 | apply mq1 | apply mq2)) (by rfl) (by kernel_rfl) ?_) | ((with_reducible show holds _ _ _ _ (.unit (Instr.storeAt _ _ _) _) _); refine stU (by repeat (first | exact Upd.here | apply Upd.there | apply Upd.right)) (by kernel_rfl) (by rfl) (by simp [Value.cells]) ?_)); try dsimp only [getL])
      refine h_yes rfl ?_
      exact h_end0 (parseV_err (parse_bad hc hml hx))
theorem rparse_loop {I : Ctx} {s : List UInt8} (hs : s.length ≤ 60000) : ∀ (q i fr : Nat) (acc : List (List UInt8)) (A : Option Addr) (c : Nat) (u : Nat → Value) (h m hr' : Mem), i + q = s.length → fr ≤ i →
    acc.length = (s.take i).count 10 → linesL s = ends acc ++ linesL (s.drop fr) → 10 ∉ (s.take i).drop fr → (∀ l ∈ acc, l.length ≤ 60000) → OwnS A acc.length c acc m → Pick h m hr' →
    Wp Tryd.prog 10 k_octroiref23_Parse_1 (t_octroiref23_Parse_1 (bS s) A acc.length c (fr : Nat) (i : Nat) u) I h (cl_ fun v h' => ParseV s v h') := by
  intro q
  induction q with
  | zero =>
    intro i fr acc A c u h m hr' hq hf hc hl hno hll ho hp
    obtain rfl : i = s.length := by omega
    rw [List.take_length] at hc hno
    refine r_octroiref23_Parse_1 _ _ _ _ _ _ _ ?_
    refine holds_perm (cl_.aff _) hp ?_
    rw [bS_size]
    refine h_no (by simp) ?_
    refine h_ite (fun t0 => ?_) (fun t0 => ?_)
    · refine h_end0 (parseV_err ?_)
      unfold parseP
      rw [if_pos (by simp at t0; omega)]
    have h0 : acc.length ≤ 1000 := by simp at t0; omega
    refine h_ite (fun t1 => ?_) (fun t1 => ?_)
    · refine h_end0 (parseV_err ?_)
      have h1 : fr ≠ s.length := by simp at t1; omega
      have h2 : s.drop fr ≠ [] := by intro e; have := congrArg List.length e; simp at this; omega
      rw [lines_one h2 hno] at hl
      exact parse_bad (by omega) (by rw [hl]; simp) (read_open hno)
    have h1 : fr = s.length := by simp at t1; omega
    rw [List.drop_eq_nil_of_le (by omega), show linesL [] = [] from rfl, List.append_nil] at hl
    refine h_stop fun hl2 => ?_
    exact rparse_loop2 hs (by omega) hl h0 hll ho acc.length 0 [] none 0 _ _ [] hr' (by omega) rfl (by rw [hl, List.drop_zero]; cases readAll (ends acc) <;> rfl) (Own.nil _ _) (by unfold Pick; simp)
  | succ q ih =>
    intro i fr acc A c u h m hr' hq hf hc hl hno hll ho hp
    have hi : i < s.length := by omega
    have hb : s[i]? = some s[i] := List.getElem?_eq_getElem hi
    have hd : s.drop i = s[i] :: s.drop (i + 1) := List.drop_eq_getElem_cons hi
    have ht : s.take (i + 1) = s.take i ++ [s[i]] := by rw [List.take_add_one, hb]; rfl
    have hal : acc.length ≤ i := by rw [hc]; exact Nat.le_trans (List.count_le_length) (by simp; omega)
    refine r_octroiref23_Parse_1 _ _ _ _ _ _ _ ?_
    refine holds_perm (cl_.aff _) hp ?_
    refine h_yes (by rw [bS_size]; simp; omega) ?_
    refine h_byteS i hb rfl (by kernel_rfl) ?_
    dsimp only
    refine h_ite (fun t0 => ?_) (fun t0 => ?_)
    · have e : s[i] = 10 := UInt8.toNat_inj.1 (by simp at t0; show s[i].toNat = 10; omega)
      refine h_cutS fr i (by kernel_rfl) (by simp [okB]) (by simp [okB]) hf (by omega) ?_
      dsimp only
      refine h_row (e := 9) #[.string (bS ((s.take i).drop fr))] (by kernel_rfl) fun g2 hg2 hI2 => ?_
      dsimp only
      refine h_append (cl_.aff _) eb_string (by kernel_rfl) (cs2 := strs [(s.take i).drop fr]) (fun _ => ⟨_, rfl, cellsM' (by repeat (first | exact mq0 | apply mq1 | apply mq2)) rfl⟩) (by simp) rfl (by simp) (m := m) (by repeat (first | exact Pick.here | exact Pick.one | exact Pick.all | apply Pick.two | apply Pick.cons | apply Pick.app)) ho (by omega) (by omega) ?_
      intro A' c' m' ho'
      dsimp only
      rw [show strs acc ++ strs [(s.take i).drop fr] = strs (acc ++ [(s.take i).drop fr]) by simp [strs]] at ho'
      refine h_stop fun hl2 => ?_
      rw [wrapS (by omega)]
      have hlen : acc.length + 1 = (acc ++ [(s.take i).drop fr]).length := by simp
      rw [hlen] at ho' ⊢
      have hsp : s.drop fr = (s.take i).drop fr ++ 10 :: s.drop (i + 1) := by
        rw [← e, ← hd]
        conv => lhs; rw [← List.take_append_drop i s]
        rw [List.drop_append_of_le_length (by simp; omega)]
      refine ih (i + 1) (i + 1) _ A' c' _ _ m' _ (by omega) (by omega) ?_ ?_ ?_ ?_ ho' (by repeat (first | exact Pick.here | exact Pick.one | exact Pick.all | apply Pick.two | apply Pick.cons | apply Pick.app))
      · rw [ht, List.count_append, ← hc, e, List.length_append]; rfl
      · rw [hl, hsp, lines_line hno]
        simp [ends]
      · rw [List.drop_eq_nil_of_le (by simp; omega)]; simp
      · intro l hm
        rcases List.mem_append.1 hm with hm | hm
        · exact hll l hm
        · rw [List.mem_singleton] at hm; subst hm; simp; omega
    · have e : s[i] ≠ 10 := fun e => by rw [e] at t0; simp at t0
      refine h_stop fun hl2 => ?_
      rw [wrapS (by omega)]
      refine ih (i + 1) fr acc A c _ _ m _ (by omega) (by omega) ?_ hl ?_ hll ho (by repeat (first | exact Pick.here | exact Pick.one | exact Pick.all | apply Pick.two | apply Pick.cons | apply Pick.app))
      · rw [ht, List.count_append, ← hc]
        simp [List.count_cons, e]
      · rw [ht, List.drop_append_of_le_length (by simp; omega)]
        intro hm
        rcases List.mem_append.1 hm with hm | hm
        · exact hno hm
        · rw [List.mem_singleton] at hm; exact e hm.symm
theorem rparse_spec {I : Ctx} {s : List UInt8} (hs : s.length ≤ 60000) : Fn Tryd.prog 10 #[.string (bS s)] I [] (fun v h' => ParseV s v h') := by
  refine r_octroiref23_Parse _ ?_
  refine h_stop fun hl2 => ?_
  exact rparse_loop hs s.length 0 0 [] none 0 _ _ [] _ (by omega) (by omega) rfl rfl (by simp) (by simp) (Own.nil _ _) (by repeat (first | exact Pick.here | exact Pick.one | exact Pick.all | apply Pick.two | apply Pick.cons | apply Pick.app))
end Go.Proofs.YtcafalcmfdnojaaDoorS
