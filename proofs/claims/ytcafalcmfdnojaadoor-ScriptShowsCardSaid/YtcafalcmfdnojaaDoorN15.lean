import Derived.Test.YtcafalcmfdnojaaDoorN14
set_option linter.unusedVariables false
set_option maxRecDepth 20000
namespace Go.Proofs.YtcafalcmfdnojaaDoorS
noncomputable abbrev tauP (y2 y3 y4 : Nat) (y12 : Value) (u : Nat → Value) : List Value := t_script_Parse_1 y2 y3 y4 y12 u
theorem tmps_eq (y2 y3 y4 D : Nat) (y12 : Value) (u : Nat → Value) (l : List UInt8) :
    ((loopR (tauP y2 y3 y4 y12 u) D).params.zip ⟨[.string (bS l)]⟩).foldl (fun tmps (t, a) => tmps.setIfInBounds t a) (loopR (tauP y2 y3 y4 y12 u) D).tmps = ⟨t_script_Parse_2 y2 y3 y4 (bS l) (fun i => if i = 12 then y12 else u i)⟩ := by
  simp [loopR, tauP, t_script_Parse_1, t_script_Parse_2]
def stB (g : Nat) (s : List UInt8) : Nat × Obj := (g, .cells #[.string (bS s)] 9 (0, 0))
theorem iter_loop {I : Ctx} (hg : Glob I) {L y2 y3 y4 D g : Nat} {y12 : Value} {u : Nat → Value} : ∀ (q : Nat) (s : List UInt8) (its : List It) (A : Option Addr) (c : Nat) (uu : Nat → Value) (h m hr' : Mem), s.length ≤ q → s.length ≤ 60000 → its.length + s.length ≤ 60000 → OwnT A its.length c its m →
    Pick h ((L, .loop (loopR (tauP y2 y3 y4 y12 u) D)) :: slB y4 A its.length c :: slB y2 none 0 0 :: erB y3 0 :: stB g s :: m) hr' →
    Wp Tryd.prog 31 k_strings_Lines_fn1_1 (t_strings_Lines_fn1_1 L g uu) I h (cl_ fun v h' => ∃ b, RQ L y2 y3 y4 (loopR (tauP y2 y3 y4 y12 u) D) ((readAll (linesL s)).map (its ++ ·)) b h') := by
  intro q
  induction q with
  | zero =>
    intro s its A c uu h m hr' hq hs hi ho hp
    obtain rfl : s = [] := List.eq_nil_of_length_eq_zero (by omega)
    refine r_strings_Lines_fn1_1 _ _ _ ?_
    refine holds_perm (cl_.aff _) (g := (L, .loop (loopR (tauP y2 y3 y4 y12 u) D)) :: slB y4 A its.length c :: slB y2 none 0 0 :: erB y3 0 :: stB g [] :: (m ++ hr')) hp ?_
    refine ldS (x := bS []) (show _ ∈ _ from mq1 (mq1 (mq1 (mq1 mq0)))) rfl (by kernel_rfl) ?_
    dsimp only
    refine h_no (by decide) ?_
    refine h_end (h1 := [(L, .loop (loopR (tauP y2 y3 y4 y12 u) D)), slB y4 A its.length c, slB y2 none 0 0, erB y3 0] ++ m) (g := stB g [] :: hr') ?_ ⟨true, ?_⟩
    · unfold slB erB stB; exact (perm_count fun D_ a_ => by simp only [Value.cells, List.count_append, List.count_cons, List.count_nil, List.nil_append, List.cons_append]; omega)
    · refine ⟨rfl, A, c, m, ?_, ?_⟩
      · show OwnT A (its ++ []).length c (its ++ []) m
        rw [List.append_nil]; exact ho
      · simp
  | succ q ih =>
    intro s its A c uu h m hr' hq hs hi ho hp
    refine r_strings_Lines_fn1_1 _ _ _ ?_
    refine holds_perm (cl_.aff _) (g := (L, .loop (loopR (tauP y2 y3 y4 y12 u) D)) :: slB y4 A its.length c :: slB y2 none 0 0 :: erB y3 0 :: stB g s :: (m ++ hr')) hp ?_
    have hst : (g, Obj.cells #[.string (bS s)] 9 (0, 0)) ∈ (L, .loop (loopR (tauP y2 y3 y4 y12 u) D)) :: slB y4 A its.length c :: slB y2 none 0 0 :: erB y3 0 :: stB g s :: (m ++ hr') := mq1 (mq1 (mq1 (mq1 mq0)))
    refine ldS hst rfl (by kernel_rfl) ?_
    dsimp only
    rw [bS_size]
    refine h_ite (fun t0 => ?_) (fun t0 => ?_)
    rotate_left
    · obtain rfl : s = [] := List.eq_nil_of_length_eq_zero (by simp at t0; simp [t0])
      refine h_end (h1 := [(L, .loop (loopR (tauP y2 y3 y4 y12 u) D)), slB y4 A its.length c, slB y2 none 0 0, erB y3 0] ++ m) (g := stB g [] :: hr') ?_ ⟨true, ?_⟩
      · unfold slB erB stB; exact (perm_count fun D_ a_ => by simp only [Value.cells, List.count_append, List.count_cons, List.count_nil, List.nil_append, List.cons_append]; omega)
      · refine ⟨rfl, A, c, m, ?_, ?_⟩
        · show OwnT A (its ++ []).length c (its ++ []) m
          rw [List.append_nil]; exact ho
        · simp
    have hne : s ≠ [] := fun e => by subst e; simp at t0
    have hpos : 0 < s.length := List.length_pos_iff.2 hne
    refine ldS hst rfl (by kernel_rfl) ?_
    dsimp only
    refine h_call0 (fun _ => { i := Lib.indexByte s 10 }) ca_strings_IndexByte (fun hl => indexByte_fn (c := 10)) rfl ?_
    dsimp only
    refine h_ite (fun t1 => ?_) (fun t1 => ?_)
    · have h1 : 0 ≤ Lib.indexByte s 10 := by simpa using t1
      obtain ⟨i, hi2⟩ := Int.eq_ofNat_of_zero_le h1
      obtain ⟨hlt, hls⟩ := lines_hit hi2
      simp only [hi2]
      refine ldS hst rfl (by kernel_rfl) ?_
      dsimp only
      rw [wrapS (by omega)]
      refine h_cutS 0 (i + 1) (by kernel_rfl) (by simp [okB]) (by simp [okB]) (by omega) (by omega) ?_
      dsimp only
      refine ldS hst rfl (by kernel_rfl) ?_
      dsimp only
      refine h_cutS (i + 1) s.length (by kernel_rfl) (by simp [okB]) (by simp [okB]) (by omega) (by omega) ?_
      dsimp only
      rw [List.take_length, List.drop_zero]
      refine stU (t0 := 9) (b := g) (off := 0) (arr := #[.string (bS s)]) (h' := (L, .loop (loopR (tauP y2 y3 y4 y12 u) D)) :: slB y4 A its.length c :: slB y2 none 0 0 :: erB y3 0 :: stB g (s.drop (i + 1)) :: (m ++ hr')) (Upd.there (Upd.there (Upd.there (Upd.there Upd.here)))) (by kernel_rfl) rfl (by simp [Value.cells]) ?_
      refine h_yld (Qc := cl_ fun v h' => ∃ b, v = .bool b ∧ RQ L y2 y3 y4 (loopR (tauP y2 y3 y4 y12 u) D) ((readP (s.take (i + 1))).map (fun x => its ++ [x])) b h') ([(L, .loop (loopR (tauP y2 y3 y4 y12 u) D)), slB y4 A its.length c, slB y2 none 0 0, erB y3 0] ++ m) (stB g (s.drop (i + 1)) :: hr') (r := loopR (tauP y2 y3 y4 y12 u) D) (.inl List.mem_cons_self) rfl ?_ (fun hl => ?_) ?_
      · unfold slB erB stB; exact (perm_count fun D_ a_ => by simp only [Value.cells, List.count_append, List.count_cons, List.count_nil, List.nil_append, List.cons_append]; omega)
      · rw [tmps_eq]
        have hlr : Live I (stB g (s.drop (i + 1)) :: hr') := Live.left (g := [(L, .loop (loopR (tauP y2 y3 y4 y12 u) D)), slB y4 A its.length c, slB y2 none 0 0, erB y3 0] ++ m) (hl.perm (by unfold slB erB stB; exact (perm_count fun D_ a_ => by simp only [Value.cells, List.count_append, List.count_cons, List.count_nil, List.nil_append, List.cons_append]; omega)))
        exact RoundFn.of (round_spec (hg.plus hlr) (by first | omega | (simp; omega)) (by omega) ho _)
      rintro v h1 ⟨h2, gg, hp2, b, rfl, hq⟩
      refine ⟨b, rfl, holds_perm (cl_.aff _) (hp2.append_right _) ?_⟩
      cases hx : readP (s.take (i + 1)) with
      | none =>
        rw [hx] at hq
        obtain ⟨rfl, rfl⟩ := hq
        refine h_yes rfl ?_
        refine h_end (h1 := [(L, .loop { loopR (tauP y2 y3 y4 y12 u) D with state := .done, pending := some .ret }), slB y2 none 0 0, erB y3 2]) (g := gg ++ stB g (s.drop (i + 1)) :: hr') (by rw [List.append_assoc]) ⟨false, ?_⟩
        rw [hls, readAll, hx]
        exact ⟨rfl, rfl⟩
      | some x =>
        rw [hx] at hq
        obtain ⟨rfl, A', c', m', ho', rfl⟩ := hq
        refine h_no rfl ?_
        refine h_stop fun hl2 => ?_
        have hres : (readAll (linesL s)).map (its ++ ·) = (readAll (linesL (s.drop (i + 1)))).map ((its ++ [x]) ++ ·) := by
          rw [hls, readAll, hx]
          simp only [Option.map_map]
          congr 1
          funext r
          simp
        rw [hres]
        refine ih (s.drop (i + 1)) (its ++ [x]) A' c' _ _ m' (gg ++ hr') (by simp <;> omega) (by simp <;> omega) (by simp <;> omega) ho' ?_
        unfold Pick slB erB stB
        exact (perm_count fun D_ a_ => by simp only [Value.cells, List.count_append, List.count_cons, List.count_nil, List.nil_append, List.cons_append]; omega)
    · have h1 : Lib.indexByte s 10 < 0 := by simp at t1; omega
      have hls : linesL s = s :: linesL [] := lines_miss h1 hne
      refine ldS hst rfl (by kernel_rfl) ?_
      dsimp only
      refine stU (t0 := 9) (b := g) (off := 0) (arr := #[.string (bS s)]) (h' := (L, .loop (loopR (tauP y2 y3 y4 y12 u) D)) :: slB y4 A its.length c :: slB y2 none 0 0 :: erB y3 0 :: stB g [] :: (m ++ hr')) (Upd.there (Upd.there (Upd.there (Upd.there Upd.here)))) (by kernel_rfl) rfl (by simp [Value.cells]) ?_
      refine h_yld (Qc := cl_ fun v h' => ∃ b, v = .bool b ∧ RQ L y2 y3 y4 (loopR (tauP y2 y3 y4 y12 u) D) ((readP s).map (fun x => its ++ [x])) b h') ([(L, .loop (loopR (tauP y2 y3 y4 y12 u) D)), slB y4 A its.length c, slB y2 none 0 0, erB y3 0] ++ m) (stB g [] :: hr') (r := loopR (tauP y2 y3 y4 y12 u) D) (.inl List.mem_cons_self) rfl ?_ (fun hl => ?_) ?_
      · unfold slB erB stB; exact (perm_count fun D_ a_ => by simp only [Value.cells, List.count_append, List.count_cons, List.count_nil, List.nil_append, List.cons_append]; omega)
      · rw [tmps_eq]
        have hlr : Live I (stB g [] :: hr') := Live.left (g := [(L, .loop (loopR (tauP y2 y3 y4 y12 u) D)), slB y4 A its.length c, slB y2 none 0 0, erB y3 0] ++ m) (hl.perm (by unfold slB erB stB; exact (perm_count fun D_ a_ => by simp only [Value.cells, List.count_append, List.count_cons, List.count_nil, List.nil_append, List.cons_append]; omega)))
        exact RoundFn.of (round_spec (hg.plus hlr) (by first | omega | (simp; omega)) (by omega) ho _)
      rintro v h1 ⟨h2, gg, hp2, b, rfl, hq⟩
      refine ⟨b, rfl, holds_perm (cl_.aff _) (hp2.append_right _) ?_⟩
      cases hx : readP s with
      | none =>
        rw [hx] at hq
        obtain ⟨rfl, rfl⟩ := hq
        refine h_yes rfl ?_
        refine h_end (h1 := [(L, .loop { loopR (tauP y2 y3 y4 y12 u) D with state := .done, pending := some .ret }), slB y2 none 0 0, erB y3 2]) (g := gg ++ stB g [] :: hr') (by rw [List.append_assoc]) ⟨false, ?_⟩
        rw [hls, readAll, hx]
        exact ⟨rfl, rfl⟩
      | some x =>
        rw [hx] at hq
        obtain ⟨rfl, A', c', m', ho', rfl⟩ := hq
        refine h_no rfl ?_
        refine h_stop fun hl2 => ?_
        have hres : (readAll (linesL s)).map (its ++ ·) = (readAll (linesL [])).map ((its ++ [x]) ++ ·) := by
          rw [hls, readAll, hx]
          simp only [Option.map_map]
          congr 1
          funext r
          simp
        rw [hres]
        refine ih [] (its ++ [x]) A' c' _ _ m' (gg ++ hr') (by simp <;> omega) (by simp <;> omega) (by simp <;> omega) ho' ?_
        unfold Pick slB erB stB
        exact (perm_count fun D_ a_ => by simp only [Value.cells, List.count_append, List.count_cons, List.count_nil, List.nil_append, List.cons_append]; omega)
end Go.Proofs.YtcafalcmfdnojaaDoorS
