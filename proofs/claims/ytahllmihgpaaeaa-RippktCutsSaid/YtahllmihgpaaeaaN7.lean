import Derived.Test.YtahllmihgpaaeaaN6
set_option linter.unusedVariables false
namespace Go.Proofs.YtahllmihgpaaeaaS
def encB (c : Int) (w : Bool) (es : List Ent) : List UInt8 := [UInt8.ofNat c.toNat, 2, 0, 0] ++ (if w then wholeB else es.flatMap encE)
/-- The bytes and the error of a packet. -/
def encR (c : Int) (w : Bool) (es : List Ent) : List UInt8 × Int :=
  if es.length > 25 then ([], 9) else if (c ≠ 1 ∧ c ≠ 2) ∨ (w = true ∧ (c ≠ 1 ∨ es.length > 0)) ∨ es.all entB = false then ([], 1) else (encB c w es, 0)
abbrev GivesE (r : List UInt8 × Int) (v : Value) (h' : Mem) : Prop := ∃ A c, v = .tuple #[.slice A r.1.length c, .int .i64 r.2] ∧ OwnB A r.1.length c r.1 h'
theorem encE_len (e : Ent) : (encE e).length = 20 := by simp [encE]
theorem flat_len (es : List Ent) : (es.flatMap encE).length = es.length * 20 := by
  induction es with
  | nil => rfl
  | cons e es ih => rw [List.flatMap_cons, List.length_append, ih, encE_len, List.length_cons]; omega
theorem enc_loop {J : Ctx} {A : Option Addr} {c : Nat} {es : List Ent} {hd : List UInt8} (hin : EntsIn J A es) (hbd : es.length ≤ 25) (hhd : hd.length = 4) :
    ∀ (q i : Nat) (u : Nat → Value) (h m hr : Mem) (A5 : Option Addr) (n5 c5 : Nat), i + q = es.length → h.Perm (m ++ hr) → n5 = 4 + i * 20 → OwnB A5 n5 c5 (hd ++ (es.take i).flatMap encE) m →
    Wp Try.prog 11 k_rippkt_Encode_1 (t_rippkt_Encode_1 A es.length c es.length A5 n5 c5 i u) J h (cl_ (GivesE (hd ++ es.flatMap encE, 0))) := by
  intro q
  induction q with
  | zero =>
    intro i u h m hr A5 n5 c5 hiq hp hn ho
    rw [List.take_of_length_le (by omega)] at ho
    have hl := ho.len
    refine r_rippkt_Encode_1 _ _ _ _ _ _ _ _ _ ?_
    refine h_no (by simp; omega) ?_
    exact h_end (h1 := m) (g := hr) hp ⟨A5, c5, by rw [hl], by rw [hl]; exact ho⟩
  | succ q ih =>
    intro i u h m hr A5 n5 c5 hiq hp hn ho
    have hi : i < es.length := by omega
    obtain ⟨a, rfl, hok, hc⟩ := hin.get hi
    have htk : es.take (i + 1) = es.take i ++ [es[i]] := List.take_succ_eq_append_getElem hi
    refine r_rippkt_Encode_1 _ _ _ _ _ _ _ _ _ ?_
    refine h_yes (by simp; omega) ?_
    refine h_index a rfl (sz := 5) (by kernel_rfl) (by omega) (by omega) rfl ?_
    dsimp only
    rw [Int.toNat_natCast]
    refine h_loadA (cs := es[i].cs) (getL [{ i := (es[i].a : Nat) }, { i := es[i].n }, { i := (es[i].tag : Nat) }, { i := (es[i].next : Nat) }, { i := es[i].m }]) (by kernel_rfl) (by kernel_rfl) (hc.sub Sub.self) rfl ?_
    dsimp only [getL]
    refine h_alloc (z := .agg #[.int .u32 0, .int .i64 0, .int .u16 0, .int .u32 0, .int .i64 0]) (by kernel_rfl) fun g2 hg2 hI2 => ?_
    refine h_store 0 rfl (by kernel_rfl) (Nat.le_of_ble_eq_true rfl) (by simp [Value.cells]) ?_
    refine h_loadA (cs := es[i].cs) (getL [{ i := (es[i].a : Nat) }, { i := es[i].n }, { i := (es[i].tag : Nat) }, { i := (es[i].next : Nat) }, { i := es[i].m }]) (by kernel_rfl) (by kernel_rfl) (cells_at (j := 0) rfl rfl) rfl ?_
    dsimp only [getL]
    refine h_call [] _ ca_rippkt_put (List.Perm.refl _) (fun hl => rput_e hok) ?_
    rintro v h1 ⟨A1, c1, rfl, ho1⟩
    refine ⟨fun _ => { A := A1, n := (encE es[i]).length, c := c1 }, rfl, ?_⟩
    dsimp only
    have hel := encE_len es[i]
    refine h_append (cl_.aff _) eb_uint8 (by kernel_rfl) (ho1.rd (fun x hx => List.mem_append_left _ hx)) ho1.some_of (by simp) (bC_plain _) (m := m) (hr := h1 ++ ((g2, .cells es[i].v.cells 41 (0, 0)) :: hr)) ?_ ho (by omega) (by omega) ?_
    · refine ((hp.cons _).append_left h1).trans ?_
      show List.Perm (h1 ++ ((g2, .cells es[i].v.cells 41 (0, 0)) :: (m ++ hr))) _
      exact (perm_count fun D_ a_ => by simp only [Value.cells, List.count_append, List.count_cons, List.count_nil, List.nil_append, List.cons_append]; omega)
    intro A' c' m' ho'
    refine h_stop fun hl => ?_
    dsimp only
    rw [wrapS (by omega)]
    refine ih (i + 1) _ _ m' _ A' _ c' (by omega) (List.Perm.refl _) (by omega) ?_
    rw [← bC_append] at ho'
    rw [htk, List.flatMap_append, ← List.append_assoc]
    rw [show [es[i]].flatMap encE = encE es[i] by simp]
    exact ho'
theorem encode_spec {J : Ctx} {A : Option Addr} {c : Int} {w : Bool} {cap : Nat} {es : List Ent} (hin : EntsIn J A es) :
    Fn Try.prog 11 #[.agg #[.int .i64 c, .bool w, .slice A es.length cap]] J [] (GivesE (encR c w es)) := by
  refine r_rippkt_Encode _ _ _ _ _ ?_
  refine h_box fun g1 hg1 hI1 => ?_
  refine h_loadL (by kernel_rfl) (by first | exact cell_own (j := 0) rfl rfl | exact cell_own (j := 1) rfl rfl | exact cell_own (j := 2) rfl rfl | exact cell_own (j := 3) rfl rfl | exact cell_own (j := 4) rfl rfl) ?_
  dsimp only
  refine h_ite (fun h0 => ?_) (fun h0 => ?_)
  · have h0 : es.length > 25 := by simp at h0; omega
    have hr : encR c w es = ([], 9) := by unfold encR; rw [if_pos h0]
    rw [hr]
    exact h_end0 ⟨none, 0, rfl, Own.nil _ _⟩
  have h0 : ¬ es.length > 25 := by simp at h0; omega
  have bad : ((c ≠ 1 ∧ c ≠ 2) ∨ (w = true ∧ (c ≠ 1 ∨ es.length > 0)) ∨ es.all entB = false) → holds Try.prog 11 J (cl_ (GivesE (encR c w es))) (.done (.tuple #[.slice none 0 0, .int .i64 1])) [(g1, .cells #[.int .i64 c, .bool w, .slice A es.length cap] 24 (0, 0))] := by
    intro hb
    have hr : encR c w es = ([], 1) := by unfold encR; rw [if_neg h0, if_pos hb]
    rw [hr]
    exact h_end0 ⟨none, 0, rfl, Own.nil _ _⟩
  have good : (c = 1 ∨ c = 2) → (w = true → c = 1 ∧ es.length = 0) → es.all entB = true → ∀ u : (Nat → Leaf) → (Nat → Leaf) → (Nat → Leaf) → (Nat → Leaf) → Nat → Value, holds Try.prog 11 J (cl_ (GivesE (encR c w es)))
      (.rd (Instr.loadAt 3 (.pointer (some ⟨g1, 0, none⟩))) (.one (.sc (.int .i64))) fun l5 =>
        .sem (Instr.buildSlice 26 4 #[(0, .int .u8 (IntKind.wrap .u8 ((l5 0).i))), (1, .int .u8 2), (2, .int .u8 0), (3, .int .u8 0)]) (.one (.sc (.row 4))) fun l6 =>
        .rd (Instr.loadAt 4 (.pointer (some ⟨g1, 1, none⟩))) (.one (.sc (.bool))) fun l7 =>
        .ite ((l7 0).b)
          (.call 19 [] (.one (.sc (.sl))) fun l8 =>
            .nx (builtin .append #[26, 26] 26 #[false, false] #[.slice (some ⟨(l6 0).n, 0, none⟩) 4 4, .slice ((l8 0).A) ((l8 0).n) ((l8 0).c)]) (.one (.sc (.sl))) fun l9 =>
            .done (.tuple #[.slice ((l9 0).A) ((l9 0).n) ((l9 0).c), .int .i64 0]))
          (.rd (Instr.loadAt 22 (.pointer (some ⟨g1, 2, none⟩))) (.one (.sc (.sl))) fun l10 =>
            .stop k_rippkt_Encode_1 (t_rippkt_Encode_1 ((l10 0).A) ((l10 0).n) ((l10 0).c) (((l10 0).n : Nat) : Int) (some ⟨(l6 0).n, 0, none⟩) 4 4 0 (u l5 l6 l7 l10))))
      [(g1, .cells #[.int .i64 c, .bool w, .slice A es.length cap] 24 (0, 0))] := by
    intro hc hw ha u
    have hr : encR c w es = (encB c w es, 0) := by
      unfold encR
      rw [if_neg h0, if_neg]
      rintro (h1 | ⟨h1, h2⟩ | h1)
      · omega
      · have := hw h1; omega
      · rw [ha] at h1; cases h1
    rw [hr]
    have hcb : IntKind.wrap .u8 c = ((UInt8.ofNat c.toNat).toNat : Int) := by rcases hc with rfl | rfl <;> rfl
    refine h_loadI (by kernel_rfl) (by first | exact cell_own (j := 0) rfl rfl | exact cell_own (j := 1) rfl rfl | exact cell_own (j := 2) rfl rfl | exact cell_own (j := 3) rfl rfl | exact cell_own (j := 4) rfl rfl) ?_
    dsimp only
    rw [hcb]
    refine h_row (e := 5) #[.int .u8 ((UInt8.ofNat c.toNat).toNat : Int), .int .u8 2, .int .u8 0, .int .u8 0] (by kernel_rfl) fun g6 hg6 hI6 => ?_
    have own6 : OwnB (some ⟨g6, 0, none⟩) 4 4 [UInt8.ofNat c.toNat, 2, 0, 0] [(g6, .cells #[.int .u8 ((UInt8.ofNat c.toNat).toNat : Int), .int .u8 2, .int .u8 0, .int .u8 0] 5 (0, 0))] := Own.row (n := 4) rfl
    refine h_loadB (by kernel_rfl) (by first | exact cell_own (j := 0) rfl rfl | exact cell_own (j := 1) rfl rfl | exact cell_own (j := 2) rfl rfl | exact cell_own (j := 3) rfl rfl | exact cell_own (j := 4) rfl rfl) ?_
    refine h_ite (fun hwt => ?_) (fun hwf => ?_)
    · have hwt : w = true := hwt
      refine h_call [] _ ca_rippkt_whole (List.Perm.refl _) (fun hl => whole_spec) ?_
      rintro v h1 ⟨A1, c1, rfl, ho1⟩
      refine ⟨fun _ => { A := A1, n := wholeB.length, c := c1 }, rfl, ?_⟩
      dsimp only
      refine h_append (cl_.aff _) eb_uint8 (by kernel_rfl) (ho1.rd (fun x hx => List.mem_append_left _ hx)) ho1.some_of (by simp) (bC_plain _) (hr := (g1, .cells #[.int .i64 c, .bool w, .slice A es.length cap] 24 (0, 0)) :: h1) ?_ own6 (by simp [wholeB]) (by omega) ?_
      · show List.Perm (h1 ++ [(g6, .cells #[.int .u8 ((UInt8.ofNat c.toNat).toNat : Int), .int .u8 2, .int .u8 0, .int .u8 0] 5 (0, 0)), (g1, .cells #[.int .i64 c, .bool w, .slice A es.length cap] 24 (0, 0))]) _
        exact (perm_count fun D_ a_ => by simp only [Value.cells, List.count_append, List.count_cons, List.count_nil, List.nil_append, List.cons_append]; omega)
      intro A' c' m' ho'
      rw [← bC_append] at ho'
      have he : encB c w es = [UInt8.ofNat c.toNat, 2, 0, 0] ++ wholeB := by unfold encB; rw [if_pos hwt]
      have hlen : (encB c w es).length = 4 + wholeB.length := by rw [he, List.length_append]; rfl
      refine h_end (h1 := m') (List.Perm.refl _) ⟨A', c', by rw [hlen], ?_⟩
      rw [hlen, he]
      exact ho'
    · have hwf : w = false := hwf
      refine h_loadL (by kernel_rfl) (by first | exact cell_own (j := 0) rfl rfl | exact cell_own (j := 1) rfl rfl | exact cell_own (j := 2) rfl rfl | exact cell_own (j := 3) rfl rfl | exact cell_own (j := 4) rfl rfl) ?_
      refine h_stop fun hl => ?_
      have he : encB c w es = [UInt8.ofNat c.toNat, 2, 0, 0] ++ es.flatMap encE := by unfold encB; rw [hwf]; rfl
      rw [he]
      exact enc_loop hin (by omega) rfl es.length 0 _ _ [(g6, _)] _ _ 4 4 (by omega) (List.Perm.refl _) rfl own6
  have tail : (c = 1 ∨ c = 2) → (w = true → c = 1 ∧ es.length = 0) → ∀ u : (Nat → Leaf) → (Nat → Leaf) → (Nat → Leaf) → (Nat → Leaf) → (Nat → Leaf) → (Nat → Leaf) → Nat → Value, holds Try.prog 11 J (cl_ (GivesE (encR c w es)))
      (.rd (Instr.loadAt 22 (.pointer (some ⟨g1, 2, none⟩))) (.one (.sc (.sl))) fun l20 =>
        .call 18 [.slice ((l20 0).A) ((l20 0).n) ((l20 0).c), .func (.func 16) #[] #[]] (.one (.sc (.bool))) fun l21 =>
        .ite ((l21 0).b) (.done (.tuple #[.slice none 0 0, .int .i64 1]))
      (.rd (Instr.loadAt 3 (.pointer (some ⟨g1, 0, none⟩))) (.one (.sc (.int .i64))) fun l5 =>
        .sem (Instr.buildSlice 26 4 #[(0, .int .u8 (IntKind.wrap .u8 ((l5 0).i))), (1, .int .u8 2), (2, .int .u8 0), (3, .int .u8 0)]) (.one (.sc (.row 4))) fun l6 =>
        .rd (Instr.loadAt 4 (.pointer (some ⟨g1, 1, none⟩))) (.one (.sc (.bool))) fun l7 =>
        .ite ((l7 0).b)
          (.call 19 [] (.one (.sc (.sl))) fun l8 =>
            .nx (builtin .append #[26, 26] 26 #[false, false] #[.slice (some ⟨(l6 0).n, 0, none⟩) 4 4, .slice ((l8 0).A) ((l8 0).n) ((l8 0).c)]) (.one (.sc (.sl))) fun l9 =>
            .done (.tuple #[.slice ((l9 0).A) ((l9 0).n) ((l9 0).c), .int .i64 0]))
          (.rd (Instr.loadAt 22 (.pointer (some ⟨g1, 2, none⟩))) (.one (.sc (.sl))) fun l10 =>
            .stop k_rippkt_Encode_1 (t_rippkt_Encode_1 ((l10 0).A) ((l10 0).n) ((l10 0).c) (((l10 0).n : Nat) : Int) (some ⟨(l6 0).n, 0, none⟩) 4 4 0 (u l20 l21 l5 l6 l7 l10)))))
      [(g1, .cells #[.int .i64 c, .bool w, .slice A es.length cap] 24 (0, 0))] := by
    intro hc hw u
    refine h_loadL (by kernel_rfl) (by first | exact cell_own (j := 0) rfl rfl | exact cell_own (j := 1) rfl rfl | exact cell_own (j := 2) rfl rfl | exact cell_own (j := 3) rfl rfl | exact cell_own (j := 4) rfl rfl) ?_
    refine h_call0 (v := .bool (!es.all entB)) (fun _ => { b := !es.all entB }) ca_slices_ContainsFunc_RipEntry (fun hl => odds_spec (hin.up (Sub.self.up hl)) (by omega)) rfl ?_
    refine h_ite (fun h1 => bad (.inr (.inr (by simpa using h1)))) (fun h1 => ?_)
    exact good hc hw (by simpa using h1) _
  refine h_loadI (by kernel_rfl) (by first | exact cell_own (j := 0) rfl rfl | exact cell_own (j := 1) rfl rfl | exact cell_own (j := 2) rfl rfl | exact cell_own (j := 3) rfl rfl | exact cell_own (j := 4) rfl rfl) ?_
  refine h_ite (fun h1 => ?_) (fun h1 => ?_)
  · have h1 : c ≠ 1 := by simpa using h1
    refine h_loadI (by kernel_rfl) (by first | exact cell_own (j := 0) rfl rfl | exact cell_own (j := 1) rfl rfl | exact cell_own (j := 2) rfl rfl | exact cell_own (j := 3) rfl rfl | exact cell_own (j := 4) rfl rfl) ?_
    refine h_ite (fun h2 => ?_) (fun h2 => ?_)
    · refine h_yes h2 ?_
      have h2 : c ≠ 2 := by simpa using h2
      exact bad (.inl ⟨h1, h2⟩)
    · have h2 : c = 2 := by simpa using h2
      refine h_loadB (by kernel_rfl) (by first | exact cell_own (j := 0) rfl rfl | exact cell_own (j := 1) rfl rfl | exact cell_own (j := 2) rfl rfl | exact cell_own (j := 3) rfl rfl | exact cell_own (j := 4) rfl rfl) ?_
      refine h_ite (fun h3 => ?_) (fun h3 => ?_)
      · refine h_loadI (by kernel_rfl) (by first | exact cell_own (j := 0) rfl rfl | exact cell_own (j := 1) rfl rfl | exact cell_own (j := 2) rfl rfl | exact cell_own (j := 3) rfl rfl | exact cell_own (j := 4) rfl rfl) ?_
        refine h_yes (by simpa using h1) ?_
        exact bad (.inr (.inl ⟨h3, .inl h1⟩))
      · have h3 : w = false := h3
        exact tail (.inr h2) (fun hw => by rw [h3] at hw; cases hw) _
  · have h1 : c = 1 := by simpa using h1
    refine h_loadB (by kernel_rfl) (by first | exact cell_own (j := 0) rfl rfl | exact cell_own (j := 1) rfl rfl | exact cell_own (j := 2) rfl rfl | exact cell_own (j := 3) rfl rfl | exact cell_own (j := 4) rfl rfl) ?_
    refine h_ite (fun h3 => ?_) (fun h3 => ?_)
    · refine h_loadI (by kernel_rfl) (by first | exact cell_own (j := 0) rfl rfl | exact cell_own (j := 1) rfl rfl | exact cell_own (j := 2) rfl rfl | exact cell_own (j := 3) rfl rfl | exact cell_own (j := 4) rfl rfl) ?_
      refine h_no (by simpa using h1) ?_
      refine h_loadL (by kernel_rfl) (by first | exact cell_own (j := 0) rfl rfl | exact cell_own (j := 1) rfl rfl | exact cell_own (j := 2) rfl rfl | exact cell_own (j := 3) rfl rfl | exact cell_own (j := 4) rfl rfl) ?_
      refine h_ite (fun h4 => ?_) (fun h4 => ?_)
      · refine h_yes h4 ?_
        exact bad (.inr (.inl ⟨h3, .inr (by simp at h4; omega)⟩))
      · exact tail (.inl h1) (fun _ => ⟨h1, by dsimp only at h4; rw [decide_eq_false_iff_not] at h4; omega⟩) _
    · have h3 : w = false := h3
      exact tail (.inl h1) (fun hw => by rw [h3] at hw; cases hw) _
end Go.Proofs.YtahllmihgpaaeaaS
