import Derived.Test.YtkdakglnhipmaaaN11
import Derived.Test.YtkdakglnhipmaaaTA
set_option linter.unusedVariables false
namespace Go.Proofs.YtkdakglnhipmaaaS
/-! The document's decoder, and whether two packets are one. -/
theorem drget_spec {I : Ctx} {A : Option Addr} {n c i : Nat} {l : List UInt8} (hr : RdB I A n l) (hn : n ≤ c) (hb : n ≤ 1000000) (hi : i + 4 ≤ l.length) :
    Fn Try.prog 29 #[.slice A n c, .int .i64 (i : Int)] I [] (fun v h' => v = .int .u32 (num l i 4 : Nat) ∧ h' = []) := by
  refine r_octroiref07_get _ _ _ _ ?_
  refine h_call0 (getL [{ i := (num l i 4 : Nat) }, { b := true }]) ca_octroiref01_Get (fun hl => rget_in (k := 4) (hr.up (Sub.self.up hl)) hn (by unfold maxLen; omega) (by omega) hi) rfl ?_
  exact h_end0 ⟨rfl, rfl⟩
def drd (l : List UInt8) (a : Nat) : DEnt := ⟨num l a 4, (((byteAt l (a + 4)).toNat : Nat) : Int), ⟨(num l (a + 8) 4 : Nat), (num l (a + 12) 4 : Nat), (((byteAt l (a + 5)).toNat : Nat) : Int)⟩, num l (a + 6) 2⟩
theorem drd_eq (l : List UInt8) (a : Nat) : dreadE ((l.drop a).take 20) = drd l a := by
  unfold dreadE drd
  rw [num_chunk (by omega), num_chunk (by omega), num_chunk (by omega), num_chunk (by omega), byteAt_chunk (by omega), byteAt_chunk (by omega), Nat.add_zero]
theorem drd_ok (l : List UInt8) (a : Nat) : (drd l a).ok := by rw [← drd_eq]; exact dreadE_ok _
theorem rddec_loop {I : Ctx} {A0 : Addr} {n c0 : Nat} {l : List UInt8} {p : DPk} (hr : RdB I (some A0) n l) (hcell : ∀ i b, l[i]? = some b → CellIs I [] (A0.add i) (.int .u8 (b.toNat : Int))) (hn : n ≤ c0) (hbig : n ≤ 1000000) (hok : p.ok) :
    ∀ (q a : Nat) (es : List DEnt) (y2 y4 y8 : Nat) (A : Option Addr) (c : Nat) (u : Nat → Value) (h m hr' : Mem), a + 20 * q = n → es.length + q ≤ 40 → OwnD A c es m →
    Pick h ([(y2, .cells z25 25 (0, 0))] ++ ([(y4, .cells z25 25 (0, 0))] ++ ([(y8, .cells ⟨(p.w es).cs A c⟩ 25 (0, 0))] ++ m))) hr' →
    Wp Try.prog 14 k_octroiref07_Decode_1 (t_octroiref07_Decode_1 (some A0) n c0 y2 y4 y8 a u) I h (cl_ (GivesD (dfin (p.w (es ++ (chunks q (l.drop a)).map dreadE)) l))) := by
  have hln := hr.len
  intro q
  induction q with
  | zero =>
    intro a es y2 y4 y8 A c u h m hr' hi hes ho hp
    refine r_octroiref07_Decode_1 _ _ _ _ _ _ _ _ ?_
    refine holds_perm (cl_.aff _) (g := (y2, .cells z25 25 (0, 0)) :: (y4, .cells z25 25 (0, 0)) :: (y8, .cells ⟨(p.w es).cs A c⟩ 25 (0, 0)) :: (m ++ hr')) hp ?_
    refine h_no (by simp; omega) ?_
    rw [show es ++ (chunks 0 (l.drop a)).map dreadE = es by simp [chunks]]
    (repeat ((first | refine h_box fun _ _ _ => ?_ | ((with_reducible show holds _ _ _ _ (.sem (Instr.alloc 25 _ _) _ _) _); refine h_alloc zb_DualPacket fun _ _ _ => ?_) | ((with_reducible show holds _ _ _ _ (.sem (Instr.alloc 43 _ _) _ _) _); refine h_alloc zb_DualEntry_43 fun _ _ _ => ?_) | ((with_reducible show holds _ _ _ _ (.rd (Instr.loadAt _ (.pointer _)) _ _) _); first | refine ldI (by repeat (first | exact mq0 | apply mq1 | apply mq2)) (by rfl) (by kernel_rfl) ?_ | refine ldL (by repeat (first | exact mq0 | apply mq1 | apply mq2)) (by rfl) (by kernel_rfl) ?_ | refine ldB (by repeat (first | exact mq0 | apply mq1 | apply mq2)) (by rfl) (by kernel_rfl) ?_ | refine la0 (by repeat (first | exact mq0 | apply mq1 | apply mq2)) (by rfl) (by kernel_rfl) ?_ | refine la3 (by repeat (first | exact mq0 | apply mq1 | apply mq2)) (by rfl) (by kernel_rfl) ?_) | ((with_reducible show holds _ _ _ _ (.rd (loadVar _ _) _ _) _); refine lv0 (by repeat (first | exact mq0 | apply mq1 | apply mq2)) (by rfl) (by kernel_rfl) ?_) | ((with_reducible show holds _ _ _ _ (.unit (Instr.storeAt _ _ _) _) _); refine stU (by repeat (first | exact Upd.here | apply Upd.there | apply Upd.right)) (by kernel_rfl) (by rfl) (by simp [Value.cells]) ?_) | ((with_reducible show holds _ _ _ _ (.pin (vN (Instr.loadAt _ _)) _ _) _); first | refine pnA (by repeat (first | exact mq0 | apply mq1 | apply mq2)) (by rfl) (by kernel_rfl) ?_ | refine pn1 (by repeat (first | exact mq0 | apply mq1 | apply mq2)) (by rfl) (by kernel_rfl) ?_)); try dsimp only [getL]))
    refine h_call [] _ ca_octroiref07_Encode (List.Perm.refl _) (fun hl => rdencode_spec (p := p.w es) (ho.ents hl (fun x hx => by first | (simp [hx]; done) | (rw [List.mem_singleton] at hx; subst hx; simp; done))) ⟨hok.seq, hok.ack⟩) ?_
    rintro v h1 ⟨X1, x1, rfl, ho1⟩
    refine ⟨getL [{ A := X1, n := (dencR (p.w es)).1.length, c := x1 }, { i := (dencR (p.w es)).2 }], rfl, ?_⟩
    dsimp only [getL]
    refine h_ite (fun t => ?_) (fun t => ?_)
    · rw [show dfin (p.w es) l = (none7, 2) by unfold dfin; rw [if_neg (fun e => by rw [e] at t; simp at t)]]
      (repeat ((first | refine h_box fun _ _ _ => ?_ | ((with_reducible show holds _ _ _ _ (.sem (Instr.alloc 25 _ _) _ _) _); refine h_alloc zb_DualPacket fun _ _ _ => ?_) | ((with_reducible show holds _ _ _ _ (.sem (Instr.alloc 43 _ _) _ _) _); refine h_alloc zb_DualEntry_43 fun _ _ _ => ?_) | ((with_reducible show holds _ _ _ _ (.rd (Instr.loadAt _ (.pointer _)) _ _) _); first | refine ldI (by repeat (first | exact mq0 | apply mq1 | apply mq2)) (by rfl) (by kernel_rfl) ?_ | refine ldL (by repeat (first | exact mq0 | apply mq1 | apply mq2)) (by rfl) (by kernel_rfl) ?_ | refine ldB (by repeat (first | exact mq0 | apply mq1 | apply mq2)) (by rfl) (by kernel_rfl) ?_ | refine la0 (by repeat (first | exact mq0 | apply mq1 | apply mq2)) (by rfl) (by kernel_rfl) ?_ | refine la3 (by repeat (first | exact mq0 | apply mq1 | apply mq2)) (by rfl) (by kernel_rfl) ?_) | ((with_reducible show holds _ _ _ _ (.rd (loadVar _ _) _ _) _); refine lv0 (by repeat (first | exact mq0 | apply mq1 | apply mq2)) (by rfl) (by kernel_rfl) ?_) | ((with_reducible show holds _ _ _ _ (.unit (Instr.storeAt _ _ _) _) _); refine stU (by repeat (first | exact Upd.here | apply Upd.there | apply Upd.right)) (by kernel_rfl) (by rfl) (by simp [Value.cells]) ?_) | ((with_reducible show holds _ _ _ _ (.pin (vN (Instr.loadAt _ _)) _ _) _); first | refine pnA (by repeat (first | exact mq0 | apply mq1 | apply mq2)) (by rfl) (by kernel_rfl) ?_ | refine pn1 (by repeat (first | exact mq0 | apply mq1 | apply mq2)) (by rfl) (by kernel_rfl) ?_)); try dsimp only [getL]))
      exact h_end0 ⟨none, 0, rfl, OwnD.nil, none7_ok⟩
    have t0 : (dencR (p.w es)).2 = 0 := by simpa using t
    refine h_toString (e := 5) (l := (dencR (p.w es)).1) (by kernel_rfl) (by kernel_rfl) (by kernel_rfl) rfl (ho1.rd (fun x hx => by first | (simp [hx]; done) | (rw [List.mem_singleton] at hx; subst hx; simp; done))) ho1.some_of ?_
    refine h_toString (e := 5) (l := l) (by kernel_rfl) (by kernel_rfl) (by kernel_rfl) hln (hr.rd.sub Sub.self) hr.nil ?_
    dsimp only
    rw [bS_toList, bS_toList]
    refine h_ite (fun t2 => ?_) (fun t2 => ?_)
    · rw [show dfin (p.w es) l = (none7, 2) by unfold dfin; rw [if_neg (fun e => by rw [e] at t2; simp at t2)]]
      (repeat ((first | refine h_box fun _ _ _ => ?_ | ((with_reducible show holds _ _ _ _ (.sem (Instr.alloc 25 _ _) _ _) _); refine h_alloc zb_DualPacket fun _ _ _ => ?_) | ((with_reducible show holds _ _ _ _ (.sem (Instr.alloc 43 _ _) _ _) _); refine h_alloc zb_DualEntry_43 fun _ _ _ => ?_) | ((with_reducible show holds _ _ _ _ (.rd (Instr.loadAt _ (.pointer _)) _ _) _); first | refine ldI (by repeat (first | exact mq0 | apply mq1 | apply mq2)) (by rfl) (by kernel_rfl) ?_ | refine ldL (by repeat (first | exact mq0 | apply mq1 | apply mq2)) (by rfl) (by kernel_rfl) ?_ | refine ldB (by repeat (first | exact mq0 | apply mq1 | apply mq2)) (by rfl) (by kernel_rfl) ?_ | refine la0 (by repeat (first | exact mq0 | apply mq1 | apply mq2)) (by rfl) (by kernel_rfl) ?_ | refine la3 (by repeat (first | exact mq0 | apply mq1 | apply mq2)) (by rfl) (by kernel_rfl) ?_) | ((with_reducible show holds _ _ _ _ (.rd (loadVar _ _) _ _) _); refine lv0 (by repeat (first | exact mq0 | apply mq1 | apply mq2)) (by rfl) (by kernel_rfl) ?_) | ((with_reducible show holds _ _ _ _ (.unit (Instr.storeAt _ _ _) _) _); refine stU (by repeat (first | exact Upd.here | apply Upd.there | apply Upd.right)) (by kernel_rfl) (by rfl) (by simp [Value.cells]) ?_) | ((with_reducible show holds _ _ _ _ (.pin (vN (Instr.loadAt _ _)) _ _) _); first | refine pnA (by repeat (first | exact mq0 | apply mq1 | apply mq2)) (by rfl) (by kernel_rfl) ?_ | refine pn1 (by repeat (first | exact mq0 | apply mq1 | apply mq2)) (by rfl) (by kernel_rfl) ?_)); try dsimp only [getL]))
      exact h_end0 ⟨none, 0, rfl, OwnD.nil, none7_ok⟩
    rw [show dfin (p.w es) l = (p.w es, 0) by
      unfold dfin
      rw [if_pos (Prod.ext (by simpa using t2) t0)]]
    (repeat ((first | refine h_box fun _ _ _ => ?_ | ((with_reducible show holds _ _ _ _ (.sem (Instr.alloc 25 _ _) _ _) _); refine h_alloc zb_DualPacket fun _ _ _ => ?_) | ((with_reducible show holds _ _ _ _ (.sem (Instr.alloc 43 _ _) _ _) _); refine h_alloc zb_DualEntry_43 fun _ _ _ => ?_) | ((with_reducible show holds _ _ _ _ (.rd (Instr.loadAt _ (.pointer _)) _ _) _); first | refine ldI (by repeat (first | exact mq0 | apply mq1 | apply mq2)) (by rfl) (by kernel_rfl) ?_ | refine ldL (by repeat (first | exact mq0 | apply mq1 | apply mq2)) (by rfl) (by kernel_rfl) ?_ | refine ldB (by repeat (first | exact mq0 | apply mq1 | apply mq2)) (by rfl) (by kernel_rfl) ?_ | refine la0 (by repeat (first | exact mq0 | apply mq1 | apply mq2)) (by rfl) (by kernel_rfl) ?_ | refine la3 (by repeat (first | exact mq0 | apply mq1 | apply mq2)) (by rfl) (by kernel_rfl) ?_) | ((with_reducible show holds _ _ _ _ (.rd (loadVar _ _) _ _) _); refine lv0 (by repeat (first | exact mq0 | apply mq1 | apply mq2)) (by rfl) (by kernel_rfl) ?_) | ((with_reducible show holds _ _ _ _ (.unit (Instr.storeAt _ _ _) _) _); refine stU (by repeat (first | exact Upd.here | apply Upd.there | apply Upd.right)) (by kernel_rfl) (by rfl) (by simp [Value.cells]) ?_) | ((with_reducible show holds _ _ _ _ (.pin (vN (Instr.loadAt _ _)) _ _) _); first | refine pnA (by repeat (first | exact mq0 | apply mq1 | apply mq2)) (by rfl) (by kernel_rfl) ?_ | refine pn1 (by repeat (first | exact mq0 | apply mq1 | apply mq2)) (by rfl) (by kernel_rfl) ?_)); try dsimp only [getL]))
    exact h_end (h1 := m) (by repeat (first | exact Pick.here | exact Pick.one | apply Pick.two | apply Pick.cons | apply Pick.app)) ⟨A, c, rfl, ho, ⟨hok.seq, hok.ack⟩⟩
  | succ q ih =>
    intro a es y2 y4 y8 A c u h m hr' hi hes ho hp
    have t4 := (byteAt l (a + 4)).toNat_lt
    have t5 := (byteAt l (a + 5)).toNat_lt
    have n6 := num_lt l (a + 6) 2
    have n8 := num_lt l (a + 8) 4
    have n12 := num_lt l (a + 12) 4
    refine r_octroiref07_Decode_1 _ _ _ _ _ _ _ _ ?_
    refine holds_perm (cl_.aff _) (g := (y2, .cells z25 25 (0, 0)) :: (y4, .cells z25 25 (0, 0)) :: (y8, .cells ⟨(p.w es).cs A c⟩ 25 (0, 0)) :: (m ++ hr')) hp ?_
    refine h_yes (by simp; omega) ?_
    simp only [show IntKind.wrap .i64 (((a : Nat) : Int) + 6) = (((a + 6 : Nat)) : Int) by rw [wrap64 (by omega)]; omega]
    simp only [show IntKind.wrap .i64 (((a : Nat) : Int) + 4) = (((a + 4 : Nat)) : Int) by rw [wrap64 (by omega)]; omega]
    simp only [show IntKind.wrap .i64 (((a : Nat) : Int) + 5) = (((a + 5 : Nat)) : Int) by rw [wrap64 (by omega)]; omega]
    simp only [show IntKind.wrap .i64 (((a : Nat) : Int) + 8) = (((a + 8 : Nat)) : Int) by rw [wrap64 (by omega)]; omega]
    simp only [show IntKind.wrap .i64 (((a : Nat) : Int) + 12) = (((a + 12 : Nat)) : Int) by rw [wrap64 (by omega)]; omega]
    refine h_call0 (getL [{ i := (num l (a + 6) 2 : Nat) }, { b := true }]) ca_octroiref01_Get (fun hl => rget_in (i := a + 6) (k := 2) (hr.up (Sub.self.up hl)) hn (by unfold maxLen; omega) (by omega) (by omega)) rfl ?_
    refine h_byteI (e := 5) (a + 4) ((hcell (a + 4) _ (byteAt_in (by omega))).sub Sub.self) (by omega) rfl (by kernel_rfl) (by kernel_rfl) (by kernel_rfl) ?_
    refine h_call0 (v := .int .u32 (num l a 4 : Nat)) (fun _ => { i := (num l a 4 : Nat) }) ca_octroiref07_get (fun hl => drget_spec (hr.up (Sub.self.up hl)) hn hbig (by omega)) rfl ?_
    refine h_pinC ((hcell (a + 4) _ (byteAt_in (by omega))).sub Sub.self) (by kernel_rfl) ?_
    refine h_pinI (e := 5) (a + 4) (by omega) rfl (by kernel_rfl) (by kernel_rfl) ?_
    dsimp only [getL]
    rw [wrap64 (x := (((byteAt l (a + 4)).toNat : Nat) : Int)) (by omega), wrap16n (by omega)]
    (repeat ((first | refine h_box fun _ _ _ => ?_ | ((with_reducible show holds _ _ _ _ (.sem (Instr.alloc 25 _ _) _ _) _); refine h_alloc zb_DualPacket fun _ _ _ => ?_) | ((with_reducible show holds _ _ _ _ (.sem (Instr.alloc 43 _ _) _ _) _); refine h_alloc zb_DualEntry_43 fun _ _ _ => ?_) | ((with_reducible show holds _ _ _ _ (.rd (Instr.loadAt _ (.pointer _)) _ _) _); first | refine ldI (by repeat (first | exact mq0 | apply mq1 | apply mq2)) (by rfl) (by kernel_rfl) ?_ | refine ldL (by repeat (first | exact mq0 | apply mq1 | apply mq2)) (by rfl) (by kernel_rfl) ?_ | refine ldB (by repeat (first | exact mq0 | apply mq1 | apply mq2)) (by rfl) (by kernel_rfl) ?_ | refine la0 (by repeat (first | exact mq0 | apply mq1 | apply mq2)) (by rfl) (by kernel_rfl) ?_ | refine la3 (by repeat (first | exact mq0 | apply mq1 | apply mq2)) (by rfl) (by kernel_rfl) ?_) | ((with_reducible show holds _ _ _ _ (.rd (loadVar _ _) _ _) _); refine lv0 (by repeat (first | exact mq0 | apply mq1 | apply mq2)) (by rfl) (by kernel_rfl) ?_) | ((with_reducible show holds _ _ _ _ (.unit (Instr.storeAt _ _ _) _) _); refine stU (by repeat (first | exact Upd.here | apply Upd.there | apply Upd.right)) (by kernel_rfl) (by rfl) (by simp [Value.cells]) ?_) | ((with_reducible show holds _ _ _ _ (.pin (vN (Instr.loadAt _ _)) _ _) _); first | refine pnA (by repeat (first | exact mq0 | apply mq1 | apply mq2)) (by rfl) (by kernel_rfl) ?_ | refine pn1 (by repeat (first | exact mq0 | apply mq1 | apply mq2)) (by rfl) (by kernel_rfl) ?_)); try dsimp only [getL]))
    refine h_byteI (e := 5) (a + 5) ((hcell (a + 5) _ (byteAt_in (by omega))).sub Sub.self) (by omega) rfl (by kernel_rfl) (by kernel_rfl) (by kernel_rfl) ?_
    refine h_call0 (v := .int .u32 (num l (a + 8) 4 : Nat)) (fun _ => { i := (num l (a + 8) 4 : Nat) }) ca_octroiref07_get (fun hl => drget_spec (hr.up (Sub.self.up hl)) hn hbig (by omega)) rfl ?_
    refine h_pinC ((hcell (a + 5) _ (byteAt_in (by omega))).sub Sub.self) (by kernel_rfl) ?_
    refine h_pinI (e := 5) (a + 5) (by omega) rfl (by kernel_rfl) (by kernel_rfl) ?_
    refine h_call0 (v := .int .u32 (num l (a + 12) 4 : Nat)) (fun _ => { i := (num l (a + 12) 4 : Nat) }) ca_octroiref07_get (fun hl => drget_spec (hr.up (Sub.self.up hl)) hn hbig (by omega)) rfl ?_
    refine h_pinC ((hcell (a + 5) _ (byteAt_in (by omega))).sub Sub.self) (by kernel_rfl) ?_
    refine h_pinI (e := 5) (a + 5) (by omega) rfl (by kernel_rfl) (by kernel_rfl) ?_
    dsimp only
    rw [wrap64 (x := (((byteAt l (a + 5)).toNat : Nat) : Int)) (by omega), wrap64 (x := ((num l (a + 8) 4 : Nat) : Int)) (by omega), wrap64 (x := ((num l (a + 12) 4 : Nat) : Int)) (by omega)]
    (repeat ((first | refine h_box fun _ _ _ => ?_ | ((with_reducible show holds _ _ _ _ (.sem (Instr.alloc 25 _ _) _ _) _); refine h_alloc zb_DualPacket fun _ _ _ => ?_) | ((with_reducible show holds _ _ _ _ (.sem (Instr.alloc 43 _ _) _ _) _); refine h_alloc zb_DualEntry_43 fun _ _ _ => ?_) | ((with_reducible show holds _ _ _ _ (.rd (Instr.loadAt _ (.pointer _)) _ _) _); first | refine ldI (by repeat (first | exact mq0 | apply mq1 | apply mq2)) (by rfl) (by kernel_rfl) ?_ | refine ldL (by repeat (first | exact mq0 | apply mq1 | apply mq2)) (by rfl) (by kernel_rfl) ?_ | refine ldB (by repeat (first | exact mq0 | apply mq1 | apply mq2)) (by rfl) (by kernel_rfl) ?_ | refine la0 (by repeat (first | exact mq0 | apply mq1 | apply mq2)) (by rfl) (by kernel_rfl) ?_ | refine la3 (by repeat (first | exact mq0 | apply mq1 | apply mq2)) (by rfl) (by kernel_rfl) ?_) | ((with_reducible show holds _ _ _ _ (.rd (loadVar _ _) _ _) _); refine lv0 (by repeat (first | exact mq0 | apply mq1 | apply mq2)) (by rfl) (by kernel_rfl) ?_) | ((with_reducible show holds _ _ _ _ (.unit (Instr.storeAt _ _ _) _) _); refine stU (by repeat (first | exact Upd.here | apply Upd.there | apply Upd.right)) (by kernel_rfl) (by rfl) (by simp [Value.cells]) ?_) | ((with_reducible show holds _ _ _ _ (.pin (vN (Instr.loadAt _ _)) _ _) _); first | refine pnA (by repeat (first | exact mq0 | apply mq1 | apply mq2)) (by rfl) (by kernel_rfl) ?_ | refine pn1 (by repeat (first | exact mq0 | apply mq1 | apply mq2)) (by rfl) (by kernel_rfl) ?_)); try dsimp only [getL]))
    refine h_row (e := 43) ⟨(drd l a).cs⟩ (by kernel_rfl) fun g10 hg10 hI10 => ?_
    dsimp only
    refine h_append (cl_.aff _) eb_DualEntry (by kernel_rfl) (cs2 := (drd l a).cs) (fun _ => ⟨_, rfl, cellsM' (by repeat (first | exact mq0 | apply mq1 | apply mq2)) rfl⟩) (by simp) rfl (by simp) (m := m) (by repeat (first | exact Pick.here | exact Pick.one | apply Pick.two | apply Pick.cons | apply Pick.app)) ho.1 (by omega) (by omega) ?_
    intro A' c' m' ho'
    (repeat ((first | refine h_box fun _ _ _ => ?_ | ((with_reducible show holds _ _ _ _ (.sem (Instr.alloc 25 _ _) _ _) _); refine h_alloc zb_DualPacket fun _ _ _ => ?_) | ((with_reducible show holds _ _ _ _ (.sem (Instr.alloc 43 _ _) _ _) _); refine h_alloc zb_DualEntry_43 fun _ _ _ => ?_) | ((with_reducible show holds _ _ _ _ (.rd (Instr.loadAt _ (.pointer _)) _ _) _); first | refine ldI (by repeat (first | exact mq0 | apply mq1 | apply mq2)) (by rfl) (by kernel_rfl) ?_ | refine ldL (by repeat (first | exact mq0 | apply mq1 | apply mq2)) (by rfl) (by kernel_rfl) ?_ | refine ldB (by repeat (first | exact mq0 | apply mq1 | apply mq2)) (by rfl) (by kernel_rfl) ?_ | refine la0 (by repeat (first | exact mq0 | apply mq1 | apply mq2)) (by rfl) (by kernel_rfl) ?_ | refine la3 (by repeat (first | exact mq0 | apply mq1 | apply mq2)) (by rfl) (by kernel_rfl) ?_) | ((with_reducible show holds _ _ _ _ (.rd (loadVar _ _) _ _) _); refine lv0 (by repeat (first | exact mq0 | apply mq1 | apply mq2)) (by rfl) (by kernel_rfl) ?_) | ((with_reducible show holds _ _ _ _ (.unit (Instr.storeAt _ _ _) _) _); refine stU (by repeat (first | exact Upd.here | apply Upd.there | apply Upd.right)) (by kernel_rfl) (by rfl) (by simp [Value.cells]) ?_) | ((with_reducible show holds _ _ _ _ (.pin (vN (Instr.loadAt _ _)) _ _) _); first | refine pnA (by repeat (first | exact mq0 | apply mq1 | apply mq2)) (by rfl) (by kernel_rfl) ?_ | refine pn1 (by repeat (first | exact mq0 | apply mq1 | apply mq2)) (by rfl) (by kernel_rfl) ?_)); try dsimp only [getL]))
    refine h_stop fun hlv => ?_
    simp only [show IntKind.wrap .i64 (((a : Nat) : Int) + 20) = (((a + 20 : Nat)) : Int) by rw [wrap64 (by omega)]; omega]
    rw [show es ++ (chunks (q + 1) (l.drop a)).map dreadE = (es ++ [drd l a]) ++ (chunks q (l.drop (a + 20))).map dreadE by
      simp only [chunks, List.map_cons, List.append_assoc, List.singleton_append, List.drop_drop, drd_eq]]
    refine ih (a + 20) (es ++ [drd l a]) y2 y4 y8 A' c' _ _ m' _ (by omega) (by simp; omega) (ho.snoc (drd_ok _ _) ho') (by dsimp only [DPk.w, DPk.cs]; rw [List.length_append]; exact (by repeat (first | exact Pick.here | exact Pick.one | apply Pick.two | apply Pick.cons | apply Pick.app)))
theorem rddec_spec {I : Ctx} {A : Option Addr} {n c : Nat} {l : List UInt8} (hr : RdB I A n l) (hn : n ≤ c) (hbig : n ≤ 1000000) : Fn Try.prog 14 #[.slice A n c] I [] (GivesD (ddecR l)) := by
  have hln := hr.len
  refine r_octroiref07_Decode _ _ _ ?_
  (repeat ((first | refine h_box fun _ _ _ => ?_ | ((with_reducible show holds _ _ _ _ (.sem (Instr.alloc 25 _ _) _ _) _); refine h_alloc zb_DualPacket fun _ _ _ => ?_) | ((with_reducible show holds _ _ _ _ (.sem (Instr.alloc 43 _ _) _ _) _); refine h_alloc zb_DualEntry_43 fun _ _ _ => ?_) | ((with_reducible show holds _ _ _ _ (.rd (Instr.loadAt _ (.pointer _)) _ _) _); first | refine ldI (by repeat (first | exact mq0 | apply mq1 | apply mq2)) (by rfl) (by kernel_rfl) ?_ | refine ldL (by repeat (first | exact mq0 | apply mq1 | apply mq2)) (by rfl) (by kernel_rfl) ?_ | refine ldB (by repeat (first | exact mq0 | apply mq1 | apply mq2)) (by rfl) (by kernel_rfl) ?_ | refine la0 (by repeat (first | exact mq0 | apply mq1 | apply mq2)) (by rfl) (by kernel_rfl) ?_ | refine la3 (by repeat (first | exact mq0 | apply mq1 | apply mq2)) (by rfl) (by kernel_rfl) ?_) | ((with_reducible show holds _ _ _ _ (.rd (loadVar _ _) _ _) _); refine lv0 (by repeat (first | exact mq0 | apply mq1 | apply mq2)) (by rfl) (by kernel_rfl) ?_) | ((with_reducible show holds _ _ _ _ (.unit (Instr.storeAt _ _ _) _) _); refine stU (by repeat (first | exact Upd.here | apply Upd.there | apply Upd.right)) (by kernel_rfl) (by rfl) (by simp [Value.cells]) ?_) | ((with_reducible show holds _ _ _ _ (.pin (vN (Instr.loadAt _ _)) _ _) _); first | refine pnA (by repeat (first | exact mq0 | apply mq1 | apply mq2)) (by rfl) (by kernel_rfl) ?_ | refine pn1 (by repeat (first | exact mq0 | apply mq1 | apply mq2)) (by rfl) (by kernel_rfl) ?_)); try dsimp only [getL]))
  refine h_ite (fun t0 => ?_) (fun t0 => ?_)
  · rw [ddec_short (.inl (by simp at t0; omega))]
    (repeat ((first | refine h_box fun _ _ _ => ?_ | ((with_reducible show holds _ _ _ _ (.sem (Instr.alloc 25 _ _) _ _) _); refine h_alloc zb_DualPacket fun _ _ _ => ?_) | ((with_reducible show holds _ _ _ _ (.sem (Instr.alloc 43 _ _) _ _) _); refine h_alloc zb_DualEntry_43 fun _ _ _ => ?_) | ((with_reducible show holds _ _ _ _ (.rd (Instr.loadAt _ (.pointer _)) _ _) _); first | refine ldI (by repeat (first | exact mq0 | apply mq1 | apply mq2)) (by rfl) (by kernel_rfl) ?_ | refine ldL (by repeat (first | exact mq0 | apply mq1 | apply mq2)) (by rfl) (by kernel_rfl) ?_ | refine ldB (by repeat (first | exact mq0 | apply mq1 | apply mq2)) (by rfl) (by kernel_rfl) ?_ | refine la0 (by repeat (first | exact mq0 | apply mq1 | apply mq2)) (by rfl) (by kernel_rfl) ?_ | refine la3 (by repeat (first | exact mq0 | apply mq1 | apply mq2)) (by rfl) (by kernel_rfl) ?_) | ((with_reducible show holds _ _ _ _ (.rd (loadVar _ _) _ _) _); refine lv0 (by repeat (first | exact mq0 | apply mq1 | apply mq2)) (by rfl) (by kernel_rfl) ?_) | ((with_reducible show holds _ _ _ _ (.unit (Instr.storeAt _ _ _) _) _); refine stU (by repeat (first | exact Upd.here | apply Upd.there | apply Upd.right)) (by kernel_rfl) (by rfl) (by simp [Value.cells]) ?_) | ((with_reducible show holds _ _ _ _ (.pin (vN (Instr.loadAt _ _)) _ _) _); first | refine pnA (by repeat (first | exact mq0 | apply mq1 | apply mq2)) (by rfl) (by kernel_rfl) ?_ | refine pn1 (by repeat (first | exact mq0 | apply mq1 | apply mq2)) (by rfl) (by kernel_rfl) ?_)); try dsimp only [getL]))
    exact h_end0 ⟨none, 0, rfl, OwnD.nil, none7_ok⟩
  have h16 : 16 ≤ n := by simp at t0; omega
  rw [mod16 h16 (by omega)]
  refine h_ite (fun t1 => ?_) (fun t1 => ?_)
  · rw [ddec_short (.inr (.inl (by simp at t1; omega)))]
    (repeat ((first | refine h_box fun _ _ _ => ?_ | ((with_reducible show holds _ _ _ _ (.sem (Instr.alloc 25 _ _) _ _) _); refine h_alloc zb_DualPacket fun _ _ _ => ?_) | ((with_reducible show holds _ _ _ _ (.sem (Instr.alloc 43 _ _) _ _) _); refine h_alloc zb_DualEntry_43 fun _ _ _ => ?_) | ((with_reducible show holds _ _ _ _ (.rd (Instr.loadAt _ (.pointer _)) _ _) _); first | refine ldI (by repeat (first | exact mq0 | apply mq1 | apply mq2)) (by rfl) (by kernel_rfl) ?_ | refine ldL (by repeat (first | exact mq0 | apply mq1 | apply mq2)) (by rfl) (by kernel_rfl) ?_ | refine ldB (by repeat (first | exact mq0 | apply mq1 | apply mq2)) (by rfl) (by kernel_rfl) ?_ | refine la0 (by repeat (first | exact mq0 | apply mq1 | apply mq2)) (by rfl) (by kernel_rfl) ?_ | refine la3 (by repeat (first | exact mq0 | apply mq1 | apply mq2)) (by rfl) (by kernel_rfl) ?_) | ((with_reducible show holds _ _ _ _ (.rd (loadVar _ _) _ _) _); refine lv0 (by repeat (first | exact mq0 | apply mq1 | apply mq2)) (by rfl) (by kernel_rfl) ?_) | ((with_reducible show holds _ _ _ _ (.unit (Instr.storeAt _ _ _) _) _); refine stU (by repeat (first | exact Upd.here | apply Upd.there | apply Upd.right)) (by kernel_rfl) (by rfl) (by simp [Value.cells]) ?_) | ((with_reducible show holds _ _ _ _ (.pin (vN (Instr.loadAt _ _)) _ _) _); first | refine pnA (by repeat (first | exact mq0 | apply mq1 | apply mq2)) (by rfl) (by kernel_rfl) ?_ | refine pn1 (by repeat (first | exact mq0 | apply mq1 | apply mq2)) (by rfl) (by kernel_rfl) ?_)); try dsimp only [getL]))
    exact h_end0 ⟨none, 0, rfl, OwnD.nil, none7_ok⟩
  have h20 : (n - 16) % 20 = 0 := by simp at t1; omega
  have b0t := (byteAt l 0).toNat_lt
  have b1t := (byteAt l 1).toNat_lt
  obtain ⟨a, rfl, hcell⟩ := hr.cells (by omega)
  refine h_byteI (e := 5) 0 ((hcell 0 _ (byteAt_in (by omega))).sub Sub.self) (by omega) rfl (by kernel_rfl) (by kernel_rfl) (by kernel_rfl) ?_
  dsimp only
  refine h_ite (fun t2 => ?_) (fun t2 => ?_)
  · rw [ddec_short (.inr (.inr (by intro e; rw [e] at t2; simp at t2)))]
    (repeat ((first | refine h_box fun _ _ _ => ?_ | ((with_reducible show holds _ _ _ _ (.sem (Instr.alloc 25 _ _) _ _) _); refine h_alloc zb_DualPacket fun _ _ _ => ?_) | ((with_reducible show holds _ _ _ _ (.sem (Instr.alloc 43 _ _) _ _) _); refine h_alloc zb_DualEntry_43 fun _ _ _ => ?_) | ((with_reducible show holds _ _ _ _ (.rd (Instr.loadAt _ (.pointer _)) _ _) _); first | refine ldI (by repeat (first | exact mq0 | apply mq1 | apply mq2)) (by rfl) (by kernel_rfl) ?_ | refine ldL (by repeat (first | exact mq0 | apply mq1 | apply mq2)) (by rfl) (by kernel_rfl) ?_ | refine ldB (by repeat (first | exact mq0 | apply mq1 | apply mq2)) (by rfl) (by kernel_rfl) ?_ | refine la0 (by repeat (first | exact mq0 | apply mq1 | apply mq2)) (by rfl) (by kernel_rfl) ?_ | refine la3 (by repeat (first | exact mq0 | apply mq1 | apply mq2)) (by rfl) (by kernel_rfl) ?_) | ((with_reducible show holds _ _ _ _ (.rd (loadVar _ _) _ _) _); refine lv0 (by repeat (first | exact mq0 | apply mq1 | apply mq2)) (by rfl) (by kernel_rfl) ?_) | ((with_reducible show holds _ _ _ _ (.unit (Instr.storeAt _ _ _) _) _); refine stU (by repeat (first | exact Upd.here | apply Upd.there | apply Upd.right)) (by kernel_rfl) (by rfl) (by simp [Value.cells]) ?_) | ((with_reducible show holds _ _ _ _ (.pin (vN (Instr.loadAt _ _)) _ _) _); first | refine pnA (by repeat (first | exact mq0 | apply mq1 | apply mq2)) (by rfl) (by kernel_rfl) ?_ | refine pn1 (by repeat (first | exact mq0 | apply mq1 | apply mq2)) (by rfl) (by kernel_rfl) ?_)); try dsimp only [getL]))
    exact h_end0 ⟨none, 0, rfl, OwnD.nil, none7_ok⟩
  have hb0 : byteAt l 0 = 2 := by rw [← UInt8.toNat_inj]; show _ = 2; simp at t2; omega
  have hf : dformB l = true := by
    unfold dformB
    rw [decide_eq_true (by omega), decide_eq_true (by omega), hb0]
    rfl
  refine h_append (cl_.aff _) eb_uint8 (by kernel_rfl) (hr.rd.sub Sub.self) hr.nil (by simpa using hln) (bC_plain _) (m := []) (List.Perm.refl _) (Own.nil _ _) (by omega) (by omega) ?_
  intro X m5 m1 ho1
  rw [Nat.zero_add, List.nil_append] at ho1
  have ho1 : OwnB X n m5 l m1 := ho1
  dsimp only
  rw [Nat.zero_add]
  obtain ⟨x, rfl⟩ : ∃ x, X = some x := by
    cases X with
    | none => have := ho1.some_of rfl; omega
    | some x => exact ⟨x, rfl⟩
  refine h_index (e := 5) x (sz := 1) (by kernel_rfl) (by kernel_rfl) (by omega) (by omega) rfl ?_
  dsimp only
  refine h_storeE 2 (m := m1) (cl_.aff _) (List.Perm.refl _) ho1 rfl (by kernel_rfl) (by simp [Value.cells]; omega) (by simp [Value.cells]) ?_
  intro m2 ho2
  have ho2 : OwnB (some x) n m5 (l.set 2 0) m2 := by
    have hw := wr_set (l := l) (i := 2) (b := 0) (by omega)
    show Own 5 1 (some x) n m5 (bC (l.set 2 0)) m2
    rw [← hw]; exact ho2
  refine h_index (e := 5) x (sz := 1) (by kernel_rfl) (by kernel_rfl) (by omega) (by omega) rfl ?_
  dsimp only
  refine h_storeE 3 (m := m2) (cl_.aff _) (List.Perm.refl _) ho2 rfl (by kernel_rfl) (by simp [Value.cells]; omega) (by simp [Value.cells]) ?_
  intro m3 ho3
  have ho3 : OwnB (some x) n m5 (zs l) m3 := by
    have hw := wr_set (l := l.set 2 0) (i := 3) (b := 0) (by simp; omega)
    show Own 5 1 (some x) n m5 (bC ((l.set 2 0).set 3 0)) m3
    rw [← hw]; exact ho3
  refine h_call0 (getL [{ i := (num l 2 2 : Nat) }, { b := true }]) ca_octroiref01_Get (fun hl => rget_in (i := 2) (k := 2) (hr.up (Sub.self.up hl)) hn (by unfold maxLen; omega) (by omega) (by omega)) rfl ?_
  refine h_call0 (v := .int .u16 (sumN (zs l) : Nat)) (fun _ => { i := (sumN (zs l) : Nat) }) ca_octroiref01_Sum (fun hl => rsum_spec (ho3.rdb hl (fun x hx => by first | (simp [hx]; done) | (rw [List.mem_singleton] at hx; subst hx; simp; done))) (by omega)) rfl ?_
  dsimp only [getL]
  have hsm : sumN (zs l) ≤ 65535 := Nat.sub_le _ _
  have n2 := num_lt l 2 2
  have heq : sumN (zs l) = num l 2 2 ↔ be 2 (sumN (zs l)) = (l.drop 2).take 2 := by
    rw [← be_num (l := l) (i := 2) (k := 2) (by omega)]
    exact ⟨fun e => by rw [e], fun e => be2_inj (by omega) (by omega) e⟩
  rw [wrap32n (by omega)]
  refine h_ite (fun t3 => ?_) (fun t3 => ?_)
  · rw [show ddecR l = (none7, 8) by
      unfold ddecR
      rw [if_neg (by rw [hf]; simp), if_pos (fun e => by rw [heq.2 e] at t3; simp at t3)]]
    (repeat ((first | refine h_box fun _ _ _ => ?_ | ((with_reducible show holds _ _ _ _ (.sem (Instr.alloc 25 _ _) _ _) _); refine h_alloc zb_DualPacket fun _ _ _ => ?_) | ((with_reducible show holds _ _ _ _ (.sem (Instr.alloc 43 _ _) _ _) _); refine h_alloc zb_DualEntry_43 fun _ _ _ => ?_) | ((with_reducible show holds _ _ _ _ (.rd (Instr.loadAt _ (.pointer _)) _ _) _); first | refine ldI (by repeat (first | exact mq0 | apply mq1 | apply mq2)) (by rfl) (by kernel_rfl) ?_ | refine ldL (by repeat (first | exact mq0 | apply mq1 | apply mq2)) (by rfl) (by kernel_rfl) ?_ | refine ldB (by repeat (first | exact mq0 | apply mq1 | apply mq2)) (by rfl) (by kernel_rfl) ?_ | refine la0 (by repeat (first | exact mq0 | apply mq1 | apply mq2)) (by rfl) (by kernel_rfl) ?_ | refine la3 (by repeat (first | exact mq0 | apply mq1 | apply mq2)) (by rfl) (by kernel_rfl) ?_) | ((with_reducible show holds _ _ _ _ (.rd (loadVar _ _) _ _) _); refine lv0 (by repeat (first | exact mq0 | apply mq1 | apply mq2)) (by rfl) (by kernel_rfl) ?_) | ((with_reducible show holds _ _ _ _ (.unit (Instr.storeAt _ _ _) _) _); refine stU (by repeat (first | exact Upd.here | apply Upd.there | apply Upd.right)) (by kernel_rfl) (by rfl) (by simp [Value.cells]) ?_) | ((with_reducible show holds _ _ _ _ (.pin (vN (Instr.loadAt _ _)) _ _) _); first | refine pnA (by repeat (first | exact mq0 | apply mq1 | apply mq2)) (by rfl) (by kernel_rfl) ?_ | refine pn1 (by repeat (first | exact mq0 | apply mq1 | apply mq2)) (by rfl) (by kernel_rfl) ?_)); try dsimp only [getL]))
    exact h_end0 ⟨none, 0, rfl, OwnD.nil, none7_ok⟩
  have hs : be 2 (sumN (zs l)) = (l.drop 2).take 2 := heq.1 (by simp at t3; omega)
  simp only [show IntKind.wrap .i64 (Int.tdiv (IntKind.wrap .i64 ((n : Int) - 16)) 20) = (((n - 16) / 20 : Nat) : Int) by
    rw [wrap64 (x := (n : Int) - 16) (by omega), Int.tdiv_eq_ediv_of_nonneg (by omega), wrap64 (by omega)]; omega]
  refine h_ite (fun t4 => ?_) (fun t4 => ?_)
  · rw [show ddecR l = (none7, 9) by
      unfold ddecR
      rw [if_neg (by rw [hf]; simp), if_neg (by rw [hs]; simp), if_pos (by simp at t4; omega)]]
    (repeat ((first | refine h_box fun _ _ _ => ?_ | ((with_reducible show holds _ _ _ _ (.sem (Instr.alloc 25 _ _) _ _) _); refine h_alloc zb_DualPacket fun _ _ _ => ?_) | ((with_reducible show holds _ _ _ _ (.sem (Instr.alloc 43 _ _) _ _) _); refine h_alloc zb_DualEntry_43 fun _ _ _ => ?_) | ((with_reducible show holds _ _ _ _ (.rd (Instr.loadAt _ (.pointer _)) _ _) _); first | refine ldI (by repeat (first | exact mq0 | apply mq1 | apply mq2)) (by rfl) (by kernel_rfl) ?_ | refine ldL (by repeat (first | exact mq0 | apply mq1 | apply mq2)) (by rfl) (by kernel_rfl) ?_ | refine ldB (by repeat (first | exact mq0 | apply mq1 | apply mq2)) (by rfl) (by kernel_rfl) ?_ | refine la0 (by repeat (first | exact mq0 | apply mq1 | apply mq2)) (by rfl) (by kernel_rfl) ?_ | refine la3 (by repeat (first | exact mq0 | apply mq1 | apply mq2)) (by rfl) (by kernel_rfl) ?_) | ((with_reducible show holds _ _ _ _ (.rd (loadVar _ _) _ _) _); refine lv0 (by repeat (first | exact mq0 | apply mq1 | apply mq2)) (by rfl) (by kernel_rfl) ?_) | ((with_reducible show holds _ _ _ _ (.unit (Instr.storeAt _ _ _) _) _); refine stU (by repeat (first | exact Upd.here | apply Upd.there | apply Upd.right)) (by kernel_rfl) (by rfl) (by simp [Value.cells]) ?_) | ((with_reducible show holds _ _ _ _ (.pin (vN (Instr.loadAt _ _)) _ _) _); first | refine pnA (by repeat (first | exact mq0 | apply mq1 | apply mq2)) (by rfl) (by kernel_rfl) ?_ | refine pn1 (by repeat (first | exact mq0 | apply mq1 | apply mq2)) (by rfl) (by kernel_rfl) ?_)); try dsimp only [getL]))
    exact h_end0 ⟨none, 0, rfl, OwnD.nil, none7_ok⟩
  have h816 : l.length ≤ 816 := by simp at t4; omega
  rw [ddecR_form hf hs h816]
  refine h_byteI (e := 5) 1 ((hcell 1 _ (byteAt_in (by omega))).sub Sub.self) (by omega) rfl (by kernel_rfl) (by kernel_rfl) (by kernel_rfl) ?_
  refine h_byteI (e := 5) 4 ((hcell 4 _ (byteAt_in (by omega))).sub Sub.self) (by omega) rfl (by kernel_rfl) (by kernel_rfl) (by kernel_rfl) ?_
  dsimp only
  have hb4 : ((((byteAt l 4).toNat : Nat) : Int) == 1) = (byteAt l 4 == 1) := by
    rw [Bool.eq_iff_iff]; simp only [beq_iff_eq]; rw [← UInt8.toNat_inj]; show _ ↔ _ = 1; omega
  rw [wrap64 (x := (((byteAt l 1).toNat : Nat) : Int)) (by omega), hb4]
  refine h_call0 (v := .int .u32 (num l 8 4 : Nat)) (fun _ => { i := (num l 8 4 : Nat) }) ca_octroiref07_get (fun hl => drget_spec (i := 8) (hr.up (Sub.self.up hl)) hn hbig (by omega)) rfl ?_
  refine h_pinC ((hcell 4 _ (byteAt_in (by omega))).sub Sub.self) (by kernel_rfl) ?_
  refine h_pinI (e := 5) 4 (by omega) rfl (by kernel_rfl) (by kernel_rfl) ?_
  refine h_pinC ((hcell 1 _ (byteAt_in (by omega))).sub Sub.self) (by kernel_rfl) ?_
  refine h_pinI (e := 5) 1 (by omega) rfl (by kernel_rfl) (by kernel_rfl) ?_
  refine h_call0 (v := .int .u32 (num l 12 4 : Nat)) (fun _ => { i := (num l 12 4 : Nat) }) ca_octroiref07_get (fun hl => drget_spec (i := 12) (hr.up (Sub.self.up hl)) hn hbig (by omega)) rfl ?_
  refine h_pinC ((hcell 4 _ (byteAt_in (by omega))).sub Sub.self) (by kernel_rfl) ?_
  refine h_pinI (e := 5) 4 (by omega) rfl (by kernel_rfl) (by kernel_rfl) ?_
  refine h_pinC ((hcell 1 _ (byteAt_in (by omega))).sub Sub.self) (by kernel_rfl) ?_
  refine h_pinI (e := 5) 1 (by omega) rfl (by kernel_rfl) (by kernel_rfl) ?_
  dsimp only
  (repeat ((first | refine h_box fun _ _ _ => ?_ | ((with_reducible show holds _ _ _ _ (.sem (Instr.alloc 25 _ _) _ _) _); refine h_alloc zb_DualPacket fun _ _ _ => ?_) | ((with_reducible show holds _ _ _ _ (.sem (Instr.alloc 43 _ _) _ _) _); refine h_alloc zb_DualEntry_43 fun _ _ _ => ?_) | ((with_reducible show holds _ _ _ _ (.rd (Instr.loadAt _ (.pointer _)) _ _) _); first | refine ldI (by repeat (first | exact mq0 | apply mq1 | apply mq2)) (by rfl) (by kernel_rfl) ?_ | refine ldL (by repeat (first | exact mq0 | apply mq1 | apply mq2)) (by rfl) (by kernel_rfl) ?_ | refine ldB (by repeat (first | exact mq0 | apply mq1 | apply mq2)) (by rfl) (by kernel_rfl) ?_ | refine la0 (by repeat (first | exact mq0 | apply mq1 | apply mq2)) (by rfl) (by kernel_rfl) ?_ | refine la3 (by repeat (first | exact mq0 | apply mq1 | apply mq2)) (by rfl) (by kernel_rfl) ?_) | ((with_reducible show holds _ _ _ _ (.rd (loadVar _ _) _ _) _); refine lv0 (by repeat (first | exact mq0 | apply mq1 | apply mq2)) (by rfl) (by kernel_rfl) ?_) | ((with_reducible show holds _ _ _ _ (.unit (Instr.storeAt _ _ _) _) _); refine stU (by repeat (first | exact Upd.here | apply Upd.there | apply Upd.right)) (by kernel_rfl) (by rfl) (by simp [Value.cells]) ?_) | ((with_reducible show holds _ _ _ _ (.pin (vN (Instr.loadAt _ _)) _ _) _); first | refine pnA (by repeat (first | exact mq0 | apply mq1 | apply mq2)) (by rfl) (by kernel_rfl) ?_ | refine pn1 (by repeat (first | exact mq0 | apply mq1 | apply mq2)) (by rfl) (by kernel_rfl) ?_)); try dsimp only [getL]))
  refine h_stop fun hl2 => ?_
  have hok : (ddecP l).ok := ⟨num_lt l 8 4, num_lt l 12 4⟩
  have hnil : ((ddecP l).w ([] ++ (chunks ((l.length - 16) / 20) (l.drop 16)).map dreadE)) = ddecP l := rfl
  rw [← hnil]
  exact rddec_loop (p := ddecP l) hr hcell hn hbig hok ((l.length - 16) / 20) 16 [] _ _ _ none 0 _ _ [] _ (by omega) (by simp; omega) OwnD.nil (by repeat (first | exact Pick.here | exact Pick.one | apply Pick.two | apply Pick.cons | apply Pick.app))
def eqD (e f : DEnt) : List Bool := [((e.a : Nat) : Int) == ((f.a : Nat) : Int), e.n == f.n, e.v.b == f.v.b, e.v.d == f.v.d, e.v.p == f.v.p, ((e.tag : Nat) : Int) == ((f.tag : Nat) : Int)]
theorem eqD_iff (e f : DEnt) : (eqD e f).all id = true ↔ e = f := by
  obtain ⟨a, n, ⟨b, d, p⟩, t⟩ := e
  obtain ⟨a', n', ⟨b', d', p'⟩, t'⟩ := f
  simp [eqD, Int.ofNat_inj, and_assoc]
theorem dsame_loop {I : Ctx} {A1 A2 : Option Addr} {k1 k2 : Nat} {p q : DPk} (he : DEntsIn I A1 p.es) (hf : DEntsIn I A2 q.es) (hl : p.es.length = q.es.length) (hbd : p.es.length ≤ 1000000) {y2 y3 : Nat} {hr' : Mem} :
    ∀ (k i : Nat) (u : Nat → Value), i + k = p.es.length →
    Wp Try.prog 12 k_octroiref07_Same_1 (t_octroiref07_Same_1 y2 y3 i u) I ((y3, .cells ⟨q.cs A2 k2⟩ 25 (0, 0)) :: (y2, .cells ⟨p.cs A1 k1⟩ 25 (0, 0)) :: hr')
      (cl_ fun v h' => (∃ b : Bool, v = .bool b ∧ (b = true ↔ p.es.drop i = q.es.drop i)) ∧ h' = []) := by
  intro k
  induction k with
  | zero =>
    intro i u hi
    refine r_octroiref07_Same_1 _ _ _ _ ?_
    (repeat ((first | refine h_box fun _ _ _ => ?_ | ((with_reducible show holds _ _ _ _ (.sem (Instr.alloc 25 _ _) _ _) _); refine h_alloc zb_DualPacket fun _ _ _ => ?_) | ((with_reducible show holds _ _ _ _ (.sem (Instr.alloc 43 _ _) _ _) _); refine h_alloc zb_DualEntry_43 fun _ _ _ => ?_) | ((with_reducible show holds _ _ _ _ (.rd (Instr.loadAt _ (.pointer _)) _ _) _); first | refine ldI (by repeat (first | exact mq0 | apply mq1 | apply mq2)) (by rfl) (by kernel_rfl) ?_ | refine ldL (by repeat (first | exact mq0 | apply mq1 | apply mq2)) (by rfl) (by kernel_rfl) ?_ | refine ldB (by repeat (first | exact mq0 | apply mq1 | apply mq2)) (by rfl) (by kernel_rfl) ?_ | refine la0 (by repeat (first | exact mq0 | apply mq1 | apply mq2)) (by rfl) (by kernel_rfl) ?_ | refine la3 (by repeat (first | exact mq0 | apply mq1 | apply mq2)) (by rfl) (by kernel_rfl) ?_) | ((with_reducible show holds _ _ _ _ (.rd (loadVar _ _) _ _) _); refine lv0 (by repeat (first | exact mq0 | apply mq1 | apply mq2)) (by rfl) (by kernel_rfl) ?_) | ((with_reducible show holds _ _ _ _ (.unit (Instr.storeAt _ _ _) _) _); refine stU (by repeat (first | exact Upd.here | apply Upd.there | apply Upd.right)) (by kernel_rfl) (by rfl) (by simp [Value.cells]) ?_) | ((with_reducible show holds _ _ _ _ (.pin (vN (Instr.loadAt _ _)) _ _) _); first | refine pnA (by repeat (first | exact mq0 | apply mq1 | apply mq2)) (by rfl) (by kernel_rfl) ?_ | refine pn1 (by repeat (first | exact mq0 | apply mq1 | apply mq2)) (by rfl) (by kernel_rfl) ?_)); try dsimp only [getL]))
    refine h_no (by simp; omega) ?_
    exact h_end0 ⟨⟨true, rfl, by rw [List.drop_of_length_le (by omega), List.drop_of_length_le (by omega)]; simp⟩, rfl⟩
  | succ k ih =>
    intro i u hi
    have h1 : i < p.es.length := by omega
    have h2 : i < q.es.length := by omega
    obtain ⟨a1, rfl, ho1, hc1⟩ := he.get h1
    obtain ⟨a2, rfl, ho2, hc2⟩ := hf.get h2
    refine r_octroiref07_Same_1 _ _ _ _ ?_
    (repeat ((first | refine h_box fun _ _ _ => ?_ | ((with_reducible show holds _ _ _ _ (.sem (Instr.alloc 25 _ _) _ _) _); refine h_alloc zb_DualPacket fun _ _ _ => ?_) | ((with_reducible show holds _ _ _ _ (.sem (Instr.alloc 43 _ _) _ _) _); refine h_alloc zb_DualEntry_43 fun _ _ _ => ?_) | ((with_reducible show holds _ _ _ _ (.rd (Instr.loadAt _ (.pointer _)) _ _) _); first | refine ldI (by repeat (first | exact mq0 | apply mq1 | apply mq2)) (by rfl) (by kernel_rfl) ?_ | refine ldL (by repeat (first | exact mq0 | apply mq1 | apply mq2)) (by rfl) (by kernel_rfl) ?_ | refine ldB (by repeat (first | exact mq0 | apply mq1 | apply mq2)) (by rfl) (by kernel_rfl) ?_ | refine la0 (by repeat (first | exact mq0 | apply mq1 | apply mq2)) (by rfl) (by kernel_rfl) ?_ | refine la3 (by repeat (first | exact mq0 | apply mq1 | apply mq2)) (by rfl) (by kernel_rfl) ?_) | ((with_reducible show holds _ _ _ _ (.rd (loadVar _ _) _ _) _); refine lv0 (by repeat (first | exact mq0 | apply mq1 | apply mq2)) (by rfl) (by kernel_rfl) ?_) | ((with_reducible show holds _ _ _ _ (.unit (Instr.storeAt _ _ _) _) _); refine stU (by repeat (first | exact Upd.here | apply Upd.there | apply Upd.right)) (by kernel_rfl) (by rfl) (by simp [Value.cells]) ?_) | ((with_reducible show holds _ _ _ _ (.pin (vN (Instr.loadAt _ _)) _ _) _); first | refine pnA (by repeat (first | exact mq0 | apply mq1 | apply mq2)) (by rfl) (by kernel_rfl) ?_ | refine pn1 (by repeat (first | exact mq0 | apply mq1 | apply mq2)) (by rfl) (by kernel_rfl) ?_)); try dsimp only [getL]))
    refine h_yes (by simp; omega) ?_
    (repeat ((first | refine h_box fun _ _ _ => ?_ | ((with_reducible show holds _ _ _ _ (.sem (Instr.alloc 25 _ _) _ _) _); refine h_alloc zb_DualPacket fun _ _ _ => ?_) | ((with_reducible show holds _ _ _ _ (.sem (Instr.alloc 43 _ _) _ _) _); refine h_alloc zb_DualEntry_43 fun _ _ _ => ?_) | ((with_reducible show holds _ _ _ _ (.rd (Instr.loadAt _ (.pointer _)) _ _) _); first | refine ldI (by repeat (first | exact mq0 | apply mq1 | apply mq2)) (by rfl) (by kernel_rfl) ?_ | refine ldL (by repeat (first | exact mq0 | apply mq1 | apply mq2)) (by rfl) (by kernel_rfl) ?_ | refine ldB (by repeat (first | exact mq0 | apply mq1 | apply mq2)) (by rfl) (by kernel_rfl) ?_ | refine la0 (by repeat (first | exact mq0 | apply mq1 | apply mq2)) (by rfl) (by kernel_rfl) ?_ | refine la3 (by repeat (first | exact mq0 | apply mq1 | apply mq2)) (by rfl) (by kernel_rfl) ?_) | ((with_reducible show holds _ _ _ _ (.rd (loadVar _ _) _ _) _); refine lv0 (by repeat (first | exact mq0 | apply mq1 | apply mq2)) (by rfl) (by kernel_rfl) ?_) | ((with_reducible show holds _ _ _ _ (.unit (Instr.storeAt _ _ _) _) _); refine stU (by repeat (first | exact Upd.here | apply Upd.there | apply Upd.right)) (by kernel_rfl) (by rfl) (by simp [Value.cells]) ?_) | ((with_reducible show holds _ _ _ _ (.pin (vN (Instr.loadAt _ _)) _ _) _); first | refine pnA (by repeat (first | exact mq0 | apply mq1 | apply mq2)) (by rfl) (by kernel_rfl) ?_ | refine pn1 (by repeat (first | exact mq0 | apply mq1 | apply mq2)) (by rfl) (by kernel_rfl) ?_)); try dsimp only [getL]))
    refine h_index (e := 43) a1 (sz := 6) (by kernel_rfl) (by kernel_rfl) (by omega) (by omega) rfl ?_
    dsimp only
    rw [Int.toNat_natCast]
    refine h_loadA (cs := p.es[i].cs) p.es[i].ls (by kernel_rfl) (by kernel_rfl) (hc1.sub Sub.self) rfl ?_
    (repeat ((first | refine h_box fun _ _ _ => ?_ | ((with_reducible show holds _ _ _ _ (.sem (Instr.alloc 25 _ _) _ _) _); refine h_alloc zb_DualPacket fun _ _ _ => ?_) | ((with_reducible show holds _ _ _ _ (.sem (Instr.alloc 43 _ _) _ _) _); refine h_alloc zb_DualEntry_43 fun _ _ _ => ?_) | ((with_reducible show holds _ _ _ _ (.rd (Instr.loadAt _ (.pointer _)) _ _) _); first | refine ldI (by repeat (first | exact mq0 | apply mq1 | apply mq2)) (by rfl) (by kernel_rfl) ?_ | refine ldL (by repeat (first | exact mq0 | apply mq1 | apply mq2)) (by rfl) (by kernel_rfl) ?_ | refine ldB (by repeat (first | exact mq0 | apply mq1 | apply mq2)) (by rfl) (by kernel_rfl) ?_ | refine la0 (by repeat (first | exact mq0 | apply mq1 | apply mq2)) (by rfl) (by kernel_rfl) ?_ | refine la3 (by repeat (first | exact mq0 | apply mq1 | apply mq2)) (by rfl) (by kernel_rfl) ?_) | ((with_reducible show holds _ _ _ _ (.rd (loadVar _ _) _ _) _); refine lv0 (by repeat (first | exact mq0 | apply mq1 | apply mq2)) (by rfl) (by kernel_rfl) ?_) | ((with_reducible show holds _ _ _ _ (.unit (Instr.storeAt _ _ _) _) _); refine stU (by repeat (first | exact Upd.here | apply Upd.there | apply Upd.right)) (by kernel_rfl) (by rfl) (by simp [Value.cells]) ?_) | ((with_reducible show holds _ _ _ _ (.pin (vN (Instr.loadAt _ _)) _ _) _); first | refine pnA (by repeat (first | exact mq0 | apply mq1 | apply mq2)) (by rfl) (by kernel_rfl) ?_ | refine pn1 (by repeat (first | exact mq0 | apply mq1 | apply mq2)) (by rfl) (by kernel_rfl) ?_)); try dsimp only [getL]))
    refine h_index (e := 43) a2 (sz := 6) (by kernel_rfl) (by kernel_rfl) (by omega) (by omega) rfl ?_
    dsimp only
    refine h_loadA (cs := q.es[i].cs) q.es[i].ls (by kernel_rfl) (by kernel_rfl) (hc2.sub Sub.self) rfl ?_
    refine h_neqA (eqD p.es[i] q.es[i]) (by kernel_rfl) (by kernel_rfl) ?_
    dsimp only
    have hd1 : p.es.drop i = p.es[i] :: p.es.drop (i + 1) := List.drop_eq_getElem_cons h1
    have hd2 : q.es.drop i = q.es[i] :: q.es.drop (i + 1) := List.drop_eq_getElem_cons h2
    refine h_ite (fun t => ?_) (fun t => ?_)
    · refine h_end0 ⟨⟨false, rfl, ?_⟩, rfl⟩
      have : ¬ p.es[i] = q.es[i] := fun e => by rw [(eqD_iff _ _).2 e] at t; cases t
      refine ⟨fun h => (by cases h), fun h => ?_⟩
      rw [hd1, hd2] at h
      injection h with h
      exact absurd h this
    · have e := (eqD_iff p.es[i] q.es[i]).1 (by simpa only [Bool.not_eq_false'] using t)
      refine h_stop fun hlv => ?_
      rw [wrapS (by omega)]
      refine (ih (i + 1) _ (by omega)).mono fun v h' ⟨m, g, hp, ⟨b, hv, hb⟩, hm⟩ => ⟨m, g, hp, ⟨b, hv, ?_⟩, hm⟩
      rw [hb]
      refine ⟨fun h => by rw [hd1, hd2, e, h], fun h => ?_⟩
      rw [hd1, hd2] at h
      injection h
theorem dsame_spec {I : Ctx} {A1 A2 : Option Addr} {k1 k2 : Nat} {p q : DPk} (he : DEntsIn I A1 p.es) (hf : DEntsIn I A2 q.es) (hbd : p.es.length ≤ 1000000) :
    Fn Try.prog 12 #[p.vv A1 k1, q.vv A2 k2] I [] (fun v h' => (∃ b : Bool, v = .bool b ∧ (b = true ↔ p = q)) ∧ h' = []) := by
  have ext : p = q ↔ p.code = q.code ∧ p.init = q.init ∧ p.seq = q.seq ∧ p.ack = q.ack ∧ p.es = q.es := by
    obtain ⟨a, b, c, d, e⟩ := p
    obtain ⟨a', b', c', d', e'⟩ := q
    simp
  have no : ∀ {h : Mem}, (¬ (p.code = q.code ∧ p.init = q.init ∧ p.seq = q.seq ∧ p.ack = q.ack ∧ p.es = q.es)) → holds Try.prog 12 I (cl_ fun v h' => (∃ b : Bool, v = .bool b ∧ (b = true ↔ p = q)) ∧ h' = []) (.done (.bool false)) h := by
    intro h hn
    refine h_end0 ⟨⟨false, rfl, ?_⟩, rfl⟩
    rw [ext]
    simp [hn]
  refine r_octroiref07_Same _ _ _ _ _ _ _ _ _ _ _ _ _ _ ?_
  (repeat ((first | refine h_box fun _ _ _ => ?_ | ((with_reducible show holds _ _ _ _ (.sem (Instr.alloc 25 _ _) _ _) _); refine h_alloc zb_DualPacket fun _ _ _ => ?_) | ((with_reducible show holds _ _ _ _ (.sem (Instr.alloc 43 _ _) _ _) _); refine h_alloc zb_DualEntry_43 fun _ _ _ => ?_) | ((with_reducible show holds _ _ _ _ (.rd (Instr.loadAt _ (.pointer _)) _ _) _); first | refine ldI (by repeat (first | exact mq0 | apply mq1 | apply mq2)) (by rfl) (by kernel_rfl) ?_ | refine ldL (by repeat (first | exact mq0 | apply mq1 | apply mq2)) (by rfl) (by kernel_rfl) ?_ | refine ldB (by repeat (first | exact mq0 | apply mq1 | apply mq2)) (by rfl) (by kernel_rfl) ?_ | refine la0 (by repeat (first | exact mq0 | apply mq1 | apply mq2)) (by rfl) (by kernel_rfl) ?_ | refine la3 (by repeat (first | exact mq0 | apply mq1 | apply mq2)) (by rfl) (by kernel_rfl) ?_) | ((with_reducible show holds _ _ _ _ (.rd (loadVar _ _) _ _) _); refine lv0 (by repeat (first | exact mq0 | apply mq1 | apply mq2)) (by rfl) (by kernel_rfl) ?_) | ((with_reducible show holds _ _ _ _ (.unit (Instr.storeAt _ _ _) _) _); refine stU (by repeat (first | exact Upd.here | apply Upd.there | apply Upd.right)) (by kernel_rfl) (by rfl) (by simp [Value.cells]) ?_) | ((with_reducible show holds _ _ _ _ (.pin (vN (Instr.loadAt _ _)) _ _) _); first | refine pnA (by repeat (first | exact mq0 | apply mq1 | apply mq2)) (by rfl) (by kernel_rfl) ?_ | refine pn1 (by repeat (first | exact mq0 | apply mq1 | apply mq2)) (by rfl) (by kernel_rfl) ?_)); try dsimp only [getL]))
  refine h_ite (fun t1 => no (fun ⟨h, _⟩ => by simp [h] at t1)) (fun t1 => ?_)
  (repeat ((first | refine h_box fun _ _ _ => ?_ | ((with_reducible show holds _ _ _ _ (.sem (Instr.alloc 25 _ _) _ _) _); refine h_alloc zb_DualPacket fun _ _ _ => ?_) | ((with_reducible show holds _ _ _ _ (.sem (Instr.alloc 43 _ _) _ _) _); refine h_alloc zb_DualEntry_43 fun _ _ _ => ?_) | ((with_reducible show holds _ _ _ _ (.rd (Instr.loadAt _ (.pointer _)) _ _) _); first | refine ldI (by repeat (first | exact mq0 | apply mq1 | apply mq2)) (by rfl) (by kernel_rfl) ?_ | refine ldL (by repeat (first | exact mq0 | apply mq1 | apply mq2)) (by rfl) (by kernel_rfl) ?_ | refine ldB (by repeat (first | exact mq0 | apply mq1 | apply mq2)) (by rfl) (by kernel_rfl) ?_ | refine la0 (by repeat (first | exact mq0 | apply mq1 | apply mq2)) (by rfl) (by kernel_rfl) ?_ | refine la3 (by repeat (first | exact mq0 | apply mq1 | apply mq2)) (by rfl) (by kernel_rfl) ?_) | ((with_reducible show holds _ _ _ _ (.rd (loadVar _ _) _ _) _); refine lv0 (by repeat (first | exact mq0 | apply mq1 | apply mq2)) (by rfl) (by kernel_rfl) ?_) | ((with_reducible show holds _ _ _ _ (.unit (Instr.storeAt _ _ _) _) _); refine stU (by repeat (first | exact Upd.here | apply Upd.there | apply Upd.right)) (by kernel_rfl) (by rfl) (by simp [Value.cells]) ?_) | ((with_reducible show holds _ _ _ _ (.pin (vN (Instr.loadAt _ _)) _ _) _); first | refine pnA (by repeat (first | exact mq0 | apply mq1 | apply mq2)) (by rfl) (by kernel_rfl) ?_ | refine pn1 (by repeat (first | exact mq0 | apply mq1 | apply mq2)) (by rfl) (by kernel_rfl) ?_)); try dsimp only [getL]))
  refine h_ite (fun t2 => no (fun ⟨_, h, _⟩ => by simp [h] at t2)) (fun t2 => ?_)
  (repeat ((first | refine h_box fun _ _ _ => ?_ | ((with_reducible show holds _ _ _ _ (.sem (Instr.alloc 25 _ _) _ _) _); refine h_alloc zb_DualPacket fun _ _ _ => ?_) | ((with_reducible show holds _ _ _ _ (.sem (Instr.alloc 43 _ _) _ _) _); refine h_alloc zb_DualEntry_43 fun _ _ _ => ?_) | ((with_reducible show holds _ _ _ _ (.rd (Instr.loadAt _ (.pointer _)) _ _) _); first | refine ldI (by repeat (first | exact mq0 | apply mq1 | apply mq2)) (by rfl) (by kernel_rfl) ?_ | refine ldL (by repeat (first | exact mq0 | apply mq1 | apply mq2)) (by rfl) (by kernel_rfl) ?_ | refine ldB (by repeat (first | exact mq0 | apply mq1 | apply mq2)) (by rfl) (by kernel_rfl) ?_ | refine la0 (by repeat (first | exact mq0 | apply mq1 | apply mq2)) (by rfl) (by kernel_rfl) ?_ | refine la3 (by repeat (first | exact mq0 | apply mq1 | apply mq2)) (by rfl) (by kernel_rfl) ?_) | ((with_reducible show holds _ _ _ _ (.rd (loadVar _ _) _ _) _); refine lv0 (by repeat (first | exact mq0 | apply mq1 | apply mq2)) (by rfl) (by kernel_rfl) ?_) | ((with_reducible show holds _ _ _ _ (.unit (Instr.storeAt _ _ _) _) _); refine stU (by repeat (first | exact Upd.here | apply Upd.there | apply Upd.right)) (by kernel_rfl) (by rfl) (by simp [Value.cells]) ?_) | ((with_reducible show holds _ _ _ _ (.pin (vN (Instr.loadAt _ _)) _ _) _); first | refine pnA (by repeat (first | exact mq0 | apply mq1 | apply mq2)) (by rfl) (by kernel_rfl) ?_ | refine pn1 (by repeat (first | exact mq0 | apply mq1 | apply mq2)) (by rfl) (by kernel_rfl) ?_)); try dsimp only [getL]))
  refine h_ite (fun t3 => no (fun ⟨_, _, h, _⟩ => by simp [h] at t3)) (fun t3 => ?_)
  (repeat ((first | refine h_box fun _ _ _ => ?_ | ((with_reducible show holds _ _ _ _ (.sem (Instr.alloc 25 _ _) _ _) _); refine h_alloc zb_DualPacket fun _ _ _ => ?_) | ((with_reducible show holds _ _ _ _ (.sem (Instr.alloc 43 _ _) _ _) _); refine h_alloc zb_DualEntry_43 fun _ _ _ => ?_) | ((with_reducible show holds _ _ _ _ (.rd (Instr.loadAt _ (.pointer _)) _ _) _); first | refine ldI (by repeat (first | exact mq0 | apply mq1 | apply mq2)) (by rfl) (by kernel_rfl) ?_ | refine ldL (by repeat (first | exact mq0 | apply mq1 | apply mq2)) (by rfl) (by kernel_rfl) ?_ | refine ldB (by repeat (first | exact mq0 | apply mq1 | apply mq2)) (by rfl) (by kernel_rfl) ?_ | refine la0 (by repeat (first | exact mq0 | apply mq1 | apply mq2)) (by rfl) (by kernel_rfl) ?_ | refine la3 (by repeat (first | exact mq0 | apply mq1 | apply mq2)) (by rfl) (by kernel_rfl) ?_) | ((with_reducible show holds _ _ _ _ (.rd (loadVar _ _) _ _) _); refine lv0 (by repeat (first | exact mq0 | apply mq1 | apply mq2)) (by rfl) (by kernel_rfl) ?_) | ((with_reducible show holds _ _ _ _ (.unit (Instr.storeAt _ _ _) _) _); refine stU (by repeat (first | exact Upd.here | apply Upd.there | apply Upd.right)) (by kernel_rfl) (by rfl) (by simp [Value.cells]) ?_) | ((with_reducible show holds _ _ _ _ (.pin (vN (Instr.loadAt _ _)) _ _) _); first | refine pnA (by repeat (first | exact mq0 | apply mq1 | apply mq2)) (by rfl) (by kernel_rfl) ?_ | refine pn1 (by repeat (first | exact mq0 | apply mq1 | apply mq2)) (by rfl) (by kernel_rfl) ?_)); try dsimp only [getL]))
  refine h_ite (fun t4 => no (fun ⟨_, _, _, h, _⟩ => by simp [h] at t4)) (fun t4 => ?_)
  (repeat ((first | refine h_box fun _ _ _ => ?_ | ((with_reducible show holds _ _ _ _ (.sem (Instr.alloc 25 _ _) _ _) _); refine h_alloc zb_DualPacket fun _ _ _ => ?_) | ((with_reducible show holds _ _ _ _ (.sem (Instr.alloc 43 _ _) _ _) _); refine h_alloc zb_DualEntry_43 fun _ _ _ => ?_) | ((with_reducible show holds _ _ _ _ (.rd (Instr.loadAt _ (.pointer _)) _ _) _); first | refine ldI (by repeat (first | exact mq0 | apply mq1 | apply mq2)) (by rfl) (by kernel_rfl) ?_ | refine ldL (by repeat (first | exact mq0 | apply mq1 | apply mq2)) (by rfl) (by kernel_rfl) ?_ | refine ldB (by repeat (first | exact mq0 | apply mq1 | apply mq2)) (by rfl) (by kernel_rfl) ?_ | refine la0 (by repeat (first | exact mq0 | apply mq1 | apply mq2)) (by rfl) (by kernel_rfl) ?_ | refine la3 (by repeat (first | exact mq0 | apply mq1 | apply mq2)) (by rfl) (by kernel_rfl) ?_) | ((with_reducible show holds _ _ _ _ (.rd (loadVar _ _) _ _) _); refine lv0 (by repeat (first | exact mq0 | apply mq1 | apply mq2)) (by rfl) (by kernel_rfl) ?_) | ((with_reducible show holds _ _ _ _ (.unit (Instr.storeAt _ _ _) _) _); refine stU (by repeat (first | exact Upd.here | apply Upd.there | apply Upd.right)) (by kernel_rfl) (by rfl) (by simp [Value.cells]) ?_) | ((with_reducible show holds _ _ _ _ (.pin (vN (Instr.loadAt _ _)) _ _) _); first | refine pnA (by repeat (first | exact mq0 | apply mq1 | apply mq2)) (by rfl) (by kernel_rfl) ?_ | refine pn1 (by repeat (first | exact mq0 | apply mq1 | apply mq2)) (by rfl) (by kernel_rfl) ?_)); try dsimp only [getL]))
  refine h_ite (fun t5 => no (fun ⟨_, _, _, _, h⟩ => by simp [h] at t5)) (fun t5 => ?_)
  have e1 : p.code = q.code := by simpa using t1
  have e2 : p.init = q.init := by simpa using t2
  have e3 : p.seq = q.seq := by simp at t3; omega
  have e4 : p.ack = q.ack := by simp at t4; omega
  have e5 : p.es.length = q.es.length := by simp at t5; omega
  refine h_stop fun hlv => ?_
  refine (dsame_loop (k1 := k1) (k2 := k2) (hr' := []) he hf e5 hbd p.es.length 0 _ (by omega)).mono fun v h' ⟨m, g, hp, ⟨b, hv, hb⟩, hm⟩ => ⟨m, g, hp, ⟨b, hv, ?_⟩, hm⟩
  rw [hb, ext]
  simp [e1, e2, e3, e4]
end Go.Proofs.YtkdakglnhipmaaaS
