import Derived.Test.YtkdakglnhipmaaaN10
import Derived.Test.YtkdakglnhipmaaaTA
set_option linter.unusedVariables false
namespace Go.Proofs.YtkdakglnhipmaaaS
abbrev OwnD (A : Option Addr) (c : Nat) (es : List DEnt) (m : Mem) : Prop := Own 43 6 A es.length c (es.flatMap DEnt.cs) m ∧ ∀ e ∈ es, e.ok
theorem OwnD.nil : OwnD none 0 [] [] := ⟨Own.nil _ _, fun e he => by simp at he⟩
theorem dents_row (J : Ctx) : ∀ {es : List DEnt}, (∀ e ∈ es, e.ok) → rowC (dentC J) es (es.flatMap DEnt.cs)
  | [], _ => rfl
  | e :: es, h => ⟨e.cs, es.flatMap DEnt.cs, rfl, ⟨rfl, h e List.mem_cons_self⟩, dents_row J fun x hx => h x (List.mem_cons_of_mem _ hx)⟩
theorem OwnD.ents {I : Ctx} {h m : Mem} {A : Option Addr} {c : Nat} {es : List DEnt} (ho : OwnD A c es m) (hl : Live I h) (hm : ∀ x ∈ m, x ∈ h) : DEntsIn (plus I h) A es :=
  ⟨_, (ho.1.rd hm).all hl, dents_row _ ho.2⟩
theorem OwnD.snoc {A A' : Option Addr} {c c' : Nat} {es : List DEnt} {e : DEnt} {m m' : Mem} (ho : OwnD A c es m) (he : e.ok) (h : Own 43 6 A' (es.length + 1) c' (es.flatMap DEnt.cs ++ e.cs) m') : OwnD A' c' (es ++ [e]) m' := by
  refine ⟨?_, fun x hx => ?_⟩
  · rw [List.flatMap_append, List.length_append]
    exact h
  · rcases List.mem_append.1 hx with hx | hx
    · exact ho.2 x hx
    · rw [List.mem_singleton.1 hx]; exact he
abbrev GivesD (r : DPk × Int) (v : Value) (h' : Mem) : Prop := ∃ A c, v = .tuple #[r.1.vv A c, .int .i64 r.2] ∧ OwnD A c r.1.es h' ∧ r.1.ok
theorem none7_ok : none7.ok := ⟨by decide, by decide⟩
abbrev z25 : Array Value := #[.int .i64 0, .bool false, .int .u32 0, .int .u32 0, .slice none 0 0]
def dfin (p : DPk) (l : List UInt8) : DPk × Int := if dencR p = (l, 0) then (p, 0) else (none7, 2)
abbrev DPk.w (p : DPk) (es : List DEnt) : DPk := { p with es := es }
theorem ddec_loop {I : Ctx} {A0 : Option Addr} {n0 c0 : Nat} {l : List UInt8} {p : DPk} (hr : RdB I A0 n0 l) (hok : p.ok) : ∀ (q : Nat) (r5 : List UInt8) (es : List DEnt) (y2 y4 : Nat) (A5 : Option Addr) (n5 c5 : Nat) (A : Option Addr) (c : Nat) (u : Nat → Value) (h m hr' : Mem),
    r5.length = q * 20 → RdB I A5 n5 r5 → n5 ≤ c5 → es.length + q ≤ 40 → OwnD A c es m →
    Pick h ([(y2, .cells z25 25 (0, 0))] ++ ([(y4, .cells ⟨(p.w es).cs A c⟩ 25 (0, 0))] ++ m)) hr' →
    Wp Try.prog 13 k_dualpkt_Decode_2 (t_dualpkt_Decode_2 A0 n0 c0 y2 y4 A5 n5 c5 u) I h (cl_ (GivesD (dfin (p.w (es ++ (chunks q r5).map dreadE)) l))) := by
  intro q
  induction q with
  | zero =>
    intro r5 es y2 y4 A5 n5 c5 A c u h m hr' hlen hr5 hn5 hb ho hp
    refine r_dualpkt_Decode_2 _ _ _ _ _ _ _ _ _ ?_
    refine holds_perm (cl_.aff _) (g := (y2, .cells z25 25 (0, 0)) :: (y4, .cells ⟨(p.w es).cs A c⟩ 25 (0, 0)) :: (m ++ hr')) hp ?_
    have hl5 := hr5.len
    refine h_no (by simp; omega) ?_
    (repeat ((first | ((with_reducible show holds _ _ _ _ (.sem (Instr.alloc 25 _ _) _ _) _); refine h_alloc zb_DualPacket fun _ _ _ => ?_) | ((with_reducible show holds _ _ _ _ (.rd (Instr.loadAt _ (.pointer _)) _ _) _); first | refine ldI (by repeat (first | exact mq0 | apply mq1 | apply mq2)) (by rfl) (by kernel_rfl) ?_ | refine ldL (by repeat (first | exact mq0 | apply mq1 | apply mq2)) (by rfl) (by kernel_rfl) ?_ | refine la0 (by repeat (first | exact mq0 | apply mq1 | apply mq2)) (by rfl) (by kernel_rfl) ?_) | ((with_reducible show holds _ _ _ _ (.rd (loadVar _ _) _ _) _); refine lv0 (by repeat (first | exact mq0 | apply mq1 | apply mq2)) (by rfl) (by kernel_rfl) ?_) | ((with_reducible show holds _ _ _ _ (.unit (Instr.storeAt _ _ _) _) _); refine stU (by repeat (first | exact Upd.here | apply Upd.there | apply Upd.right)) (by kernel_rfl) (by rfl) (by simp [Value.cells]) ?_) | ((with_reducible show holds _ _ _ _ (.pin (vN (Instr.loadAt _ _)) _ _) _); first | refine pnA (by repeat (first | exact mq0 | apply mq1 | apply mq2)) (by rfl) (by kernel_rfl) ?_ | refine pn1 (by repeat (first | exact mq0 | apply mq1 | apply mq2)) (by rfl) (by kernel_rfl) ?_)); try dsimp only [getL]))
    refine h_call [] _ ca_dualpkt_Encode (List.Perm.refl _) (fun hl => dencode_spec (p := p.w es) (ho.ents hl (fun x hx => by first | (simp [hx]; done) | (rw [List.mem_singleton] at hx; subst hx; simp; done))) ⟨hok.seq, hok.ack⟩) ?_
    rintro v h1 ⟨X1, x1, rfl, ho1⟩
    refine ⟨getL [{ A := X1, n := (dencR (p.w es)).1.length, c := x1 }, { i := (dencR (p.w es)).2 }], rfl, ?_⟩
    dsimp only [getL]
    rw [show es ++ (chunks 0 r5).map dreadE = es by simp [chunks]]
    refine h_ite (fun t => ?_) (fun t => ?_)
    · rw [show dfin (p.w es) l = (none7, 2) by unfold dfin; rw [if_neg (fun e => by rw [e] at t; simp at t)]]
      (repeat ((first | ((with_reducible show holds _ _ _ _ (.sem (Instr.alloc 25 _ _) _ _) _); refine h_alloc zb_DualPacket fun _ _ _ => ?_) | ((with_reducible show holds _ _ _ _ (.rd (Instr.loadAt _ (.pointer _)) _ _) _); first | refine ldI (by repeat (first | exact mq0 | apply mq1 | apply mq2)) (by rfl) (by kernel_rfl) ?_ | refine ldL (by repeat (first | exact mq0 | apply mq1 | apply mq2)) (by rfl) (by kernel_rfl) ?_ | refine la0 (by repeat (first | exact mq0 | apply mq1 | apply mq2)) (by rfl) (by kernel_rfl) ?_) | ((with_reducible show holds _ _ _ _ (.rd (loadVar _ _) _ _) _); refine lv0 (by repeat (first | exact mq0 | apply mq1 | apply mq2)) (by rfl) (by kernel_rfl) ?_) | ((with_reducible show holds _ _ _ _ (.unit (Instr.storeAt _ _ _) _) _); refine stU (by repeat (first | exact Upd.here | apply Upd.there | apply Upd.right)) (by kernel_rfl) (by rfl) (by simp [Value.cells]) ?_) | ((with_reducible show holds _ _ _ _ (.pin (vN (Instr.loadAt _ _)) _ _) _); first | refine pnA (by repeat (first | exact mq0 | apply mq1 | apply mq2)) (by rfl) (by kernel_rfl) ?_ | refine pn1 (by repeat (first | exact mq0 | apply mq1 | apply mq2)) (by rfl) (by kernel_rfl) ?_)); try dsimp only [getL]))
      exact h_end0 ⟨none, 0, rfl, OwnD.nil, none7_ok⟩
    have t0 : (dencR (p.w es)).2 = 0 := by simpa using t
    have hlen1 : (dencR (p.w es)).1.length ≤ 1000000 := by
      rw [(denc_ok t0).1]; have := dencB_len (p.w es); dsimp only at this ⊢; omega
    refine h_call0 (v := .bool ((dencR (p.w es)).1 == l)) (fun _ => { b := (dencR (p.w es)).1 == l }) ca_slices_Equal_byte (fun hl => sleq_spec (ho1.rdb hl (fun x hx => by first | (simp [hx]; done) | (rw [List.mem_singleton] at hx; subst hx; simp; done))) (hr.up (Sub.self.up hl)) hlen1) rfl ?_
    dsimp only
    refine h_ite (fun t2 => ?_) (fun t2 => ?_)
    · rw [show dfin (p.w es) l = (none7, 2) by unfold dfin; rw [if_neg (fun e => by rw [e] at t2; simp at t2)]]
      (repeat ((first | ((with_reducible show holds _ _ _ _ (.sem (Instr.alloc 25 _ _) _ _) _); refine h_alloc zb_DualPacket fun _ _ _ => ?_) | ((with_reducible show holds _ _ _ _ (.rd (Instr.loadAt _ (.pointer _)) _ _) _); first | refine ldI (by repeat (first | exact mq0 | apply mq1 | apply mq2)) (by rfl) (by kernel_rfl) ?_ | refine ldL (by repeat (first | exact mq0 | apply mq1 | apply mq2)) (by rfl) (by kernel_rfl) ?_ | refine la0 (by repeat (first | exact mq0 | apply mq1 | apply mq2)) (by rfl) (by kernel_rfl) ?_) | ((with_reducible show holds _ _ _ _ (.rd (loadVar _ _) _ _) _); refine lv0 (by repeat (first | exact mq0 | apply mq1 | apply mq2)) (by rfl) (by kernel_rfl) ?_) | ((with_reducible show holds _ _ _ _ (.unit (Instr.storeAt _ _ _) _) _); refine stU (by repeat (first | exact Upd.here | apply Upd.there | apply Upd.right)) (by kernel_rfl) (by rfl) (by simp [Value.cells]) ?_) | ((with_reducible show holds _ _ _ _ (.pin (vN (Instr.loadAt _ _)) _ _) _); first | refine pnA (by repeat (first | exact mq0 | apply mq1 | apply mq2)) (by rfl) (by kernel_rfl) ?_ | refine pn1 (by repeat (first | exact mq0 | apply mq1 | apply mq2)) (by rfl) (by kernel_rfl) ?_)); try dsimp only [getL]))
      exact h_end0 ⟨none, 0, rfl, OwnD.nil, none7_ok⟩
    rw [show dfin (p.w es) l = (p.w es, 0) by
      unfold dfin
      rw [if_pos (Prod.ext (by simpa using t2) t0)]]
    (repeat ((first | ((with_reducible show holds _ _ _ _ (.sem (Instr.alloc 25 _ _) _ _) _); refine h_alloc zb_DualPacket fun _ _ _ => ?_) | ((with_reducible show holds _ _ _ _ (.rd (Instr.loadAt _ (.pointer _)) _ _) _); first | refine ldI (by repeat (first | exact mq0 | apply mq1 | apply mq2)) (by rfl) (by kernel_rfl) ?_ | refine ldL (by repeat (first | exact mq0 | apply mq1 | apply mq2)) (by rfl) (by kernel_rfl) ?_ | refine la0 (by repeat (first | exact mq0 | apply mq1 | apply mq2)) (by rfl) (by kernel_rfl) ?_) | ((with_reducible show holds _ _ _ _ (.rd (loadVar _ _) _ _) _); refine lv0 (by repeat (first | exact mq0 | apply mq1 | apply mq2)) (by rfl) (by kernel_rfl) ?_) | ((with_reducible show holds _ _ _ _ (.unit (Instr.storeAt _ _ _) _) _); refine stU (by repeat (first | exact Upd.here | apply Upd.there | apply Upd.right)) (by kernel_rfl) (by rfl) (by simp [Value.cells]) ?_) | ((with_reducible show holds _ _ _ _ (.pin (vN (Instr.loadAt _ _)) _ _) _); first | refine pnA (by repeat (first | exact mq0 | apply mq1 | apply mq2)) (by rfl) (by kernel_rfl) ?_ | refine pn1 (by repeat (first | exact mq0 | apply mq1 | apply mq2)) (by rfl) (by kernel_rfl) ?_)); try dsimp only [getL]))
    exact h_end (h1 := m) (by repeat (first | exact Pick.here | exact Pick.one | apply Pick.two | apply Pick.cons | apply Pick.app)) ⟨A, c, rfl, ho, ⟨hok.seq, hok.ack⟩⟩
  | succ q ih =>
    intro r5 es y2 y4 A5 n5 c5 A c u h m hr' hlen hr5 hn5 hb ho hp
    refine r_dualpkt_Decode_2 _ _ _ _ _ _ _ _ _ ?_
    refine holds_perm (cl_.aff _) (g := (y2, .cells z25 25 (0, 0)) :: (y4, .cells ⟨(p.w es).cs A c⟩ 25 (0, 0)) :: (m ++ hr')) hp ?_
    have hl5 := hr5.len
    refine h_yes (by simp; omega) ?_
    (repeat ((first | ((with_reducible show holds _ _ _ _ (.sem (Instr.alloc 25 _ _) _ _) _); refine h_alloc zb_DualPacket fun _ _ _ => ?_) | ((with_reducible show holds _ _ _ _ (.rd (Instr.loadAt _ (.pointer _)) _ _) _); first | refine ldI (by repeat (first | exact mq0 | apply mq1 | apply mq2)) (by rfl) (by kernel_rfl) ?_ | refine ldL (by repeat (first | exact mq0 | apply mq1 | apply mq2)) (by rfl) (by kernel_rfl) ?_ | refine la0 (by repeat (first | exact mq0 | apply mq1 | apply mq2)) (by rfl) (by kernel_rfl) ?_) | ((with_reducible show holds _ _ _ _ (.rd (loadVar _ _) _ _) _); refine lv0 (by repeat (first | exact mq0 | apply mq1 | apply mq2)) (by rfl) (by kernel_rfl) ?_) | ((with_reducible show holds _ _ _ _ (.unit (Instr.storeAt _ _ _) _) _); refine stU (by repeat (first | exact Upd.here | apply Upd.there | apply Upd.right)) (by kernel_rfl) (by rfl) (by simp [Value.cells]) ?_) | ((with_reducible show holds _ _ _ _ (.pin (vN (Instr.loadAt _ _)) _ _) _); first | refine pnA (by repeat (first | exact mq0 | apply mq1 | apply mq2)) (by rfl) (by kernel_rfl) ?_ | refine pn1 (by repeat (first | exact mq0 | apply mq1 | apply mq2)) (by rfl) (by kernel_rfl) ?_)); try dsimp only [getL]))
    refine h_cut (e := 5) (sz := 1) 0 20 20 (by kernel_rfl) (by kernel_rfl) rfl rfl rfl (by simp) (by omega) (by omega) (by omega) ?_
    dsimp only
    rw [cutA_zero, Nat.sub_zero]
    refine h_call0 (v := (dreadE (r5.take 20)).vv) (dreadE (r5.take 20)).ls ca_dualpkt_get (fun hl2 => dget_spec ((hr5.take (by omega)).up (Sub.self.up hl2)) (by omega)) rfl ?_
    dsimp only [getL, DEnt.ls]
    (repeat ((first | ((with_reducible show holds _ _ _ _ (.sem (Instr.alloc 25 _ _) _ _) _); refine h_alloc zb_DualPacket fun _ _ _ => ?_) | ((with_reducible show holds _ _ _ _ (.rd (Instr.loadAt _ (.pointer _)) _ _) _); first | refine ldI (by repeat (first | exact mq0 | apply mq1 | apply mq2)) (by rfl) (by kernel_rfl) ?_ | refine ldL (by repeat (first | exact mq0 | apply mq1 | apply mq2)) (by rfl) (by kernel_rfl) ?_ | refine la0 (by repeat (first | exact mq0 | apply mq1 | apply mq2)) (by rfl) (by kernel_rfl) ?_) | ((with_reducible show holds _ _ _ _ (.rd (loadVar _ _) _ _) _); refine lv0 (by repeat (first | exact mq0 | apply mq1 | apply mq2)) (by rfl) (by kernel_rfl) ?_) | ((with_reducible show holds _ _ _ _ (.unit (Instr.storeAt _ _ _) _) _); refine stU (by repeat (first | exact Upd.here | apply Upd.there | apply Upd.right)) (by kernel_rfl) (by rfl) (by simp [Value.cells]) ?_) | ((with_reducible show holds _ _ _ _ (.pin (vN (Instr.loadAt _ _)) _ _) _); first | refine pnA (by repeat (first | exact mq0 | apply mq1 | apply mq2)) (by rfl) (by kernel_rfl) ?_ | refine pn1 (by repeat (first | exact mq0 | apply mq1 | apply mq2)) (by rfl) (by kernel_rfl) ?_)); try dsimp only [getL]))
    refine h_row (e := 43) ⟨(dreadE (r5.take 20)).cs⟩ (by kernel_rfl) fun g10 hg10 hI10 => ?_
    dsimp only
    refine h_append (cl_.aff _) eb_DualEntry (by kernel_rfl) (cs2 := (dreadE (r5.take 20)).cs) (fun _ => ⟨_, rfl, cellsM' (by repeat (first | exact mq0 | apply mq1 | apply mq2)) rfl⟩) (by simp) rfl (by simp) (m := m) (by repeat (first | exact Pick.here | exact Pick.one | apply Pick.two | apply Pick.cons | apply Pick.app)) ho.1 (by omega) (by omega) ?_
    intro A' c' m' ho'
    (repeat ((first | ((with_reducible show holds _ _ _ _ (.sem (Instr.alloc 25 _ _) _ _) _); refine h_alloc zb_DualPacket fun _ _ _ => ?_) | ((with_reducible show holds _ _ _ _ (.rd (Instr.loadAt _ (.pointer _)) _ _) _); first | refine ldI (by repeat (first | exact mq0 | apply mq1 | apply mq2)) (by rfl) (by kernel_rfl) ?_ | refine ldL (by repeat (first | exact mq0 | apply mq1 | apply mq2)) (by rfl) (by kernel_rfl) ?_ | refine la0 (by repeat (first | exact mq0 | apply mq1 | apply mq2)) (by rfl) (by kernel_rfl) ?_) | ((with_reducible show holds _ _ _ _ (.rd (loadVar _ _) _ _) _); refine lv0 (by repeat (first | exact mq0 | apply mq1 | apply mq2)) (by rfl) (by kernel_rfl) ?_) | ((with_reducible show holds _ _ _ _ (.unit (Instr.storeAt _ _ _) _) _); refine stU (by repeat (first | exact Upd.here | apply Upd.there | apply Upd.right)) (by kernel_rfl) (by rfl) (by simp [Value.cells]) ?_) | ((with_reducible show holds _ _ _ _ (.pin (vN (Instr.loadAt _ _)) _ _) _); first | refine pnA (by repeat (first | exact mq0 | apply mq1 | apply mq2)) (by rfl) (by kernel_rfl) ?_ | refine pn1 (by repeat (first | exact mq0 | apply mq1 | apply mq2)) (by rfl) (by kernel_rfl) ?_)); try dsimp only [getL]))
    refine h_cut (e := 5) (sz := 1) 20 n5 c5 (by kernel_rfl) (by kernel_rfl) rfl rfl rfl (by simp) (by omega) (by omega) (by omega) ?_
    dsimp only
    refine h_stop fun hl2 => ?_
    rw [show es ++ (chunks (q + 1) r5).map dreadE = (es ++ [dreadE (r5.take 20)]) ++ (chunks q (r5.drop 20)).map dreadE by simp [chunks]]
    refine ih (r5.drop 20) (es ++ [dreadE (r5.take 20)]) y2 y4 _ _ _ A' c' _ _ m' _ (by simp; omega) (hr5.rest (by omega) hn5) (by omega) (by simp; omega) (ho.snoc (dreadE_ok _) ho') (by dsimp only [DPk.w, DPk.cs]; rw [List.length_append]; exact (by repeat (first | exact Pick.here | exact Pick.one | apply Pick.two | apply Pick.cons | apply Pick.app)))
theorem ddec_one {I : Ctx} {A0 : Option Addr} {n0 c0 : Nat} {l : List UInt8} {p : DPk} (hr : RdB I A0 n0 l) (hok : p.ok) (q : Nat) (r5 : List UInt8) (es : List DEnt) (y2 y4 : Nat) (A5 : Option Addr) (n5 c5 : Nat) (A : Option Addr) (c : Nat) (u : Nat → Value) (h m hr' : Mem)
    (hlen : r5.length = q * 20) (hr5 : RdB I A5 n5 r5) (hn5 : n5 ≤ c5) (hb : es.length + q ≤ 40) (ho : OwnD A c es m)
    (hp : Pick h ([(y2, .cells z25 25 (0, 0))] ++ ([(y4, .cells ⟨(p.w es).cs A c⟩ 25 (0, 0))] ++ m)) hr') :
    Wp Try.prog 13 k_dualpkt_Decode_1 (t_dualpkt_Decode_1 A0 n0 c0 y2 y4 A5 n5 c5 u) I h (cl_ (GivesD (dfin (p.w (es ++ (chunks q r5).map dreadE)) l))) := by
  cases q with
  | zero =>
    refine r_dualpkt_Decode_1 _ _ _ _ _ _ _ _ _ ?_
    refine holds_perm (cl_.aff _) (g := (y2, .cells z25 25 (0, 0)) :: (y4, .cells ⟨(p.w es).cs A c⟩ 25 (0, 0)) :: (m ++ hr')) hp ?_
    have hl5 := hr5.len
    refine h_no (by simp; omega) ?_
    (repeat ((first | ((with_reducible show holds _ _ _ _ (.sem (Instr.alloc 25 _ _) _ _) _); refine h_alloc zb_DualPacket fun _ _ _ => ?_) | ((with_reducible show holds _ _ _ _ (.rd (Instr.loadAt _ (.pointer _)) _ _) _); first | refine ldI (by repeat (first | exact mq0 | apply mq1 | apply mq2)) (by rfl) (by kernel_rfl) ?_ | refine ldL (by repeat (first | exact mq0 | apply mq1 | apply mq2)) (by rfl) (by kernel_rfl) ?_ | refine la0 (by repeat (first | exact mq0 | apply mq1 | apply mq2)) (by rfl) (by kernel_rfl) ?_) | ((with_reducible show holds _ _ _ _ (.rd (loadVar _ _) _ _) _); refine lv0 (by repeat (first | exact mq0 | apply mq1 | apply mq2)) (by rfl) (by kernel_rfl) ?_) | ((with_reducible show holds _ _ _ _ (.unit (Instr.storeAt _ _ _) _) _); refine stU (by repeat (first | exact Upd.here | apply Upd.there | apply Upd.right)) (by kernel_rfl) (by rfl) (by simp [Value.cells]) ?_) | ((with_reducible show holds _ _ _ _ (.pin (vN (Instr.loadAt _ _)) _ _) _); first | refine pnA (by repeat (first | exact mq0 | apply mq1 | apply mq2)) (by rfl) (by kernel_rfl) ?_ | refine pn1 (by repeat (first | exact mq0 | apply mq1 | apply mq2)) (by rfl) (by kernel_rfl) ?_)); try dsimp only [getL]))
    refine h_call [] _ ca_dualpkt_Encode (List.Perm.refl _) (fun hl => dencode_spec (p := p.w es) (ho.ents hl (fun x hx => by first | (simp [hx]; done) | (rw [List.mem_singleton] at hx; subst hx; simp; done))) ⟨hok.seq, hok.ack⟩) ?_
    rintro v h1 ⟨X1, x1, rfl, ho1⟩
    refine ⟨getL [{ A := X1, n := (dencR (p.w es)).1.length, c := x1 }, { i := (dencR (p.w es)).2 }], rfl, ?_⟩
    dsimp only [getL]
    rw [show es ++ (chunks 0 r5).map dreadE = es by simp [chunks]]
    refine h_ite (fun t => ?_) (fun t => ?_)
    · rw [show dfin (p.w es) l = (none7, 2) by unfold dfin; rw [if_neg (fun e => by rw [e] at t; simp at t)]]
      (repeat ((first | ((with_reducible show holds _ _ _ _ (.sem (Instr.alloc 25 _ _) _ _) _); refine h_alloc zb_DualPacket fun _ _ _ => ?_) | ((with_reducible show holds _ _ _ _ (.rd (Instr.loadAt _ (.pointer _)) _ _) _); first | refine ldI (by repeat (first | exact mq0 | apply mq1 | apply mq2)) (by rfl) (by kernel_rfl) ?_ | refine ldL (by repeat (first | exact mq0 | apply mq1 | apply mq2)) (by rfl) (by kernel_rfl) ?_ | refine la0 (by repeat (first | exact mq0 | apply mq1 | apply mq2)) (by rfl) (by kernel_rfl) ?_) | ((with_reducible show holds _ _ _ _ (.rd (loadVar _ _) _ _) _); refine lv0 (by repeat (first | exact mq0 | apply mq1 | apply mq2)) (by rfl) (by kernel_rfl) ?_) | ((with_reducible show holds _ _ _ _ (.unit (Instr.storeAt _ _ _) _) _); refine stU (by repeat (first | exact Upd.here | apply Upd.there | apply Upd.right)) (by kernel_rfl) (by rfl) (by simp [Value.cells]) ?_) | ((with_reducible show holds _ _ _ _ (.pin (vN (Instr.loadAt _ _)) _ _) _); first | refine pnA (by repeat (first | exact mq0 | apply mq1 | apply mq2)) (by rfl) (by kernel_rfl) ?_ | refine pn1 (by repeat (first | exact mq0 | apply mq1 | apply mq2)) (by rfl) (by kernel_rfl) ?_)); try dsimp only [getL]))
      exact h_end0 ⟨none, 0, rfl, OwnD.nil, none7_ok⟩
    have t0 : (dencR (p.w es)).2 = 0 := by simpa using t
    have hlen1 : (dencR (p.w es)).1.length ≤ 1000000 := by
      rw [(denc_ok t0).1]; have := dencB_len (p.w es); dsimp only at this ⊢; omega
    refine h_call0 (v := .bool ((dencR (p.w es)).1 == l)) (fun _ => { b := (dencR (p.w es)).1 == l }) ca_slices_Equal_byte (fun hl => sleq_spec (ho1.rdb hl (fun x hx => by first | (simp [hx]; done) | (rw [List.mem_singleton] at hx; subst hx; simp; done))) (hr.up (Sub.self.up hl)) hlen1) rfl ?_
    dsimp only
    refine h_ite (fun t2 => ?_) (fun t2 => ?_)
    · rw [show dfin (p.w es) l = (none7, 2) by unfold dfin; rw [if_neg (fun e => by rw [e] at t2; simp at t2)]]
      (repeat ((first | ((with_reducible show holds _ _ _ _ (.sem (Instr.alloc 25 _ _) _ _) _); refine h_alloc zb_DualPacket fun _ _ _ => ?_) | ((with_reducible show holds _ _ _ _ (.rd (Instr.loadAt _ (.pointer _)) _ _) _); first | refine ldI (by repeat (first | exact mq0 | apply mq1 | apply mq2)) (by rfl) (by kernel_rfl) ?_ | refine ldL (by repeat (first | exact mq0 | apply mq1 | apply mq2)) (by rfl) (by kernel_rfl) ?_ | refine la0 (by repeat (first | exact mq0 | apply mq1 | apply mq2)) (by rfl) (by kernel_rfl) ?_) | ((with_reducible show holds _ _ _ _ (.rd (loadVar _ _) _ _) _); refine lv0 (by repeat (first | exact mq0 | apply mq1 | apply mq2)) (by rfl) (by kernel_rfl) ?_) | ((with_reducible show holds _ _ _ _ (.unit (Instr.storeAt _ _ _) _) _); refine stU (by repeat (first | exact Upd.here | apply Upd.there | apply Upd.right)) (by kernel_rfl) (by rfl) (by simp [Value.cells]) ?_) | ((with_reducible show holds _ _ _ _ (.pin (vN (Instr.loadAt _ _)) _ _) _); first | refine pnA (by repeat (first | exact mq0 | apply mq1 | apply mq2)) (by rfl) (by kernel_rfl) ?_ | refine pn1 (by repeat (first | exact mq0 | apply mq1 | apply mq2)) (by rfl) (by kernel_rfl) ?_)); try dsimp only [getL]))
      exact h_end0 ⟨none, 0, rfl, OwnD.nil, none7_ok⟩
    rw [show dfin (p.w es) l = (p.w es, 0) by
      unfold dfin
      rw [if_pos (Prod.ext (by simpa using t2) t0)]]
    (repeat ((first | ((with_reducible show holds _ _ _ _ (.sem (Instr.alloc 25 _ _) _ _) _); refine h_alloc zb_DualPacket fun _ _ _ => ?_) | ((with_reducible show holds _ _ _ _ (.rd (Instr.loadAt _ (.pointer _)) _ _) _); first | refine ldI (by repeat (first | exact mq0 | apply mq1 | apply mq2)) (by rfl) (by kernel_rfl) ?_ | refine ldL (by repeat (first | exact mq0 | apply mq1 | apply mq2)) (by rfl) (by kernel_rfl) ?_ | refine la0 (by repeat (first | exact mq0 | apply mq1 | apply mq2)) (by rfl) (by kernel_rfl) ?_) | ((with_reducible show holds _ _ _ _ (.rd (loadVar _ _) _ _) _); refine lv0 (by repeat (first | exact mq0 | apply mq1 | apply mq2)) (by rfl) (by kernel_rfl) ?_) | ((with_reducible show holds _ _ _ _ (.unit (Instr.storeAt _ _ _) _) _); refine stU (by repeat (first | exact Upd.here | apply Upd.there | apply Upd.right)) (by kernel_rfl) (by rfl) (by simp [Value.cells]) ?_) | ((with_reducible show holds _ _ _ _ (.pin (vN (Instr.loadAt _ _)) _ _) _); first | refine pnA (by repeat (first | exact mq0 | apply mq1 | apply mq2)) (by rfl) (by kernel_rfl) ?_ | refine pn1 (by repeat (first | exact mq0 | apply mq1 | apply mq2)) (by rfl) (by kernel_rfl) ?_)); try dsimp only [getL]))
    exact h_end (h1 := m) (by repeat (first | exact Pick.here | exact Pick.one | apply Pick.two | apply Pick.cons | apply Pick.app)) ⟨A, c, rfl, ho, ⟨hok.seq, hok.ack⟩⟩
  | succ q =>
    refine r_dualpkt_Decode_1 _ _ _ _ _ _ _ _ _ ?_
    refine holds_perm (cl_.aff _) (g := (y2, .cells z25 25 (0, 0)) :: (y4, .cells ⟨(p.w es).cs A c⟩ 25 (0, 0)) :: (m ++ hr')) hp ?_
    have hl5 := hr5.len
    refine h_yes (by simp; omega) ?_
    (repeat ((first | ((with_reducible show holds _ _ _ _ (.sem (Instr.alloc 25 _ _) _ _) _); refine h_alloc zb_DualPacket fun _ _ _ => ?_) | ((with_reducible show holds _ _ _ _ (.rd (Instr.loadAt _ (.pointer _)) _ _) _); first | refine ldI (by repeat (first | exact mq0 | apply mq1 | apply mq2)) (by rfl) (by kernel_rfl) ?_ | refine ldL (by repeat (first | exact mq0 | apply mq1 | apply mq2)) (by rfl) (by kernel_rfl) ?_ | refine la0 (by repeat (first | exact mq0 | apply mq1 | apply mq2)) (by rfl) (by kernel_rfl) ?_) | ((with_reducible show holds _ _ _ _ (.rd (loadVar _ _) _ _) _); refine lv0 (by repeat (first | exact mq0 | apply mq1 | apply mq2)) (by rfl) (by kernel_rfl) ?_) | ((with_reducible show holds _ _ _ _ (.unit (Instr.storeAt _ _ _) _) _); refine stU (by repeat (first | exact Upd.here | apply Upd.there | apply Upd.right)) (by kernel_rfl) (by rfl) (by simp [Value.cells]) ?_) | ((with_reducible show holds _ _ _ _ (.pin (vN (Instr.loadAt _ _)) _ _) _); first | refine pnA (by repeat (first | exact mq0 | apply mq1 | apply mq2)) (by rfl) (by kernel_rfl) ?_ | refine pn1 (by repeat (first | exact mq0 | apply mq1 | apply mq2)) (by rfl) (by kernel_rfl) ?_)); try dsimp only [getL]))
    refine h_cut (e := 5) (sz := 1) 0 20 20 (by kernel_rfl) (by kernel_rfl) rfl rfl rfl (by simp) (by omega) (by omega) (by omega) ?_
    dsimp only
    rw [cutA_zero, Nat.sub_zero]
    refine h_call0 (v := (dreadE (r5.take 20)).vv) (dreadE (r5.take 20)).ls ca_dualpkt_get (fun hl2 => dget_spec ((hr5.take (by omega)).up (Sub.self.up hl2)) (by omega)) rfl ?_
    dsimp only [getL, DEnt.ls]
    (repeat ((first | ((with_reducible show holds _ _ _ _ (.sem (Instr.alloc 25 _ _) _ _) _); refine h_alloc zb_DualPacket fun _ _ _ => ?_) | ((with_reducible show holds _ _ _ _ (.rd (Instr.loadAt _ (.pointer _)) _ _) _); first | refine ldI (by repeat (first | exact mq0 | apply mq1 | apply mq2)) (by rfl) (by kernel_rfl) ?_ | refine ldL (by repeat (first | exact mq0 | apply mq1 | apply mq2)) (by rfl) (by kernel_rfl) ?_ | refine la0 (by repeat (first | exact mq0 | apply mq1 | apply mq2)) (by rfl) (by kernel_rfl) ?_) | ((with_reducible show holds _ _ _ _ (.rd (loadVar _ _) _ _) _); refine lv0 (by repeat (first | exact mq0 | apply mq1 | apply mq2)) (by rfl) (by kernel_rfl) ?_) | ((with_reducible show holds _ _ _ _ (.unit (Instr.storeAt _ _ _) _) _); refine stU (by repeat (first | exact Upd.here | apply Upd.there | apply Upd.right)) (by kernel_rfl) (by rfl) (by simp [Value.cells]) ?_) | ((with_reducible show holds _ _ _ _ (.pin (vN (Instr.loadAt _ _)) _ _) _); first | refine pnA (by repeat (first | exact mq0 | apply mq1 | apply mq2)) (by rfl) (by kernel_rfl) ?_ | refine pn1 (by repeat (first | exact mq0 | apply mq1 | apply mq2)) (by rfl) (by kernel_rfl) ?_)); try dsimp only [getL]))
    refine h_row (e := 43) ⟨(dreadE (r5.take 20)).cs⟩ (by kernel_rfl) fun g10 hg10 hI10 => ?_
    dsimp only
    refine h_append (cl_.aff _) eb_DualEntry (by kernel_rfl) (cs2 := (dreadE (r5.take 20)).cs) (fun _ => ⟨_, rfl, cellsM' (by repeat (first | exact mq0 | apply mq1 | apply mq2)) rfl⟩) (by simp) rfl (by simp) (m := m) (by repeat (first | exact Pick.here | exact Pick.one | apply Pick.two | apply Pick.cons | apply Pick.app)) ho.1 (by omega) (by omega) ?_
    intro A' c' m' ho'
    (repeat ((first | ((with_reducible show holds _ _ _ _ (.sem (Instr.alloc 25 _ _) _ _) _); refine h_alloc zb_DualPacket fun _ _ _ => ?_) | ((with_reducible show holds _ _ _ _ (.rd (Instr.loadAt _ (.pointer _)) _ _) _); first | refine ldI (by repeat (first | exact mq0 | apply mq1 | apply mq2)) (by rfl) (by kernel_rfl) ?_ | refine ldL (by repeat (first | exact mq0 | apply mq1 | apply mq2)) (by rfl) (by kernel_rfl) ?_ | refine la0 (by repeat (first | exact mq0 | apply mq1 | apply mq2)) (by rfl) (by kernel_rfl) ?_) | ((with_reducible show holds _ _ _ _ (.rd (loadVar _ _) _ _) _); refine lv0 (by repeat (first | exact mq0 | apply mq1 | apply mq2)) (by rfl) (by kernel_rfl) ?_) | ((with_reducible show holds _ _ _ _ (.unit (Instr.storeAt _ _ _) _) _); refine stU (by repeat (first | exact Upd.here | apply Upd.there | apply Upd.right)) (by kernel_rfl) (by rfl) (by simp [Value.cells]) ?_) | ((with_reducible show holds _ _ _ _ (.pin (vN (Instr.loadAt _ _)) _ _) _); first | refine pnA (by repeat (first | exact mq0 | apply mq1 | apply mq2)) (by rfl) (by kernel_rfl) ?_ | refine pn1 (by repeat (first | exact mq0 | apply mq1 | apply mq2)) (by rfl) (by kernel_rfl) ?_)); try dsimp only [getL]))
    refine h_cut (e := 5) (sz := 1) 20 n5 c5 (by kernel_rfl) (by kernel_rfl) rfl rfl rfl (by simp) (by omega) (by omega) (by omega) ?_
    dsimp only
    refine h_stop fun hl2 => ?_
    rw [show es ++ (chunks (q + 1) r5).map dreadE = (es ++ [dreadE (r5.take 20)]) ++ (chunks q (r5.drop 20)).map dreadE by simp [chunks]]
    refine ddec_loop hr hok q (r5.drop 20) (es ++ [dreadE (r5.take 20)]) y2 y4 _ _ _ A' c' _ _ m' _ (by simp; omega) (hr5.rest (by omega) hn5) (by omega) (by simp; omega) (ho.snoc (dreadE_ok _) ho') (by dsimp only [DPk.w, DPk.cs]; rw [List.length_append]; exact (by repeat (first | exact Pick.here | exact Pick.one | apply Pick.two | apply Pick.cons | apply Pick.app)))
theorem mod16 {n : Nat} (h : 16 ≤ n) (h2 : n < 4611686018427387904) : Int.tmod (IntKind.wrap .i64 ((n : Int) - 16)) 20 = (((n - 16) % 20 : Nat) : Int) := by
  rw [wrap64 (by omega), Int.tmod_eq_emod_of_nonneg (by omega)]
  omega
theorem RdB.seg {I : Ctx} {A : Option Addr} {n c : Nat} {l : List UInt8} (h : RdB I A n l) {i k : Nat} (hi : i + k ≤ n) (hc : n ≤ c) : RdB I (cutA A i c 1) k ((l.drop i).take k) := by
  have := h.cut (i := i) (u := i + k) (m := c) (by omega) hi hc
  rwa [show i + k - i = k by omega] at this
theorem ddecR_form {l : List UInt8} (hf : dformB l = true) (hs : be 2 (sumN (zs l)) = (l.drop 2).take 2) (h : l.length ≤ 816) : ddecR l = dfin (ddecP l) l := by
  unfold ddecR dfin
  rw [if_neg (by rw [hf]; simp), if_neg (by rw [hs]; simp), if_neg (by omega)]
theorem ddec_spec {I : Ctx} {A : Option Addr} {n c : Nat} {l : List UInt8} (hr : RdB I A n l) (hn : n ≤ c) (hbig : n ≤ 1000000) : Fn Try.prog 13 #[.slice A n c] I [] (GivesD (ddecR l)) := by
  have hln := hr.len
  refine r_dualpkt_Decode _ _ _ ?_
  (repeat ((first | ((with_reducible show holds _ _ _ _ (.sem (Instr.alloc 25 _ _) _ _) _); refine h_alloc zb_DualPacket fun _ _ _ => ?_) | ((with_reducible show holds _ _ _ _ (.rd (Instr.loadAt _ (.pointer _)) _ _) _); first | refine ldI (by repeat (first | exact mq0 | apply mq1 | apply mq2)) (by rfl) (by kernel_rfl) ?_ | refine ldL (by repeat (first | exact mq0 | apply mq1 | apply mq2)) (by rfl) (by kernel_rfl) ?_ | refine la0 (by repeat (first | exact mq0 | apply mq1 | apply mq2)) (by rfl) (by kernel_rfl) ?_) | ((with_reducible show holds _ _ _ _ (.rd (loadVar _ _) _ _) _); refine lv0 (by repeat (first | exact mq0 | apply mq1 | apply mq2)) (by rfl) (by kernel_rfl) ?_) | ((with_reducible show holds _ _ _ _ (.unit (Instr.storeAt _ _ _) _) _); refine stU (by repeat (first | exact Upd.here | apply Upd.there | apply Upd.right)) (by kernel_rfl) (by rfl) (by simp [Value.cells]) ?_) | ((with_reducible show holds _ _ _ _ (.pin (vN (Instr.loadAt _ _)) _ _) _); first | refine pnA (by repeat (first | exact mq0 | apply mq1 | apply mq2)) (by rfl) (by kernel_rfl) ?_ | refine pn1 (by repeat (first | exact mq0 | apply mq1 | apply mq2)) (by rfl) (by kernel_rfl) ?_)); try dsimp only [getL]))
  refine h_ite (fun t0 => ?_) (fun t0 => ?_)
  · rw [ddec_short (.inl (by simp at t0; omega))]
    (repeat ((first | ((with_reducible show holds _ _ _ _ (.sem (Instr.alloc 25 _ _) _ _) _); refine h_alloc zb_DualPacket fun _ _ _ => ?_) | ((with_reducible show holds _ _ _ _ (.rd (Instr.loadAt _ (.pointer _)) _ _) _); first | refine ldI (by repeat (first | exact mq0 | apply mq1 | apply mq2)) (by rfl) (by kernel_rfl) ?_ | refine ldL (by repeat (first | exact mq0 | apply mq1 | apply mq2)) (by rfl) (by kernel_rfl) ?_ | refine la0 (by repeat (first | exact mq0 | apply mq1 | apply mq2)) (by rfl) (by kernel_rfl) ?_) | ((with_reducible show holds _ _ _ _ (.rd (loadVar _ _) _ _) _); refine lv0 (by repeat (first | exact mq0 | apply mq1 | apply mq2)) (by rfl) (by kernel_rfl) ?_) | ((with_reducible show holds _ _ _ _ (.unit (Instr.storeAt _ _ _) _) _); refine stU (by repeat (first | exact Upd.here | apply Upd.there | apply Upd.right)) (by kernel_rfl) (by rfl) (by simp [Value.cells]) ?_) | ((with_reducible show holds _ _ _ _ (.pin (vN (Instr.loadAt _ _)) _ _) _); first | refine pnA (by repeat (first | exact mq0 | apply mq1 | apply mq2)) (by rfl) (by kernel_rfl) ?_ | refine pn1 (by repeat (first | exact mq0 | apply mq1 | apply mq2)) (by rfl) (by kernel_rfl) ?_)); try dsimp only [getL]))
    exact h_end0 ⟨none, 0, rfl, OwnD.nil, none7_ok⟩
  have h16 : 16 ≤ n := by simp at t0; omega
  rw [mod16 h16 (by omega)]
  refine h_ite (fun t1 => ?_) (fun t1 => ?_)
  · rw [ddec_short (.inr (.inl (by simp at t1; omega)))]
    (repeat ((first | ((with_reducible show holds _ _ _ _ (.sem (Instr.alloc 25 _ _) _ _) _); refine h_alloc zb_DualPacket fun _ _ _ => ?_) | ((with_reducible show holds _ _ _ _ (.rd (Instr.loadAt _ (.pointer _)) _ _) _); first | refine ldI (by repeat (first | exact mq0 | apply mq1 | apply mq2)) (by rfl) (by kernel_rfl) ?_ | refine ldL (by repeat (first | exact mq0 | apply mq1 | apply mq2)) (by rfl) (by kernel_rfl) ?_ | refine la0 (by repeat (first | exact mq0 | apply mq1 | apply mq2)) (by rfl) (by kernel_rfl) ?_) | ((with_reducible show holds _ _ _ _ (.rd (loadVar _ _) _ _) _); refine lv0 (by repeat (first | exact mq0 | apply mq1 | apply mq2)) (by rfl) (by kernel_rfl) ?_) | ((with_reducible show holds _ _ _ _ (.unit (Instr.storeAt _ _ _) _) _); refine stU (by repeat (first | exact Upd.here | apply Upd.there | apply Upd.right)) (by kernel_rfl) (by rfl) (by simp [Value.cells]) ?_) | ((with_reducible show holds _ _ _ _ (.pin (vN (Instr.loadAt _ _)) _ _) _); first | refine pnA (by repeat (first | exact mq0 | apply mq1 | apply mq2)) (by rfl) (by kernel_rfl) ?_ | refine pn1 (by repeat (first | exact mq0 | apply mq1 | apply mq2)) (by rfl) (by kernel_rfl) ?_)); try dsimp only [getL]))
    exact h_end0 ⟨none, 0, rfl, OwnD.nil, none7_ok⟩
  have h20 : (n - 16) % 20 = 0 := by simp at t1; omega
  have b0t := (byteAt l 0).toNat_lt
  have b1t := (byteAt l 1).toNat_lt
  obtain ⟨a, rfl, hcell⟩ := hr.cells (by omega)
  refine h_byteI (e := 5) 0 ((hcell 0 _ (byteAt_in (by omega))).sub Sub.self) (by omega) rfl (by kernel_rfl) (by kernel_rfl) (by kernel_rfl) ?_
  dsimp only
  refine h_ite (fun t2 => ?_) (fun t2 => ?_)
  · rw [ddec_short (.inr (.inr (by intro e; rw [e] at t2; simp at t2)))]
    (repeat ((first | ((with_reducible show holds _ _ _ _ (.sem (Instr.alloc 25 _ _) _ _) _); refine h_alloc zb_DualPacket fun _ _ _ => ?_) | ((with_reducible show holds _ _ _ _ (.rd (Instr.loadAt _ (.pointer _)) _ _) _); first | refine ldI (by repeat (first | exact mq0 | apply mq1 | apply mq2)) (by rfl) (by kernel_rfl) ?_ | refine ldL (by repeat (first | exact mq0 | apply mq1 | apply mq2)) (by rfl) (by kernel_rfl) ?_ | refine la0 (by repeat (first | exact mq0 | apply mq1 | apply mq2)) (by rfl) (by kernel_rfl) ?_) | ((with_reducible show holds _ _ _ _ (.rd (loadVar _ _) _ _) _); refine lv0 (by repeat (first | exact mq0 | apply mq1 | apply mq2)) (by rfl) (by kernel_rfl) ?_) | ((with_reducible show holds _ _ _ _ (.unit (Instr.storeAt _ _ _) _) _); refine stU (by repeat (first | exact Upd.here | apply Upd.there | apply Upd.right)) (by kernel_rfl) (by rfl) (by simp [Value.cells]) ?_) | ((with_reducible show holds _ _ _ _ (.pin (vN (Instr.loadAt _ _)) _ _) _); first | refine pnA (by repeat (first | exact mq0 | apply mq1 | apply mq2)) (by rfl) (by kernel_rfl) ?_ | refine pn1 (by repeat (first | exact mq0 | apply mq1 | apply mq2)) (by rfl) (by kernel_rfl) ?_)); try dsimp only [getL]))
    exact h_end0 ⟨none, 0, rfl, OwnD.nil, none7_ok⟩
  have hb0 : byteAt l 0 = 2 := by rw [← UInt8.toNat_inj]; show _ = 2; simp at t2; omega
  have hf : dformB l = true := by
    unfold dformB
    rw [decide_eq_true (by omega), decide_eq_true (by omega), hb0]
    rfl
  refine h_cut (e := 5) (sz := 1) 2 4 c (by kernel_rfl) (by kernel_rfl) rfl rfl rfl (by simp) (by omega) (by omega) (by omega) ?_
  dsimp only
  refine h_call [] _ ca_dualpkt_sum (List.Perm.refl _) (fun hl2 => dsum_spec (hr.up (Sub.self.up hl2)) (by omega) hbig) ?_
  rintro v h5 ⟨A5, c5, rfl, ho5⟩
  refine ⟨fun _ => { A := A5, n := (be 2 (sumN (zs l))).length, c := c5 }, rfl, ?_⟩
  dsimp only
  refine h_pin (rwp_vN (rw_cut (e := 5) (sz := 1) (l := 2) (u := 4) (m := c) (by kernel_rfl) (by kernel_rfl) rfl rfl rfl (by simp) (by omega) (by omega) (by omega) rfl)) ?_
  refine h_call0 (v := .bool (be 2 (sumN (zs l)) == (l.drop 2).take 2)) (fun _ => { b := be 2 (sumN (zs l)) == (l.drop 2).take 2 }) ca_slices_Equal_byte (fun hl => sleq_spec (ho5.rdb hl (fun x hx => by first | (simp [hx]; done) | (rw [List.mem_singleton] at hx; subst hx; simp; done))) ((hr.seg (i := 2) (k := 2) (by omega) hn).up (Sub.self.up hl)) (by rw [be_length]; omega)) rfl ?_
  dsimp only
  refine h_ite (fun t3 => ?_) (fun t3 => ?_)
  · rw [show ddecR l = (none7, 8) by
      unfold ddecR
      rw [if_neg (by rw [hf]; simp), if_pos (by simpa using t3)]]
    (repeat ((first | ((with_reducible show holds _ _ _ _ (.sem (Instr.alloc 25 _ _) _ _) _); refine h_alloc zb_DualPacket fun _ _ _ => ?_) | ((with_reducible show holds _ _ _ _ (.rd (Instr.loadAt _ (.pointer _)) _ _) _); first | refine ldI (by repeat (first | exact mq0 | apply mq1 | apply mq2)) (by rfl) (by kernel_rfl) ?_ | refine ldL (by repeat (first | exact mq0 | apply mq1 | apply mq2)) (by rfl) (by kernel_rfl) ?_ | refine la0 (by repeat (first | exact mq0 | apply mq1 | apply mq2)) (by rfl) (by kernel_rfl) ?_) | ((with_reducible show holds _ _ _ _ (.rd (loadVar _ _) _ _) _); refine lv0 (by repeat (first | exact mq0 | apply mq1 | apply mq2)) (by rfl) (by kernel_rfl) ?_) | ((with_reducible show holds _ _ _ _ (.unit (Instr.storeAt _ _ _) _) _); refine stU (by repeat (first | exact Upd.here | apply Upd.there | apply Upd.right)) (by kernel_rfl) (by rfl) (by simp [Value.cells]) ?_) | ((with_reducible show holds _ _ _ _ (.pin (vN (Instr.loadAt _ _)) _ _) _); first | refine pnA (by repeat (first | exact mq0 | apply mq1 | apply mq2)) (by rfl) (by kernel_rfl) ?_ | refine pn1 (by repeat (first | exact mq0 | apply mq1 | apply mq2)) (by rfl) (by kernel_rfl) ?_)); try dsimp only [getL]))
    exact h_end0 ⟨none, 0, rfl, OwnD.nil, none7_ok⟩
  have hs : be 2 (sumN (zs l)) = (l.drop 2).take 2 := by simpa using t3
  refine h_ite (fun t4 => ?_) (fun t4 => ?_)
  · rw [show ddecR l = (none7, 9) by
      unfold ddecR
      rw [if_neg (by rw [hf]; simp), if_neg (by rw [hs]; simp), if_pos (by simp at t4; omega)]]
    (repeat ((first | ((with_reducible show holds _ _ _ _ (.sem (Instr.alloc 25 _ _) _ _) _); refine h_alloc zb_DualPacket fun _ _ _ => ?_) | ((with_reducible show holds _ _ _ _ (.rd (Instr.loadAt _ (.pointer _)) _ _) _); first | refine ldI (by repeat (first | exact mq0 | apply mq1 | apply mq2)) (by rfl) (by kernel_rfl) ?_ | refine ldL (by repeat (first | exact mq0 | apply mq1 | apply mq2)) (by rfl) (by kernel_rfl) ?_ | refine la0 (by repeat (first | exact mq0 | apply mq1 | apply mq2)) (by rfl) (by kernel_rfl) ?_) | ((with_reducible show holds _ _ _ _ (.rd (loadVar _ _) _ _) _); refine lv0 (by repeat (first | exact mq0 | apply mq1 | apply mq2)) (by rfl) (by kernel_rfl) ?_) | ((with_reducible show holds _ _ _ _ (.unit (Instr.storeAt _ _ _) _) _); refine stU (by repeat (first | exact Upd.here | apply Upd.there | apply Upd.right)) (by kernel_rfl) (by rfl) (by simp [Value.cells]) ?_) | ((with_reducible show holds _ _ _ _ (.pin (vN (Instr.loadAt _ _)) _ _) _); first | refine pnA (by repeat (first | exact mq0 | apply mq1 | apply mq2)) (by rfl) (by kernel_rfl) ?_ | refine pn1 (by repeat (first | exact mq0 | apply mq1 | apply mq2)) (by rfl) (by kernel_rfl) ?_)); try dsimp only [getL]))
    exact h_end0 ⟨none, 0, rfl, OwnD.nil, none7_ok⟩
  have h816 : l.length ≤ 816 := by simp at t4; omega
  rw [ddecR_form hf hs h816]
  refine h_byteI (e := 5) 1 ((hcell 1 _ (byteAt_in (by omega))).sub Sub.self) (by omega) rfl (by kernel_rfl) (by kernel_rfl) (by kernel_rfl) ?_
  refine h_byteI (e := 5) 4 ((hcell 4 _ (byteAt_in (by omega))).sub Sub.self) (by omega) rfl (by kernel_rfl) (by kernel_rfl) (by kernel_rfl) ?_
  dsimp only
  have hb4 : ((((byteAt l 4).toNat : Nat) : Int) == 1) = (byteAt l 4 == 1) := by
    rw [Bool.eq_iff_iff]; simp only [beq_iff_eq]; rw [← UInt8.toNat_inj]; show _ ↔ _ = 1; omega
  rw [wrap64 (x := (((byteAt l 1).toNat : Nat) : Int)) (by omega), hb4]
  (repeat ((first | ((with_reducible show holds _ _ _ _ (.sem (Instr.alloc 25 _ _) _ _) _); refine h_alloc zb_DualPacket fun _ _ _ => ?_) | ((with_reducible show holds _ _ _ _ (.rd (Instr.loadAt _ (.pointer _)) _ _) _); first | refine ldI (by repeat (first | exact mq0 | apply mq1 | apply mq2)) (by rfl) (by kernel_rfl) ?_ | refine ldL (by repeat (first | exact mq0 | apply mq1 | apply mq2)) (by rfl) (by kernel_rfl) ?_ | refine la0 (by repeat (first | exact mq0 | apply mq1 | apply mq2)) (by rfl) (by kernel_rfl) ?_) | ((with_reducible show holds _ _ _ _ (.rd (loadVar _ _) _ _) _); refine lv0 (by repeat (first | exact mq0 | apply mq1 | apply mq2)) (by rfl) (by kernel_rfl) ?_) | ((with_reducible show holds _ _ _ _ (.unit (Instr.storeAt _ _ _) _) _); refine stU (by repeat (first | exact Upd.here | apply Upd.there | apply Upd.right)) (by kernel_rfl) (by rfl) (by simp [Value.cells]) ?_) | ((with_reducible show holds _ _ _ _ (.pin (vN (Instr.loadAt _ _)) _ _) _); first | refine pnA (by repeat (first | exact mq0 | apply mq1 | apply mq2)) (by rfl) (by kernel_rfl) ?_ | refine pn1 (by repeat (first | exact mq0 | apply mq1 | apply mq2)) (by rfl) (by kernel_rfl) ?_)); try dsimp only [getL]))
  refine h_call0 (getL [{ i := (num l 8 4 : Nat) }, { b := true }]) ca_num_Get32 (fun hl => get32_in (i := 8) (hr.up (Sub.self.up hl)) hn (by unfold maxLen; omega) (by omega) (by omega)) rfl ?_
  dsimp only [getL]
  (repeat ((first | ((with_reducible show holds _ _ _ _ (.sem (Instr.alloc 25 _ _) _ _) _); refine h_alloc zb_DualPacket fun _ _ _ => ?_) | ((with_reducible show holds _ _ _ _ (.rd (Instr.loadAt _ (.pointer _)) _ _) _); first | refine ldI (by repeat (first | exact mq0 | apply mq1 | apply mq2)) (by rfl) (by kernel_rfl) ?_ | refine ldL (by repeat (first | exact mq0 | apply mq1 | apply mq2)) (by rfl) (by kernel_rfl) ?_ | refine la0 (by repeat (first | exact mq0 | apply mq1 | apply mq2)) (by rfl) (by kernel_rfl) ?_) | ((with_reducible show holds _ _ _ _ (.rd (loadVar _ _) _ _) _); refine lv0 (by repeat (first | exact mq0 | apply mq1 | apply mq2)) (by rfl) (by kernel_rfl) ?_) | ((with_reducible show holds _ _ _ _ (.unit (Instr.storeAt _ _ _) _) _); refine stU (by repeat (first | exact Upd.here | apply Upd.there | apply Upd.right)) (by kernel_rfl) (by rfl) (by simp [Value.cells]) ?_) | ((with_reducible show holds _ _ _ _ (.pin (vN (Instr.loadAt _ _)) _ _) _); first | refine pnA (by repeat (first | exact mq0 | apply mq1 | apply mq2)) (by rfl) (by kernel_rfl) ?_ | refine pn1 (by repeat (first | exact mq0 | apply mq1 | apply mq2)) (by rfl) (by kernel_rfl) ?_)); try dsimp only [getL]))
  refine h_call0 (getL [{ i := (num l 12 4 : Nat) }, { b := true }]) ca_num_Get32 (fun hl => get32_in (i := 12) (hr.up (Sub.self.up hl)) hn (by unfold maxLen; omega) (by omega) (by omega)) rfl ?_
  dsimp only [getL]
  (repeat ((first | ((with_reducible show holds _ _ _ _ (.sem (Instr.alloc 25 _ _) _ _) _); refine h_alloc zb_DualPacket fun _ _ _ => ?_) | ((with_reducible show holds _ _ _ _ (.rd (Instr.loadAt _ (.pointer _)) _ _) _); first | refine ldI (by repeat (first | exact mq0 | apply mq1 | apply mq2)) (by rfl) (by kernel_rfl) ?_ | refine ldL (by repeat (first | exact mq0 | apply mq1 | apply mq2)) (by rfl) (by kernel_rfl) ?_ | refine la0 (by repeat (first | exact mq0 | apply mq1 | apply mq2)) (by rfl) (by kernel_rfl) ?_) | ((with_reducible show holds _ _ _ _ (.rd (loadVar _ _) _ _) _); refine lv0 (by repeat (first | exact mq0 | apply mq1 | apply mq2)) (by rfl) (by kernel_rfl) ?_) | ((with_reducible show holds _ _ _ _ (.unit (Instr.storeAt _ _ _) _) _); refine stU (by repeat (first | exact Upd.here | apply Upd.there | apply Upd.right)) (by kernel_rfl) (by rfl) (by simp [Value.cells]) ?_) | ((with_reducible show holds _ _ _ _ (.pin (vN (Instr.loadAt _ _)) _ _) _); first | refine pnA (by repeat (first | exact mq0 | apply mq1 | apply mq2)) (by rfl) (by kernel_rfl) ?_ | refine pn1 (by repeat (first | exact mq0 | apply mq1 | apply mq2)) (by rfl) (by kernel_rfl) ?_)); try dsimp only [getL]))
  refine h_cut (e := 5) (sz := 1) 16 n c (by kernel_rfl) (by kernel_rfl) rfl rfl rfl (by simp) (by omega) (by omega) (by omega) ?_
  dsimp only
  refine h_stop fun hl2 => ?_
  have hok : (ddecP l).ok := ⟨num_lt l 8 4, num_lt l 12 4⟩
  have hnil : ((ddecP l).w ([] ++ (chunks ((l.length - 16) / 20) (l.drop 16)).map dreadE)) = ddecP l := rfl
  rw [← hnil]
  refine ddec_one (p := ddecP l) hr hok ((l.length - 16) / 20) (l.drop 16) [] _ _ _ _ _ none 0 _ _ [] _ (by simp; omega) (hr.rest (by omega) hn) (by omega) (by simp; omega) OwnD.nil (by repeat (first | exact Pick.here | exact Pick.one | apply Pick.two | apply Pick.cons | apply Pick.app))
end Go.Proofs.YtkdakglnhipmaaaS
