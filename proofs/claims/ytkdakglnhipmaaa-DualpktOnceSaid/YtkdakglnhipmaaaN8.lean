import Derived.Test.YtkdakglnhipmaaaN7
import Derived.Test.YtkdakglnhipmaaaTA
set_option linter.unusedVariables false
namespace Go.Proofs.YtkdakglnhipmaaaS
/-- A packet. -/
structure DPk where
  code : Int
  init : Bool
  seq : Nat
  ack : Nat
  es : List DEnt
abbrev DPk.cs (p : DPk) (A : Option Addr) (c : Nat) : List Value := [.int .i64 p.code, .bool p.init, .int .u32 (p.seq : Nat), .int .u32 (p.ack : Nat), .slice A p.es.length c]
abbrev DPk.vv (p : DPk) (A : Option Addr) (c : Nat) : Value := .agg #[.int .i64 p.code, .bool p.init, .int .u32 (p.seq : Nat), .int .u32 (p.ack : Nat), .slice A p.es.length c]
structure DPk.ok (p : DPk) : Prop where
  seq : p.seq < 4294967296
  ack : p.ack < 4294967296
def dhead (p : DPk) (x : List UInt8) : List UInt8 := [2, lowB p.code] ++ (x ++ ([if p.init then 1 else 0, 0, 0, 0] ++ (be 4 p.seq ++ be 4 p.ack)))
def dencX (p : DPk) (x : List UInt8) : List UInt8 := dhead p x ++ p.es.flatMap dencE
def dencB (p : DPk) : List UInt8 := dencX p (be 2 (sumN (dencX p [0, 0])))
/-- The bytes and the error of a packet. -/
def dencR (p : DPk) : List UInt8 × Int :=
  if p.es.length > 40 then ([], 9) else if p.code < 0 ∨ p.code > 3 ∨ (p.code = 0 ∧ p.es.length > 0) ∨ p.es.all dentB = false then ([], 1) else (dencB p, 0)
abbrev GivesE (r : List UInt8 × Int) (v : Value) (h' : Mem) : Prop := ∃ A c, v = .tuple #[.slice A r.1.length c, .int .i64 r.2] ∧ OwnB A r.1.length c r.1 h'
theorem dflat_len (es : List DEnt) : (es.flatMap dencE).length = es.length * 20 := by
  induction es with
  | nil => rfl
  | cons e es ih => rw [List.flatMap_cons, List.length_append, ih, dencE_len, List.length_cons]; omega
theorem dhead_len (p : DPk) {x : List UInt8} (hx : x.length = 2) : (dhead p x).length = 16 := by simp [dhead, be_length, hx]
theorem dencX_len (p : DPk) {x : List UInt8} (hx : x.length = 2) : (dencX p x).length = 16 + 20 * p.es.length := by
  unfold dencX
  rw [List.length_append, dhead_len p hx, dflat_len]
  omega
theorem dencB_len (p : DPk) : (dencB p).length = 16 + 20 * p.es.length := dencX_len p (be_length _ _)
theorem zs_X (p : DPk) : zs (dencX p [0, 0]) = dencX p [0, 0] := rfl
theorem put_sum (p : DPk) (y : List UInt8) (hy : y.length = 2) : (dencX p [0, 0]).take 2 ++ y ++ (dencX p [0, 0]).drop (2 + y.length) = dencX p y := by
  rw [hy]
  simp [dencX, dhead]
theorem denc_loop {J : Ctx} {A : Option Addr} {c : Nat} {p : DPk} (hin : DEntsIn J A p.es) (hbd : p.es.length ≤ 40) :
    ∀ (q i : Nat) (u : Nat → Value) (h m hr : Mem) (A6 : Option Addr) (n6 c6 : Nat), i + q = p.es.length → Pick h m hr → n6 = 16 + i * 20 → OwnB A6 n6 c6 (dhead p [0, 0] ++ (p.es.take i).flatMap dencE) m →
    Wp Try.prog 10 k_dualpkt_Encode_1 (t_dualpkt_Encode_1 A p.es.length c p.es.length A6 n6 c6 i u) J h (cl_ (GivesE (dencB p, 0))) := by
  intro q
  induction q with
  | zero =>
    intro i u h m hr A6 n6 c6 hiq hp hn ho
    rw [List.take_of_length_le (by omega)] at ho
    have ho : OwnB A6 n6 c6 (dencX p [0, 0]) m := ho
    have hl := ho.len
    have hX := dencX_len p (x := [0, 0]) rfl
    obtain ⟨a, rfl⟩ : ∃ a, A6 = some a := by
      cases A6 with
      | none => have := ho.some_of rfl; omega
      | some a => exact ⟨a, rfl⟩
    have hc := ho.2.1
    refine r_dualpkt_Encode_1 _ _ _ _ _ _ _ _ _ ?_
    refine holds_perm (cl_.aff _) (g := m ++ hr) hp ?_
    refine h_no (by simp; omega) ?_
    refine h_cut (e := 5) (sz := 1) 2 n6 c6 (by kernel_rfl) (by kernel_rfl) rfl rfl rfl (by simp) (by omega) (by omega) (by omega) ?_
    dsimp only
    refine h_call [] _ ca_dualpkt_sum (List.Perm.refl _) (fun hl2 => dsum_spec (l := dencX p [0, 0]) (ho.rdb hl2 (fun x hx => by first | (simp [hx]; done) | (rw [List.mem_singleton] at hx; subst hx; simp; done))) (by omega) (by omega)) ?_
    rintro v h5 ⟨A5, c5, rfl, ho5⟩
    refine ⟨fun _ => { A := A5, n := (be 2 (sumN (zs (dencX p [0, 0])))).length, c := c5 }, rfl, ?_⟩
    dsimp only
    refine h_pin (rwp_vN (rw_cut (e := 5) (sz := 1) (l := 2) (u := n6) (m := c6) (by kernel_rfl) (by kernel_rfl) rfl rfl rfl (by simp) (by omega) (by omega) (by omega) rfl)) ?_
    rw [zs_X] at ho5 ⊢
    rw [cutA_some (show c6 ≠ 2 by omega)]
    refine h_copy (o := 2) (m := m) (hr := h5 ++ hr) eb_uint8 (cl_.aff _) (by repeat (first | exact Pick.here | exact Pick.one | apply Pick.two | apply Pick.cons | apply Pick.app)) ho rfl (ho5.rd (fun x hx => by first | (simp [hx]; done) | (rw [List.mem_singleton] at hx; subst hx; simp; done))) ho5.some_of (by simp) (by rw [be_length]; omega) (bC_plain _) ?_
    intro m' ho'
    refine h_end (h1 := m') (by repeat (first | exact Pick.here | exact Pick.one | apply Pick.two | apply Pick.cons | apply Pick.app)) ⟨some a, c6, ?_, ?_⟩
    · rw [dencB_len, ← hX, hl]
    · rw [List.take_of_length_le (by rw [bC_length, be_length]; omega), wr_bytes, put_sum _ _ (be_length _ _)] at ho'
      rw [dencB_len, ← hX, hl]
      exact ho'
  | succ q ih =>
    intro i u h m hr A6 n6 c6 hiq hp hn ho
    have hi : i < p.es.length := by omega
    obtain ⟨a, rfl, hok, hc⟩ := hin.get hi
    have htk : p.es.take (i + 1) = p.es.take i ++ [p.es[i]] := List.take_succ_eq_append_getElem hi
    refine r_dualpkt_Encode_1 _ _ _ _ _ _ _ _ _ ?_
    refine holds_perm (cl_.aff _) (g := m ++ hr) hp ?_
    refine h_yes (by simp; omega) ?_
    refine h_index a rfl (sz := 6) (by kernel_rfl) (by omega) (by omega) rfl ?_
    dsimp only
    rw [Int.toNat_natCast]
    refine h_loadA (cs := p.es[i].cs) p.es[i].ls (by kernel_rfl) (by kernel_rfl) (hc.sub Sub.self) rfl ?_
    dsimp only [getL, DEnt.ls]
    (repeat ((first | refine h_box fun _ _ _ => ?_ | ((with_reducible show holds _ _ _ _ (.sem (Instr.alloc 43 _ _) _ _) _); refine h_alloc zb_DualEntry_43 fun _ _ _ => ?_) | ((with_reducible show holds _ _ _ _ (.rd (Instr.loadAt _ (.pointer _)) _ _) _); first | refine ldI (by repeat (first | exact mq0 | apply mq1 | apply mq2)) (by rfl) (by kernel_rfl) ?_ | refine ldL (by repeat (first | exact mq0 | apply mq1 | apply mq2)) (by rfl) (by kernel_rfl) ?_ | refine ldB (by repeat (first | exact mq0 | apply mq1 | apply mq2)) (by rfl) (by kernel_rfl) ?_ | refine la3 (by repeat (first | exact mq0 | apply mq1 | apply mq2)) (by rfl) (by kernel_rfl) ?_) | ((with_reducible show holds _ _ _ _ (.unit (Instr.storeAt _ _ _) _) _); refine stU (by repeat (first | exact Upd.here | apply Upd.there | apply Upd.right)) (by kernel_rfl) (by rfl) (by simp [Value.cells]) ?_) | ((with_reducible show holds _ _ _ _ (.pin (vN (Instr.loadAt _ _)) _ _) _); first | refine pnA (by repeat (first | exact mq0 | apply mq1 | apply mq2)) (by rfl) (by kernel_rfl) ?_ | refine pn1 (by repeat (first | exact mq0 | apply mq1 | apply mq2)) (by rfl) (by kernel_rfl) ?_)); try dsimp only [getL]))
    refine h_call [] _ ca_dualpkt_put (List.Perm.refl _) (fun hl => dput_spec hok) ?_
    rintro v h1 ⟨A1, c1, rfl, ho1⟩
    refine ⟨fun _ => { A := A1, n := (dencE p.es[i]).length, c := c1 }, rfl, ?_⟩
    dsimp only
    have hel := dencE_len p.es[i]
    refine h_append (cl_.aff _) eb_uint8 (by kernel_rfl) (ho1.rd (fun x hx => by first | (simp [hx]; done) | (rw [List.mem_singleton] at hx; subst hx; simp; done))) ho1.some_of (by simp) (bC_plain _) (m := m) (by repeat (first | exact Pick.here | exact Pick.one | apply Pick.two | apply Pick.cons | apply Pick.app)) ho (by omega) (by omega) ?_
    intro A' c' m' ho'
    refine h_stop fun hl => ?_
    dsimp only
    rw [wrapS (by omega)]
    refine ih (i + 1) _ _ m' _ A' _ c' (by omega) (by repeat (first | exact Pick.here | exact Pick.one | apply Pick.two | apply Pick.cons | apply Pick.app)) (by omega) ?_
    rw [← bC_append] at ho'
    rw [htk, List.flatMap_append, ← List.append_assoc, show [p.es[i]].flatMap dencE = dencE p.es[i] by simp]
    exact ho'
theorem dencode_spec {J : Ctx} {A : Option Addr} {c : Nat} {p : DPk} (hin : DEntsIn J A p.es) (hp : p.ok) : Fn Try.prog 10 #[p.vv A c] J [] (GivesE (dencR p)) := by
  refine r_dualpkt_Encode _ _ _ _ _ _ _ ?_
  (repeat ((first | refine h_box fun _ _ _ => ?_ | ((with_reducible show holds _ _ _ _ (.sem (Instr.alloc 43 _ _) _ _) _); refine h_alloc zb_DualEntry_43 fun _ _ _ => ?_) | ((with_reducible show holds _ _ _ _ (.rd (Instr.loadAt _ (.pointer _)) _ _) _); first | refine ldI (by repeat (first | exact mq0 | apply mq1 | apply mq2)) (by rfl) (by kernel_rfl) ?_ | refine ldL (by repeat (first | exact mq0 | apply mq1 | apply mq2)) (by rfl) (by kernel_rfl) ?_ | refine ldB (by repeat (first | exact mq0 | apply mq1 | apply mq2)) (by rfl) (by kernel_rfl) ?_ | refine la3 (by repeat (first | exact mq0 | apply mq1 | apply mq2)) (by rfl) (by kernel_rfl) ?_) | ((with_reducible show holds _ _ _ _ (.unit (Instr.storeAt _ _ _) _) _); refine stU (by repeat (first | exact Upd.here | apply Upd.there | apply Upd.right)) (by kernel_rfl) (by rfl) (by simp [Value.cells]) ?_) | ((with_reducible show holds _ _ _ _ (.pin (vN (Instr.loadAt _ _)) _ _) _); first | refine pnA (by repeat (first | exact mq0 | apply mq1 | apply mq2)) (by rfl) (by kernel_rfl) ?_ | refine pn1 (by repeat (first | exact mq0 | apply mq1 | apply mq2)) (by rfl) (by kernel_rfl) ?_)); try dsimp only [getL]))
  refine h_ite (fun t1 => ?_) (fun t1 => ?_)
  · rw [show dencR p = ([], 9) by unfold dencR; rw [if_pos (by simp at t1; omega)]]
    exact h_end0 ⟨none, 0, rfl, Own.nil _ _⟩
  have h40 : p.es.length ≤ 40 := by simp at t1; omega
  have bad : ∀ {h : Mem}, (p.code < 0 ∨ p.code > 3 ∨ (p.code = 0 ∧ p.es.length > 0) ∨ p.es.all dentB = false) → holds Try.prog 10 J (cl_ (GivesE (dencR p))) (.done (.tuple #[.slice none 0 0, .int .i64 1])) h := by
    intro h hb
    rw [show dencR p = ([], 1) by unfold dencR; rw [if_neg (by omega), if_pos hb]]
    exact h_end0 ⟨none, 0, rfl, Own.nil _ _⟩
  (repeat ((first | refine h_box fun _ _ _ => ?_ | ((with_reducible show holds _ _ _ _ (.sem (Instr.alloc 43 _ _) _ _) _); refine h_alloc zb_DualEntry_43 fun _ _ _ => ?_) | ((with_reducible show holds _ _ _ _ (.rd (Instr.loadAt _ (.pointer _)) _ _) _); first | refine ldI (by repeat (first | exact mq0 | apply mq1 | apply mq2)) (by rfl) (by kernel_rfl) ?_ | refine ldL (by repeat (first | exact mq0 | apply mq1 | apply mq2)) (by rfl) (by kernel_rfl) ?_ | refine ldB (by repeat (first | exact mq0 | apply mq1 | apply mq2)) (by rfl) (by kernel_rfl) ?_ | refine la3 (by repeat (first | exact mq0 | apply mq1 | apply mq2)) (by rfl) (by kernel_rfl) ?_) | ((with_reducible show holds _ _ _ _ (.unit (Instr.storeAt _ _ _) _) _); refine stU (by repeat (first | exact Upd.here | apply Upd.there | apply Upd.right)) (by kernel_rfl) (by rfl) (by simp [Value.cells]) ?_) | ((with_reducible show holds _ _ _ _ (.pin (vN (Instr.loadAt _ _)) _ _) _); first | refine pnA (by repeat (first | exact mq0 | apply mq1 | apply mq2)) (by rfl) (by kernel_rfl) ?_ | refine pn1 (by repeat (first | exact mq0 | apply mq1 | apply mq2)) (by rfl) (by kernel_rfl) ?_)); try dsimp only [getL]))
  refine h_ite (fun t2 => bad (.inl (by simpa using t2))) (fun t2 => ?_)
  have hc0 : 0 ≤ p.code := by simp at t2; omega
  (repeat ((first | refine h_box fun _ _ _ => ?_ | ((with_reducible show holds _ _ _ _ (.sem (Instr.alloc 43 _ _) _ _) _); refine h_alloc zb_DualEntry_43 fun _ _ _ => ?_) | ((with_reducible show holds _ _ _ _ (.rd (Instr.loadAt _ (.pointer _)) _ _) _); first | refine ldI (by repeat (first | exact mq0 | apply mq1 | apply mq2)) (by rfl) (by kernel_rfl) ?_ | refine ldL (by repeat (first | exact mq0 | apply mq1 | apply mq2)) (by rfl) (by kernel_rfl) ?_ | refine ldB (by repeat (first | exact mq0 | apply mq1 | apply mq2)) (by rfl) (by kernel_rfl) ?_ | refine la3 (by repeat (first | exact mq0 | apply mq1 | apply mq2)) (by rfl) (by kernel_rfl) ?_) | ((with_reducible show holds _ _ _ _ (.unit (Instr.storeAt _ _ _) _) _); refine stU (by repeat (first | exact Upd.here | apply Upd.there | apply Upd.right)) (by kernel_rfl) (by rfl) (by simp [Value.cells]) ?_) | ((with_reducible show holds _ _ _ _ (.pin (vN (Instr.loadAt _ _)) _ _) _); first | refine pnA (by repeat (first | exact mq0 | apply mq1 | apply mq2)) (by rfl) (by kernel_rfl) ?_ | refine pn1 (by repeat (first | exact mq0 | apply mq1 | apply mq2)) (by rfl) (by kernel_rfl) ?_)); try dsimp only [getL]))
  refine h_ite (fun t3 => ?_) (fun t3 => ?_)
  · exact h_yes t3 (bad (.inr (.inl (by simpa using t3))))
  have hc3 : p.code ≤ 3 := by simp at t3; omega
  (repeat ((first | refine h_box fun _ _ _ => ?_ | ((with_reducible show holds _ _ _ _ (.sem (Instr.alloc 43 _ _) _ _) _); refine h_alloc zb_DualEntry_43 fun _ _ _ => ?_) | ((with_reducible show holds _ _ _ _ (.rd (Instr.loadAt _ (.pointer _)) _ _) _); first | refine ldI (by repeat (first | exact mq0 | apply mq1 | apply mq2)) (by rfl) (by kernel_rfl) ?_ | refine ldL (by repeat (first | exact mq0 | apply mq1 | apply mq2)) (by rfl) (by kernel_rfl) ?_ | refine ldB (by repeat (first | exact mq0 | apply mq1 | apply mq2)) (by rfl) (by kernel_rfl) ?_ | refine la3 (by repeat (first | exact mq0 | apply mq1 | apply mq2)) (by rfl) (by kernel_rfl) ?_) | ((with_reducible show holds _ _ _ _ (.unit (Instr.storeAt _ _ _) _) _); refine stU (by repeat (first | exact Upd.here | apply Upd.there | apply Upd.right)) (by kernel_rfl) (by rfl) (by simp [Value.cells]) ?_) | ((with_reducible show holds _ _ _ _ (.pin (vN (Instr.loadAt _ _)) _ _) _); first | refine pnA (by repeat (first | exact mq0 | apply mq1 | apply mq2)) (by rfl) (by kernel_rfl) ?_ | refine pn1 (by repeat (first | exact mq0 | apply mq1 | apply mq2)) (by rfl) (by kernel_rfl) ?_)); try dsimp only [getL]))
  refine h_ite (fun t4 => ?_) (fun t4 => ?_)
  · have h0 : p.code = 0 := by simpa using t4
    (repeat ((first | refine h_box fun _ _ _ => ?_ | ((with_reducible show holds _ _ _ _ (.sem (Instr.alloc 43 _ _) _ _) _); refine h_alloc zb_DualEntry_43 fun _ _ _ => ?_) | ((with_reducible show holds _ _ _ _ (.rd (Instr.loadAt _ (.pointer _)) _ _) _); first | refine ldI (by repeat (first | exact mq0 | apply mq1 | apply mq2)) (by rfl) (by kernel_rfl) ?_ | refine ldL (by repeat (first | exact mq0 | apply mq1 | apply mq2)) (by rfl) (by kernel_rfl) ?_ | refine ldB (by repeat (first | exact mq0 | apply mq1 | apply mq2)) (by rfl) (by kernel_rfl) ?_ | refine la3 (by repeat (first | exact mq0 | apply mq1 | apply mq2)) (by rfl) (by kernel_rfl) ?_) | ((with_reducible show holds _ _ _ _ (.unit (Instr.storeAt _ _ _) _) _); refine stU (by repeat (first | exact Upd.here | apply Upd.there | apply Upd.right)) (by kernel_rfl) (by rfl) (by simp [Value.cells]) ?_) | ((with_reducible show holds _ _ _ _ (.pin (vN (Instr.loadAt _ _)) _ _) _); first | refine pnA (by repeat (first | exact mq0 | apply mq1 | apply mq2)) (by rfl) (by kernel_rfl) ?_ | refine pn1 (by repeat (first | exact mq0 | apply mq1 | apply mq2)) (by rfl) (by kernel_rfl) ?_)); try dsimp only [getL]))
    refine h_ite (fun t6 => ?_) (fun t6 => ?_)
    · exact h_yes t6 (bad (.inr (.inr (.inl ⟨h0, by simp at t6; omega⟩))))
    have hn0 : p.es.length = 0 := by simp at t6; simp [t6]
    (repeat ((first | refine h_box fun _ _ _ => ?_ | ((with_reducible show holds _ _ _ _ (.sem (Instr.alloc 43 _ _) _ _) _); refine h_alloc zb_DualEntry_43 fun _ _ _ => ?_) | ((with_reducible show holds _ _ _ _ (.rd (Instr.loadAt _ (.pointer _)) _ _) _); first | refine ldI (by repeat (first | exact mq0 | apply mq1 | apply mq2)) (by rfl) (by kernel_rfl) ?_ | refine ldL (by repeat (first | exact mq0 | apply mq1 | apply mq2)) (by rfl) (by kernel_rfl) ?_ | refine ldB (by repeat (first | exact mq0 | apply mq1 | apply mq2)) (by rfl) (by kernel_rfl) ?_ | refine la3 (by repeat (first | exact mq0 | apply mq1 | apply mq2)) (by rfl) (by kernel_rfl) ?_) | ((with_reducible show holds _ _ _ _ (.unit (Instr.storeAt _ _ _) _) _); refine stU (by repeat (first | exact Upd.here | apply Upd.there | apply Upd.right)) (by kernel_rfl) (by rfl) (by simp [Value.cells]) ?_) | ((with_reducible show holds _ _ _ _ (.pin (vN (Instr.loadAt _ _)) _ _) _); first | refine pnA (by repeat (first | exact mq0 | apply mq1 | apply mq2)) (by rfl) (by kernel_rfl) ?_ | refine pn1 (by repeat (first | exact mq0 | apply mq1 | apply mq2)) (by rfl) (by kernel_rfl) ?_)); try dsimp only [getL]))
    refine h_call0 (v := .bool (!p.es.all dentB)) (fun _ => { b := !p.es.all dentB }) ca_slices_ContainsFunc_DualEntry (fun hl => dodds_spec (hin.up (Sub.self.up hl)) (by omega)) rfl ?_
    dsimp only
    refine h_ite (fun t5 => ?_) (fun t5 => ?_)
    · exact bad (.inr (.inr (.inr (by simpa using t5))))
    have ha : p.es.all dentB = true := by simpa using t5
    rw [show dencR p = (dencB p, 0) by
      unfold dencR
      rw [if_neg (by omega), if_neg (by
        rintro (h | h | h | h)
        · omega
        · omega
        · omega
        · rw [ha] at h; cases h)]]
    (repeat ((first | refine h_box fun _ _ _ => ?_ | ((with_reducible show holds _ _ _ _ (.sem (Instr.alloc 43 _ _) _ _) _); refine h_alloc zb_DualEntry_43 fun _ _ _ => ?_) | ((with_reducible show holds _ _ _ _ (.rd (Instr.loadAt _ (.pointer _)) _ _) _); first | refine ldI (by repeat (first | exact mq0 | apply mq1 | apply mq2)) (by rfl) (by kernel_rfl) ?_ | refine ldL (by repeat (first | exact mq0 | apply mq1 | apply mq2)) (by rfl) (by kernel_rfl) ?_ | refine ldB (by repeat (first | exact mq0 | apply mq1 | apply mq2)) (by rfl) (by kernel_rfl) ?_ | refine la3 (by repeat (first | exact mq0 | apply mq1 | apply mq2)) (by rfl) (by kernel_rfl) ?_) | ((with_reducible show holds _ _ _ _ (.unit (Instr.storeAt _ _ _) _) _); refine stU (by repeat (first | exact Upd.here | apply Upd.there | apply Upd.right)) (by kernel_rfl) (by rfl) (by simp [Value.cells]) ?_) | ((with_reducible show holds _ _ _ _ (.pin (vN (Instr.loadAt _ _)) _ _) _); first | refine pnA (by repeat (first | exact mq0 | apply mq1 | apply mq2)) (by rfl) (by kernel_rfl) ?_ | refine pn1 (by repeat (first | exact mq0 | apply mq1 | apply mq2)) (by rfl) (by kernel_rfl) ?_)); try dsimp only [getL]))
    refine h_ite (fun hini => ?_) (fun hini => ?_)
    · have hini : p.init = true := hini
      (repeat ((first | refine h_box fun _ _ _ => ?_ | ((with_reducible show holds _ _ _ _ (.sem (Instr.alloc 43 _ _) _ _) _); refine h_alloc zb_DualEntry_43 fun _ _ _ => ?_) | ((with_reducible show holds _ _ _ _ (.rd (Instr.loadAt _ (.pointer _)) _ _) _); first | refine ldI (by repeat (first | exact mq0 | apply mq1 | apply mq2)) (by rfl) (by kernel_rfl) ?_ | refine ldL (by repeat (first | exact mq0 | apply mq1 | apply mq2)) (by rfl) (by kernel_rfl) ?_ | refine ldB (by repeat (first | exact mq0 | apply mq1 | apply mq2)) (by rfl) (by kernel_rfl) ?_ | refine la3 (by repeat (first | exact mq0 | apply mq1 | apply mq2)) (by rfl) (by kernel_rfl) ?_) | ((with_reducible show holds _ _ _ _ (.unit (Instr.storeAt _ _ _) _) _); refine stU (by repeat (first | exact Upd.here | apply Upd.there | apply Upd.right)) (by kernel_rfl) (by rfl) (by simp [Value.cells]) ?_) | ((with_reducible show holds _ _ _ _ (.pin (vN (Instr.loadAt _ _)) _ _) _); first | refine pnA (by repeat (first | exact mq0 | apply mq1 | apply mq2)) (by rfl) (by kernel_rfl) ?_ | refine pn1 (by repeat (first | exact mq0 | apply mq1 | apply mq2)) (by rfl) (by kernel_rfl) ?_)); try dsimp only [getL]))
      simp only [wrap8b]
      refine h_call [] _ ca_num_Put32 (List.Perm.refl _) (fun hl => Put32_spec hp.seq) ?_
      rintro v h1 ⟨A1, c1, rfl, ho1⟩
      refine ⟨fun _ => { A := A1, n := (be 4 p.seq).length, c := c1 }, rfl, ?_⟩
      dsimp only
      (repeat ((first | refine h_box fun _ _ _ => ?_ | ((with_reducible show holds _ _ _ _ (.sem (Instr.alloc 43 _ _) _ _) _); refine h_alloc zb_DualEntry_43 fun _ _ _ => ?_) | ((with_reducible show holds _ _ _ _ (.rd (Instr.loadAt _ (.pointer _)) _ _) _); first | refine ldI (by repeat (first | exact mq0 | apply mq1 | apply mq2)) (by rfl) (by kernel_rfl) ?_ | refine ldL (by repeat (first | exact mq0 | apply mq1 | apply mq2)) (by rfl) (by kernel_rfl) ?_ | refine ldB (by repeat (first | exact mq0 | apply mq1 | apply mq2)) (by rfl) (by kernel_rfl) ?_ | refine la3 (by repeat (first | exact mq0 | apply mq1 | apply mq2)) (by rfl) (by kernel_rfl) ?_) | ((with_reducible show holds _ _ _ _ (.unit (Instr.storeAt _ _ _) _) _); refine stU (by repeat (first | exact Upd.here | apply Upd.there | apply Upd.right)) (by kernel_rfl) (by rfl) (by simp [Value.cells]) ?_) | ((with_reducible show holds _ _ _ _ (.pin (vN (Instr.loadAt _ _)) _ _) _); first | refine pnA (by repeat (first | exact mq0 | apply mq1 | apply mq2)) (by rfl) (by kernel_rfl) ?_ | refine pn1 (by repeat (first | exact mq0 | apply mq1 | apply mq2)) (by rfl) (by kernel_rfl) ?_)); try dsimp only [getL]))
      refine h_call [] _ ca_num_Put32 (List.Perm.refl _) (fun hl => Put32_spec hp.ack) ?_
      rintro v h2 ⟨A2, c2, rfl, ho2⟩
      refine ⟨fun _ => { A := A2, n := (be 4 p.ack).length, c := c2 }, rfl, ?_⟩
      dsimp only
      (repeat ((first | refine h_box fun _ _ _ => ?_ | ((with_reducible show holds _ _ _ _ (.sem (Instr.alloc 43 _ _) _ _) _); refine h_alloc zb_DualEntry_43 fun _ _ _ => ?_) | ((with_reducible show holds _ _ _ _ (.rd (Instr.loadAt _ (.pointer _)) _ _) _); first | refine ldI (by repeat (first | exact mq0 | apply mq1 | apply mq2)) (by rfl) (by kernel_rfl) ?_ | refine ldL (by repeat (first | exact mq0 | apply mq1 | apply mq2)) (by rfl) (by kernel_rfl) ?_ | refine ldB (by repeat (first | exact mq0 | apply mq1 | apply mq2)) (by rfl) (by kernel_rfl) ?_ | refine la3 (by repeat (first | exact mq0 | apply mq1 | apply mq2)) (by rfl) (by kernel_rfl) ?_) | ((with_reducible show holds _ _ _ _ (.unit (Instr.storeAt _ _ _) _) _); refine stU (by repeat (first | exact Upd.here | apply Upd.there | apply Upd.right)) (by kernel_rfl) (by rfl) (by simp [Value.cells]) ?_) | ((with_reducible show holds _ _ _ _ (.pin (vN (Instr.loadAt _ _)) _ _) _); first | refine pnA (by repeat (first | exact mq0 | apply mq1 | apply mq2)) (by rfl) (by kernel_rfl) ?_ | refine pn1 (by repeat (first | exact mq0 | apply mq1 | apply mq2)) (by rfl) (by kernel_rfl) ?_)); try dsimp only [getL]))
      refine h_row (e := 5) #[.int .u8 2, .int .u8 ((lowB p.code).toNat : Int), .int .u8 0, .int .u8 0, .int .u8 1, .int .u8 0, .int .u8 0, .int .u8 0] (by kernel_rfl) fun g6 hg6 hI6 => ?_
      dsimp only
      refine h_row (e := 27) #[.slice (some ⟨g6, 0, none⟩) 8 8, .slice A1 (be 4 p.seq).length c1, .slice A2 (be 4 p.ack).length c2] (by kernel_rfl) fun g7 hg7 hI7 => ?_
      dsimp only
      refine h_call [] _ ca_slices_Concat_byte (List.Perm.refl _) (fun hl => concat_spec (ls := [[2, lowB p.code, 0, 0, 1, 0, 0, 0], be 4 p.seq, be 4 p.ack])
        (cs := [.slice (some ⟨g6, 0, none⟩) 8 8, .slice A1 (be 4 p.seq).length c1, .slice A2 (be 4 p.ack).length c2])
        (RdC.all hl (fun _ => ⟨_, rfl, cellsM' (by repeat (first | exact mq0 | apply mq1 | apply mq2)) rfl⟩)) ?_ (by simp [total]) (by simp)) ?_
      · have own6 : OwnB (some ⟨g6, 0, none⟩) 8 8 [2, lowB p.code, 0, 0, 1, 0, 0, 0] [(g6, .cells #[.int .u8 2, .int .u8 ((lowB p.code).toNat : Int), .int .u8 0, .int .u8 0, .int .u8 1, .int .u8 0, .int .u8 0, .int .u8 0] 5 (0, 0))] := Own.row (n := 8) rfl
        exact ⟨_, _, rfl, ⟨_, 8, rfl, own6.rdb hl (fun x hx => by first | (simp [hx]; done) | (rw [List.mem_singleton] at hx; subst hx; simp; done))⟩, _, _, rfl, ⟨_, _, rfl, ho1.rdb hl (fun x hx => by first | (simp [hx]; done) | (rw [List.mem_singleton] at hx; subst hx; simp; done))⟩, _, _, rfl, ⟨_, _, rfl, ho2.rdb hl (fun x hx => by first | (simp [hx]; done) | (rw [List.mem_singleton] at hx; subst hx; simp; done))⟩, rfl⟩
      rintro v h8 ⟨A8, c8, rfl, ho8⟩
      have hf : [[2, lowB p.code, 0, 0, 1, 0, 0, 0], be 4 p.seq, be 4 p.ack].flatten = dhead p [0, 0] := by
        have hib : (if p.init then (1 : UInt8) else 0) = 1 := by rw [hini]; rfl
        simp [dhead, hib]
      rw [hf] at ho8 ⊢
      refine ⟨fun _ => { A := A8, n := (dhead p [0, 0]).length, c := c8 }, rfl, ?_⟩
      dsimp only
      (repeat ((first | refine h_box fun _ _ _ => ?_ | ((with_reducible show holds _ _ _ _ (.sem (Instr.alloc 43 _ _) _ _) _); refine h_alloc zb_DualEntry_43 fun _ _ _ => ?_) | ((with_reducible show holds _ _ _ _ (.rd (Instr.loadAt _ (.pointer _)) _ _) _); first | refine ldI (by repeat (first | exact mq0 | apply mq1 | apply mq2)) (by rfl) (by kernel_rfl) ?_ | refine ldL (by repeat (first | exact mq0 | apply mq1 | apply mq2)) (by rfl) (by kernel_rfl) ?_ | refine ldB (by repeat (first | exact mq0 | apply mq1 | apply mq2)) (by rfl) (by kernel_rfl) ?_ | refine la3 (by repeat (first | exact mq0 | apply mq1 | apply mq2)) (by rfl) (by kernel_rfl) ?_) | ((with_reducible show holds _ _ _ _ (.unit (Instr.storeAt _ _ _) _) _); refine stU (by repeat (first | exact Upd.here | apply Upd.there | apply Upd.right)) (by kernel_rfl) (by rfl) (by simp [Value.cells]) ?_) | ((with_reducible show holds _ _ _ _ (.pin (vN (Instr.loadAt _ _)) _ _) _); first | refine pnA (by repeat (first | exact mq0 | apply mq1 | apply mq2)) (by rfl) (by kernel_rfl) ?_ | refine pn1 (by repeat (first | exact mq0 | apply mq1 | apply mq2)) (by rfl) (by kernel_rfl) ?_)); try dsimp only [getL]))
      refine h_stop fun hl => ?_
      refine denc_loop (p := p) hin h40 p.es.length 0 _ _ h8 _ A8 _ c8 (by omega) (by repeat (first | exact Pick.here | exact Pick.one | apply Pick.two | apply Pick.cons | apply Pick.app)) (dhead_len p rfl) ?_
      simpa using ho8
    · have hini : p.init = false := hini
      (repeat ((first | refine h_box fun _ _ _ => ?_ | ((with_reducible show holds _ _ _ _ (.sem (Instr.alloc 43 _ _) _ _) _); refine h_alloc zb_DualEntry_43 fun _ _ _ => ?_) | ((with_reducible show holds _ _ _ _ (.rd (Instr.loadAt _ (.pointer _)) _ _) _); first | refine ldI (by repeat (first | exact mq0 | apply mq1 | apply mq2)) (by rfl) (by kernel_rfl) ?_ | refine ldL (by repeat (first | exact mq0 | apply mq1 | apply mq2)) (by rfl) (by kernel_rfl) ?_ | refine ldB (by repeat (first | exact mq0 | apply mq1 | apply mq2)) (by rfl) (by kernel_rfl) ?_ | refine la3 (by repeat (first | exact mq0 | apply mq1 | apply mq2)) (by rfl) (by kernel_rfl) ?_) | ((with_reducible show holds _ _ _ _ (.unit (Instr.storeAt _ _ _) _) _); refine stU (by repeat (first | exact Upd.here | apply Upd.there | apply Upd.right)) (by kernel_rfl) (by rfl) (by simp [Value.cells]) ?_) | ((with_reducible show holds _ _ _ _ (.pin (vN (Instr.loadAt _ _)) _ _) _); first | refine pnA (by repeat (first | exact mq0 | apply mq1 | apply mq2)) (by rfl) (by kernel_rfl) ?_ | refine pn1 (by repeat (first | exact mq0 | apply mq1 | apply mq2)) (by rfl) (by kernel_rfl) ?_)); try dsimp only [getL]))
      simp only [wrap8b]
      refine h_call [] _ ca_num_Put32 (List.Perm.refl _) (fun hl => Put32_spec hp.seq) ?_
      rintro v h1 ⟨A1, c1, rfl, ho1⟩
      refine ⟨fun _ => { A := A1, n := (be 4 p.seq).length, c := c1 }, rfl, ?_⟩
      dsimp only
      (repeat ((first | refine h_box fun _ _ _ => ?_ | ((with_reducible show holds _ _ _ _ (.sem (Instr.alloc 43 _ _) _ _) _); refine h_alloc zb_DualEntry_43 fun _ _ _ => ?_) | ((with_reducible show holds _ _ _ _ (.rd (Instr.loadAt _ (.pointer _)) _ _) _); first | refine ldI (by repeat (first | exact mq0 | apply mq1 | apply mq2)) (by rfl) (by kernel_rfl) ?_ | refine ldL (by repeat (first | exact mq0 | apply mq1 | apply mq2)) (by rfl) (by kernel_rfl) ?_ | refine ldB (by repeat (first | exact mq0 | apply mq1 | apply mq2)) (by rfl) (by kernel_rfl) ?_ | refine la3 (by repeat (first | exact mq0 | apply mq1 | apply mq2)) (by rfl) (by kernel_rfl) ?_) | ((with_reducible show holds _ _ _ _ (.unit (Instr.storeAt _ _ _) _) _); refine stU (by repeat (first | exact Upd.here | apply Upd.there | apply Upd.right)) (by kernel_rfl) (by rfl) (by simp [Value.cells]) ?_) | ((with_reducible show holds _ _ _ _ (.pin (vN (Instr.loadAt _ _)) _ _) _); first | refine pnA (by repeat (first | exact mq0 | apply mq1 | apply mq2)) (by rfl) (by kernel_rfl) ?_ | refine pn1 (by repeat (first | exact mq0 | apply mq1 | apply mq2)) (by rfl) (by kernel_rfl) ?_)); try dsimp only [getL]))
      refine h_call [] _ ca_num_Put32 (List.Perm.refl _) (fun hl => Put32_spec hp.ack) ?_
      rintro v h2 ⟨A2, c2, rfl, ho2⟩
      refine ⟨fun _ => { A := A2, n := (be 4 p.ack).length, c := c2 }, rfl, ?_⟩
      dsimp only
      (repeat ((first | refine h_box fun _ _ _ => ?_ | ((with_reducible show holds _ _ _ _ (.sem (Instr.alloc 43 _ _) _ _) _); refine h_alloc zb_DualEntry_43 fun _ _ _ => ?_) | ((with_reducible show holds _ _ _ _ (.rd (Instr.loadAt _ (.pointer _)) _ _) _); first | refine ldI (by repeat (first | exact mq0 | apply mq1 | apply mq2)) (by rfl) (by kernel_rfl) ?_ | refine ldL (by repeat (first | exact mq0 | apply mq1 | apply mq2)) (by rfl) (by kernel_rfl) ?_ | refine ldB (by repeat (first | exact mq0 | apply mq1 | apply mq2)) (by rfl) (by kernel_rfl) ?_ | refine la3 (by repeat (first | exact mq0 | apply mq1 | apply mq2)) (by rfl) (by kernel_rfl) ?_) | ((with_reducible show holds _ _ _ _ (.unit (Instr.storeAt _ _ _) _) _); refine stU (by repeat (first | exact Upd.here | apply Upd.there | apply Upd.right)) (by kernel_rfl) (by rfl) (by simp [Value.cells]) ?_) | ((with_reducible show holds _ _ _ _ (.pin (vN (Instr.loadAt _ _)) _ _) _); first | refine pnA (by repeat (first | exact mq0 | apply mq1 | apply mq2)) (by rfl) (by kernel_rfl) ?_ | refine pn1 (by repeat (first | exact mq0 | apply mq1 | apply mq2)) (by rfl) (by kernel_rfl) ?_)); try dsimp only [getL]))
      refine h_row (e := 5) #[.int .u8 2, .int .u8 ((lowB p.code).toNat : Int), .int .u8 0, .int .u8 0, .int .u8 0, .int .u8 0, .int .u8 0, .int .u8 0] (by kernel_rfl) fun g6 hg6 hI6 => ?_
      dsimp only
      refine h_row (e := 27) #[.slice (some ⟨g6, 0, none⟩) 8 8, .slice A1 (be 4 p.seq).length c1, .slice A2 (be 4 p.ack).length c2] (by kernel_rfl) fun g7 hg7 hI7 => ?_
      dsimp only
      refine h_call [] _ ca_slices_Concat_byte (List.Perm.refl _) (fun hl => concat_spec (ls := [[2, lowB p.code, 0, 0, 0, 0, 0, 0], be 4 p.seq, be 4 p.ack])
        (cs := [.slice (some ⟨g6, 0, none⟩) 8 8, .slice A1 (be 4 p.seq).length c1, .slice A2 (be 4 p.ack).length c2])
        (RdC.all hl (fun _ => ⟨_, rfl, cellsM' (by repeat (first | exact mq0 | apply mq1 | apply mq2)) rfl⟩)) ?_ (by simp [total]) (by simp)) ?_
      · have own6 : OwnB (some ⟨g6, 0, none⟩) 8 8 [2, lowB p.code, 0, 0, 0, 0, 0, 0] [(g6, .cells #[.int .u8 2, .int .u8 ((lowB p.code).toNat : Int), .int .u8 0, .int .u8 0, .int .u8 0, .int .u8 0, .int .u8 0, .int .u8 0] 5 (0, 0))] := Own.row (n := 8) rfl
        exact ⟨_, _, rfl, ⟨_, 8, rfl, own6.rdb hl (fun x hx => by first | (simp [hx]; done) | (rw [List.mem_singleton] at hx; subst hx; simp; done))⟩, _, _, rfl, ⟨_, _, rfl, ho1.rdb hl (fun x hx => by first | (simp [hx]; done) | (rw [List.mem_singleton] at hx; subst hx; simp; done))⟩, _, _, rfl, ⟨_, _, rfl, ho2.rdb hl (fun x hx => by first | (simp [hx]; done) | (rw [List.mem_singleton] at hx; subst hx; simp; done))⟩, rfl⟩
      rintro v h8 ⟨A8, c8, rfl, ho8⟩
      have hf : [[2, lowB p.code, 0, 0, 0, 0, 0, 0], be 4 p.seq, be 4 p.ack].flatten = dhead p [0, 0] := by
        have hib : (if p.init then (1 : UInt8) else 0) = 0 := by rw [hini]; rfl
        simp [dhead, hib]
      rw [hf] at ho8 ⊢
      refine ⟨fun _ => { A := A8, n := (dhead p [0, 0]).length, c := c8 }, rfl, ?_⟩
      dsimp only
      (repeat ((first | refine h_box fun _ _ _ => ?_ | ((with_reducible show holds _ _ _ _ (.sem (Instr.alloc 43 _ _) _ _) _); refine h_alloc zb_DualEntry_43 fun _ _ _ => ?_) | ((with_reducible show holds _ _ _ _ (.rd (Instr.loadAt _ (.pointer _)) _ _) _); first | refine ldI (by repeat (first | exact mq0 | apply mq1 | apply mq2)) (by rfl) (by kernel_rfl) ?_ | refine ldL (by repeat (first | exact mq0 | apply mq1 | apply mq2)) (by rfl) (by kernel_rfl) ?_ | refine ldB (by repeat (first | exact mq0 | apply mq1 | apply mq2)) (by rfl) (by kernel_rfl) ?_ | refine la3 (by repeat (first | exact mq0 | apply mq1 | apply mq2)) (by rfl) (by kernel_rfl) ?_) | ((with_reducible show holds _ _ _ _ (.unit (Instr.storeAt _ _ _) _) _); refine stU (by repeat (first | exact Upd.here | apply Upd.there | apply Upd.right)) (by kernel_rfl) (by rfl) (by simp [Value.cells]) ?_) | ((with_reducible show holds _ _ _ _ (.pin (vN (Instr.loadAt _ _)) _ _) _); first | refine pnA (by repeat (first | exact mq0 | apply mq1 | apply mq2)) (by rfl) (by kernel_rfl) ?_ | refine pn1 (by repeat (first | exact mq0 | apply mq1 | apply mq2)) (by rfl) (by kernel_rfl) ?_)); try dsimp only [getL]))
      refine h_stop fun hl => ?_
      refine denc_loop (p := p) hin h40 p.es.length 0 _ _ h8 _ A8 _ c8 (by omega) (by repeat (first | exact Pick.here | exact Pick.one | apply Pick.two | apply Pick.cons | apply Pick.app)) (dhead_len p rfl) ?_
      simpa using ho8
  · have h0 : p.code ≠ 0 := by simpa using t4
    (repeat ((first | refine h_box fun _ _ _ => ?_ | ((with_reducible show holds _ _ _ _ (.sem (Instr.alloc 43 _ _) _ _) _); refine h_alloc zb_DualEntry_43 fun _ _ _ => ?_) | ((with_reducible show holds _ _ _ _ (.rd (Instr.loadAt _ (.pointer _)) _ _) _); first | refine ldI (by repeat (first | exact mq0 | apply mq1 | apply mq2)) (by rfl) (by kernel_rfl) ?_ | refine ldL (by repeat (first | exact mq0 | apply mq1 | apply mq2)) (by rfl) (by kernel_rfl) ?_ | refine ldB (by repeat (first | exact mq0 | apply mq1 | apply mq2)) (by rfl) (by kernel_rfl) ?_ | refine la3 (by repeat (first | exact mq0 | apply mq1 | apply mq2)) (by rfl) (by kernel_rfl) ?_) | ((with_reducible show holds _ _ _ _ (.unit (Instr.storeAt _ _ _) _) _); refine stU (by repeat (first | exact Upd.here | apply Upd.there | apply Upd.right)) (by kernel_rfl) (by rfl) (by simp [Value.cells]) ?_) | ((with_reducible show holds _ _ _ _ (.pin (vN (Instr.loadAt _ _)) _ _) _); first | refine pnA (by repeat (first | exact mq0 | apply mq1 | apply mq2)) (by rfl) (by kernel_rfl) ?_ | refine pn1 (by repeat (first | exact mq0 | apply mq1 | apply mq2)) (by rfl) (by kernel_rfl) ?_)); try dsimp only [getL]))
    refine h_call0 (v := .bool (!p.es.all dentB)) (fun _ => { b := !p.es.all dentB }) ca_slices_ContainsFunc_DualEntry (fun hl => dodds_spec (hin.up (Sub.self.up hl)) (by omega)) rfl ?_
    dsimp only
    refine h_ite (fun t5 => ?_) (fun t5 => ?_)
    · exact bad (.inr (.inr (.inr (by simpa using t5))))
    have ha : p.es.all dentB = true := by simpa using t5
    rw [show dencR p = (dencB p, 0) by
      unfold dencR
      rw [if_neg (by omega), if_neg (by
        rintro (h | h | h | h)
        · omega
        · omega
        · omega
        · rw [ha] at h; cases h)]]
    (repeat ((first | refine h_box fun _ _ _ => ?_ | ((with_reducible show holds _ _ _ _ (.sem (Instr.alloc 43 _ _) _ _) _); refine h_alloc zb_DualEntry_43 fun _ _ _ => ?_) | ((with_reducible show holds _ _ _ _ (.rd (Instr.loadAt _ (.pointer _)) _ _) _); first | refine ldI (by repeat (first | exact mq0 | apply mq1 | apply mq2)) (by rfl) (by kernel_rfl) ?_ | refine ldL (by repeat (first | exact mq0 | apply mq1 | apply mq2)) (by rfl) (by kernel_rfl) ?_ | refine ldB (by repeat (first | exact mq0 | apply mq1 | apply mq2)) (by rfl) (by kernel_rfl) ?_ | refine la3 (by repeat (first | exact mq0 | apply mq1 | apply mq2)) (by rfl) (by kernel_rfl) ?_) | ((with_reducible show holds _ _ _ _ (.unit (Instr.storeAt _ _ _) _) _); refine stU (by repeat (first | exact Upd.here | apply Upd.there | apply Upd.right)) (by kernel_rfl) (by rfl) (by simp [Value.cells]) ?_) | ((with_reducible show holds _ _ _ _ (.pin (vN (Instr.loadAt _ _)) _ _) _); first | refine pnA (by repeat (first | exact mq0 | apply mq1 | apply mq2)) (by rfl) (by kernel_rfl) ?_ | refine pn1 (by repeat (first | exact mq0 | apply mq1 | apply mq2)) (by rfl) (by kernel_rfl) ?_)); try dsimp only [getL]))
    refine h_ite (fun hini => ?_) (fun hini => ?_)
    · have hini : p.init = true := hini
      (repeat ((first | refine h_box fun _ _ _ => ?_ | ((with_reducible show holds _ _ _ _ (.sem (Instr.alloc 43 _ _) _ _) _); refine h_alloc zb_DualEntry_43 fun _ _ _ => ?_) | ((with_reducible show holds _ _ _ _ (.rd (Instr.loadAt _ (.pointer _)) _ _) _); first | refine ldI (by repeat (first | exact mq0 | apply mq1 | apply mq2)) (by rfl) (by kernel_rfl) ?_ | refine ldL (by repeat (first | exact mq0 | apply mq1 | apply mq2)) (by rfl) (by kernel_rfl) ?_ | refine ldB (by repeat (first | exact mq0 | apply mq1 | apply mq2)) (by rfl) (by kernel_rfl) ?_ | refine la3 (by repeat (first | exact mq0 | apply mq1 | apply mq2)) (by rfl) (by kernel_rfl) ?_) | ((with_reducible show holds _ _ _ _ (.unit (Instr.storeAt _ _ _) _) _); refine stU (by repeat (first | exact Upd.here | apply Upd.there | apply Upd.right)) (by kernel_rfl) (by rfl) (by simp [Value.cells]) ?_) | ((with_reducible show holds _ _ _ _ (.pin (vN (Instr.loadAt _ _)) _ _) _); first | refine pnA (by repeat (first | exact mq0 | apply mq1 | apply mq2)) (by rfl) (by kernel_rfl) ?_ | refine pn1 (by repeat (first | exact mq0 | apply mq1 | apply mq2)) (by rfl) (by kernel_rfl) ?_)); try dsimp only [getL]))
      simp only [wrap8b]
      refine h_call [] _ ca_num_Put32 (List.Perm.refl _) (fun hl => Put32_spec hp.seq) ?_
      rintro v h1 ⟨A1, c1, rfl, ho1⟩
      refine ⟨fun _ => { A := A1, n := (be 4 p.seq).length, c := c1 }, rfl, ?_⟩
      dsimp only
      (repeat ((first | refine h_box fun _ _ _ => ?_ | ((with_reducible show holds _ _ _ _ (.sem (Instr.alloc 43 _ _) _ _) _); refine h_alloc zb_DualEntry_43 fun _ _ _ => ?_) | ((with_reducible show holds _ _ _ _ (.rd (Instr.loadAt _ (.pointer _)) _ _) _); first | refine ldI (by repeat (first | exact mq0 | apply mq1 | apply mq2)) (by rfl) (by kernel_rfl) ?_ | refine ldL (by repeat (first | exact mq0 | apply mq1 | apply mq2)) (by rfl) (by kernel_rfl) ?_ | refine ldB (by repeat (first | exact mq0 | apply mq1 | apply mq2)) (by rfl) (by kernel_rfl) ?_ | refine la3 (by repeat (first | exact mq0 | apply mq1 | apply mq2)) (by rfl) (by kernel_rfl) ?_) | ((with_reducible show holds _ _ _ _ (.unit (Instr.storeAt _ _ _) _) _); refine stU (by repeat (first | exact Upd.here | apply Upd.there | apply Upd.right)) (by kernel_rfl) (by rfl) (by simp [Value.cells]) ?_) | ((with_reducible show holds _ _ _ _ (.pin (vN (Instr.loadAt _ _)) _ _) _); first | refine pnA (by repeat (first | exact mq0 | apply mq1 | apply mq2)) (by rfl) (by kernel_rfl) ?_ | refine pn1 (by repeat (first | exact mq0 | apply mq1 | apply mq2)) (by rfl) (by kernel_rfl) ?_)); try dsimp only [getL]))
      refine h_call [] _ ca_num_Put32 (List.Perm.refl _) (fun hl => Put32_spec hp.ack) ?_
      rintro v h2 ⟨A2, c2, rfl, ho2⟩
      refine ⟨fun _ => { A := A2, n := (be 4 p.ack).length, c := c2 }, rfl, ?_⟩
      dsimp only
      (repeat ((first | refine h_box fun _ _ _ => ?_ | ((with_reducible show holds _ _ _ _ (.sem (Instr.alloc 43 _ _) _ _) _); refine h_alloc zb_DualEntry_43 fun _ _ _ => ?_) | ((with_reducible show holds _ _ _ _ (.rd (Instr.loadAt _ (.pointer _)) _ _) _); first | refine ldI (by repeat (first | exact mq0 | apply mq1 | apply mq2)) (by rfl) (by kernel_rfl) ?_ | refine ldL (by repeat (first | exact mq0 | apply mq1 | apply mq2)) (by rfl) (by kernel_rfl) ?_ | refine ldB (by repeat (first | exact mq0 | apply mq1 | apply mq2)) (by rfl) (by kernel_rfl) ?_ | refine la3 (by repeat (first | exact mq0 | apply mq1 | apply mq2)) (by rfl) (by kernel_rfl) ?_) | ((with_reducible show holds _ _ _ _ (.unit (Instr.storeAt _ _ _) _) _); refine stU (by repeat (first | exact Upd.here | apply Upd.there | apply Upd.right)) (by kernel_rfl) (by rfl) (by simp [Value.cells]) ?_) | ((with_reducible show holds _ _ _ _ (.pin (vN (Instr.loadAt _ _)) _ _) _); first | refine pnA (by repeat (first | exact mq0 | apply mq1 | apply mq2)) (by rfl) (by kernel_rfl) ?_ | refine pn1 (by repeat (first | exact mq0 | apply mq1 | apply mq2)) (by rfl) (by kernel_rfl) ?_)); try dsimp only [getL]))
      refine h_row (e := 5) #[.int .u8 2, .int .u8 ((lowB p.code).toNat : Int), .int .u8 0, .int .u8 0, .int .u8 1, .int .u8 0, .int .u8 0, .int .u8 0] (by kernel_rfl) fun g6 hg6 hI6 => ?_
      dsimp only
      refine h_row (e := 27) #[.slice (some ⟨g6, 0, none⟩) 8 8, .slice A1 (be 4 p.seq).length c1, .slice A2 (be 4 p.ack).length c2] (by kernel_rfl) fun g7 hg7 hI7 => ?_
      dsimp only
      refine h_call [] _ ca_slices_Concat_byte (List.Perm.refl _) (fun hl => concat_spec (ls := [[2, lowB p.code, 0, 0, 1, 0, 0, 0], be 4 p.seq, be 4 p.ack])
        (cs := [.slice (some ⟨g6, 0, none⟩) 8 8, .slice A1 (be 4 p.seq).length c1, .slice A2 (be 4 p.ack).length c2])
        (RdC.all hl (fun _ => ⟨_, rfl, cellsM' (by repeat (first | exact mq0 | apply mq1 | apply mq2)) rfl⟩)) ?_ (by simp [total]) (by simp)) ?_
      · have own6 : OwnB (some ⟨g6, 0, none⟩) 8 8 [2, lowB p.code, 0, 0, 1, 0, 0, 0] [(g6, .cells #[.int .u8 2, .int .u8 ((lowB p.code).toNat : Int), .int .u8 0, .int .u8 0, .int .u8 1, .int .u8 0, .int .u8 0, .int .u8 0] 5 (0, 0))] := Own.row (n := 8) rfl
        exact ⟨_, _, rfl, ⟨_, 8, rfl, own6.rdb hl (fun x hx => by first | (simp [hx]; done) | (rw [List.mem_singleton] at hx; subst hx; simp; done))⟩, _, _, rfl, ⟨_, _, rfl, ho1.rdb hl (fun x hx => by first | (simp [hx]; done) | (rw [List.mem_singleton] at hx; subst hx; simp; done))⟩, _, _, rfl, ⟨_, _, rfl, ho2.rdb hl (fun x hx => by first | (simp [hx]; done) | (rw [List.mem_singleton] at hx; subst hx; simp; done))⟩, rfl⟩
      rintro v h8 ⟨A8, c8, rfl, ho8⟩
      have hf : [[2, lowB p.code, 0, 0, 1, 0, 0, 0], be 4 p.seq, be 4 p.ack].flatten = dhead p [0, 0] := by
        have hib : (if p.init then (1 : UInt8) else 0) = 1 := by rw [hini]; rfl
        simp [dhead, hib]
      rw [hf] at ho8 ⊢
      refine ⟨fun _ => { A := A8, n := (dhead p [0, 0]).length, c := c8 }, rfl, ?_⟩
      dsimp only
      (repeat ((first | refine h_box fun _ _ _ => ?_ | ((with_reducible show holds _ _ _ _ (.sem (Instr.alloc 43 _ _) _ _) _); refine h_alloc zb_DualEntry_43 fun _ _ _ => ?_) | ((with_reducible show holds _ _ _ _ (.rd (Instr.loadAt _ (.pointer _)) _ _) _); first | refine ldI (by repeat (first | exact mq0 | apply mq1 | apply mq2)) (by rfl) (by kernel_rfl) ?_ | refine ldL (by repeat (first | exact mq0 | apply mq1 | apply mq2)) (by rfl) (by kernel_rfl) ?_ | refine ldB (by repeat (first | exact mq0 | apply mq1 | apply mq2)) (by rfl) (by kernel_rfl) ?_ | refine la3 (by repeat (first | exact mq0 | apply mq1 | apply mq2)) (by rfl) (by kernel_rfl) ?_) | ((with_reducible show holds _ _ _ _ (.unit (Instr.storeAt _ _ _) _) _); refine stU (by repeat (first | exact Upd.here | apply Upd.there | apply Upd.right)) (by kernel_rfl) (by rfl) (by simp [Value.cells]) ?_) | ((with_reducible show holds _ _ _ _ (.pin (vN (Instr.loadAt _ _)) _ _) _); first | refine pnA (by repeat (first | exact mq0 | apply mq1 | apply mq2)) (by rfl) (by kernel_rfl) ?_ | refine pn1 (by repeat (first | exact mq0 | apply mq1 | apply mq2)) (by rfl) (by kernel_rfl) ?_)); try dsimp only [getL]))
      refine h_stop fun hl => ?_
      refine denc_loop (p := p) hin h40 p.es.length 0 _ _ h8 _ A8 _ c8 (by omega) (by repeat (first | exact Pick.here | exact Pick.one | apply Pick.two | apply Pick.cons | apply Pick.app)) (dhead_len p rfl) ?_
      simpa using ho8
    · have hini : p.init = false := hini
      (repeat ((first | refine h_box fun _ _ _ => ?_ | ((with_reducible show holds _ _ _ _ (.sem (Instr.alloc 43 _ _) _ _) _); refine h_alloc zb_DualEntry_43 fun _ _ _ => ?_) | ((with_reducible show holds _ _ _ _ (.rd (Instr.loadAt _ (.pointer _)) _ _) _); first | refine ldI (by repeat (first | exact mq0 | apply mq1 | apply mq2)) (by rfl) (by kernel_rfl) ?_ | refine ldL (by repeat (first | exact mq0 | apply mq1 | apply mq2)) (by rfl) (by kernel_rfl) ?_ | refine ldB (by repeat (first | exact mq0 | apply mq1 | apply mq2)) (by rfl) (by kernel_rfl) ?_ | refine la3 (by repeat (first | exact mq0 | apply mq1 | apply mq2)) (by rfl) (by kernel_rfl) ?_) | ((with_reducible show holds _ _ _ _ (.unit (Instr.storeAt _ _ _) _) _); refine stU (by repeat (first | exact Upd.here | apply Upd.there | apply Upd.right)) (by kernel_rfl) (by rfl) (by simp [Value.cells]) ?_) | ((with_reducible show holds _ _ _ _ (.pin (vN (Instr.loadAt _ _)) _ _) _); first | refine pnA (by repeat (first | exact mq0 | apply mq1 | apply mq2)) (by rfl) (by kernel_rfl) ?_ | refine pn1 (by repeat (first | exact mq0 | apply mq1 | apply mq2)) (by rfl) (by kernel_rfl) ?_)); try dsimp only [getL]))
      simp only [wrap8b]
      refine h_call [] _ ca_num_Put32 (List.Perm.refl _) (fun hl => Put32_spec hp.seq) ?_
      rintro v h1 ⟨A1, c1, rfl, ho1⟩
      refine ⟨fun _ => { A := A1, n := (be 4 p.seq).length, c := c1 }, rfl, ?_⟩
      dsimp only
      (repeat ((first | refine h_box fun _ _ _ => ?_ | ((with_reducible show holds _ _ _ _ (.sem (Instr.alloc 43 _ _) _ _) _); refine h_alloc zb_DualEntry_43 fun _ _ _ => ?_) | ((with_reducible show holds _ _ _ _ (.rd (Instr.loadAt _ (.pointer _)) _ _) _); first | refine ldI (by repeat (first | exact mq0 | apply mq1 | apply mq2)) (by rfl) (by kernel_rfl) ?_ | refine ldL (by repeat (first | exact mq0 | apply mq1 | apply mq2)) (by rfl) (by kernel_rfl) ?_ | refine ldB (by repeat (first | exact mq0 | apply mq1 | apply mq2)) (by rfl) (by kernel_rfl) ?_ | refine la3 (by repeat (first | exact mq0 | apply mq1 | apply mq2)) (by rfl) (by kernel_rfl) ?_) | ((with_reducible show holds _ _ _ _ (.unit (Instr.storeAt _ _ _) _) _); refine stU (by repeat (first | exact Upd.here | apply Upd.there | apply Upd.right)) (by kernel_rfl) (by rfl) (by simp [Value.cells]) ?_) | ((with_reducible show holds _ _ _ _ (.pin (vN (Instr.loadAt _ _)) _ _) _); first | refine pnA (by repeat (first | exact mq0 | apply mq1 | apply mq2)) (by rfl) (by kernel_rfl) ?_ | refine pn1 (by repeat (first | exact mq0 | apply mq1 | apply mq2)) (by rfl) (by kernel_rfl) ?_)); try dsimp only [getL]))
      refine h_call [] _ ca_num_Put32 (List.Perm.refl _) (fun hl => Put32_spec hp.ack) ?_
      rintro v h2 ⟨A2, c2, rfl, ho2⟩
      refine ⟨fun _ => { A := A2, n := (be 4 p.ack).length, c := c2 }, rfl, ?_⟩
      dsimp only
      (repeat ((first | refine h_box fun _ _ _ => ?_ | ((with_reducible show holds _ _ _ _ (.sem (Instr.alloc 43 _ _) _ _) _); refine h_alloc zb_DualEntry_43 fun _ _ _ => ?_) | ((with_reducible show holds _ _ _ _ (.rd (Instr.loadAt _ (.pointer _)) _ _) _); first | refine ldI (by repeat (first | exact mq0 | apply mq1 | apply mq2)) (by rfl) (by kernel_rfl) ?_ | refine ldL (by repeat (first | exact mq0 | apply mq1 | apply mq2)) (by rfl) (by kernel_rfl) ?_ | refine ldB (by repeat (first | exact mq0 | apply mq1 | apply mq2)) (by rfl) (by kernel_rfl) ?_ | refine la3 (by repeat (first | exact mq0 | apply mq1 | apply mq2)) (by rfl) (by kernel_rfl) ?_) | ((with_reducible show holds _ _ _ _ (.unit (Instr.storeAt _ _ _) _) _); refine stU (by repeat (first | exact Upd.here | apply Upd.there | apply Upd.right)) (by kernel_rfl) (by rfl) (by simp [Value.cells]) ?_) | ((with_reducible show holds _ _ _ _ (.pin (vN (Instr.loadAt _ _)) _ _) _); first | refine pnA (by repeat (first | exact mq0 | apply mq1 | apply mq2)) (by rfl) (by kernel_rfl) ?_ | refine pn1 (by repeat (first | exact mq0 | apply mq1 | apply mq2)) (by rfl) (by kernel_rfl) ?_)); try dsimp only [getL]))
      refine h_row (e := 5) #[.int .u8 2, .int .u8 ((lowB p.code).toNat : Int), .int .u8 0, .int .u8 0, .int .u8 0, .int .u8 0, .int .u8 0, .int .u8 0] (by kernel_rfl) fun g6 hg6 hI6 => ?_
      dsimp only
      refine h_row (e := 27) #[.slice (some ⟨g6, 0, none⟩) 8 8, .slice A1 (be 4 p.seq).length c1, .slice A2 (be 4 p.ack).length c2] (by kernel_rfl) fun g7 hg7 hI7 => ?_
      dsimp only
      refine h_call [] _ ca_slices_Concat_byte (List.Perm.refl _) (fun hl => concat_spec (ls := [[2, lowB p.code, 0, 0, 0, 0, 0, 0], be 4 p.seq, be 4 p.ack])
        (cs := [.slice (some ⟨g6, 0, none⟩) 8 8, .slice A1 (be 4 p.seq).length c1, .slice A2 (be 4 p.ack).length c2])
        (RdC.all hl (fun _ => ⟨_, rfl, cellsM' (by repeat (first | exact mq0 | apply mq1 | apply mq2)) rfl⟩)) ?_ (by simp [total]) (by simp)) ?_
      · have own6 : OwnB (some ⟨g6, 0, none⟩) 8 8 [2, lowB p.code, 0, 0, 0, 0, 0, 0] [(g6, .cells #[.int .u8 2, .int .u8 ((lowB p.code).toNat : Int), .int .u8 0, .int .u8 0, .int .u8 0, .int .u8 0, .int .u8 0, .int .u8 0] 5 (0, 0))] := Own.row (n := 8) rfl
        exact ⟨_, _, rfl, ⟨_, 8, rfl, own6.rdb hl (fun x hx => by first | (simp [hx]; done) | (rw [List.mem_singleton] at hx; subst hx; simp; done))⟩, _, _, rfl, ⟨_, _, rfl, ho1.rdb hl (fun x hx => by first | (simp [hx]; done) | (rw [List.mem_singleton] at hx; subst hx; simp; done))⟩, _, _, rfl, ⟨_, _, rfl, ho2.rdb hl (fun x hx => by first | (simp [hx]; done) | (rw [List.mem_singleton] at hx; subst hx; simp; done))⟩, rfl⟩
      rintro v h8 ⟨A8, c8, rfl, ho8⟩
      have hf : [[2, lowB p.code, 0, 0, 0, 0, 0, 0], be 4 p.seq, be 4 p.ack].flatten = dhead p [0, 0] := by
        have hib : (if p.init then (1 : UInt8) else 0) = 0 := by rw [hini]; rfl
        simp [dhead, hib]
      rw [hf] at ho8 ⊢
      refine ⟨fun _ => { A := A8, n := (dhead p [0, 0]).length, c := c8 }, rfl, ?_⟩
      dsimp only
      (repeat ((first | refine h_box fun _ _ _ => ?_ | ((with_reducible show holds _ _ _ _ (.sem (Instr.alloc 43 _ _) _ _) _); refine h_alloc zb_DualEntry_43 fun _ _ _ => ?_) | ((with_reducible show holds _ _ _ _ (.rd (Instr.loadAt _ (.pointer _)) _ _) _); first | refine ldI (by repeat (first | exact mq0 | apply mq1 | apply mq2)) (by rfl) (by kernel_rfl) ?_ | refine ldL (by repeat (first | exact mq0 | apply mq1 | apply mq2)) (by rfl) (by kernel_rfl) ?_ | refine ldB (by repeat (first | exact mq0 | apply mq1 | apply mq2)) (by rfl) (by kernel_rfl) ?_ | refine la3 (by repeat (first | exact mq0 | apply mq1 | apply mq2)) (by rfl) (by kernel_rfl) ?_) | ((with_reducible show holds _ _ _ _ (.unit (Instr.storeAt _ _ _) _) _); refine stU (by repeat (first | exact Upd.here | apply Upd.there | apply Upd.right)) (by kernel_rfl) (by rfl) (by simp [Value.cells]) ?_) | ((with_reducible show holds _ _ _ _ (.pin (vN (Instr.loadAt _ _)) _ _) _); first | refine pnA (by repeat (first | exact mq0 | apply mq1 | apply mq2)) (by rfl) (by kernel_rfl) ?_ | refine pn1 (by repeat (first | exact mq0 | apply mq1 | apply mq2)) (by rfl) (by kernel_rfl) ?_)); try dsimp only [getL]))
      refine h_stop fun hl => ?_
      refine denc_loop (p := p) hin h40 p.es.length 0 _ _ h8 _ A8 _ c8 (by omega) (by repeat (first | exact Pick.here | exact Pick.one | apply Pick.two | apply Pick.cons | apply Pick.app)) (dhead_len p rfl) ?_
      simpa using ho8
end Go.Proofs.YtkdakglnhipmaaaS
