import Derived.Test.YtkdakglnhipmaaaN6
import Derived.Test.YtkdakglnhipmaaaN42
import Derived.Test.YtkdakglnhipmaaaSY
import Derived.Test.YtkdakglnhipmaaaTA
set_option linter.unusedVariables false
namespace Go.Proofs.YtkdakglnhipmaaaS
theorem low32_nat {n : Nat} (h : n < 4294967296) : low32 (n : Int) = n := by unfold low32; omega
theorem lowB_byte (b : UInt8) : lowB ((b.toNat : Nat) : Int) = b := by
  have := b.toNat_lt
  rw [← UInt8.toNat_inj]; unfold lowB; rw [toNat_ofNat']; omega
theorem dput_spec {I : Ctx} {e : DEnt} (ho : e.ok) : Fn Try.prog 20 #[e.vv] I [] (GivesB (dencE e)) := by
  refine r_dualpkt_put _ _ _ _ _ _ ?_
  (repeat ((first | refine h_box fun _ _ _ => ?_ | ((with_reducible show holds _ _ _ _ (.sem (Instr.alloc 43 _ _) _ _) _); refine h_alloc zb_DualEntry_43 fun _ _ _ => ?_) | ((with_reducible show holds _ _ _ _ (.rd (Instr.loadAt _ (.pointer _)) _ _) _); first | refine ldI (by repeat (first | exact mq0 | apply mq1 | apply mq2)) (by rfl) (by kernel_rfl) ?_ | refine la3 (by repeat (first | exact mq0 | apply mq1 | apply mq2)) (by rfl) (by kernel_rfl) ?_) | ((with_reducible show holds _ _ _ _ (.rd (loadVar _ _) _ _) _); refine lv3 (by repeat (first | exact mq0 | apply mq1 | apply mq2)) (by rfl) (by kernel_rfl) ?_) | ((with_reducible show holds _ _ _ _ (.unit (Instr.storeAt _ _ _) _) _); refine stU (by repeat (first | exact Upd.here | apply Upd.there | apply Upd.right)) (by kernel_rfl) (by rfl) (by simp [Value.cells]) ?_) | ((with_reducible show holds _ _ _ _ (.pin (vN (Instr.loadAt _ _)) _ _) _); first | refine pnA (by repeat (first | exact mq0 | apply mq1 | apply mq2)) (by rfl) (by kernel_rfl) ?_ | refine pn1 (by repeat (first | exact mq0 | apply mq1 | apply mq2)) (by rfl) (by kernel_rfl) ?_)); try dsimp only [getL]))
  simp only [wrap32b, wrap8b]
  refine h_call [] _ ca_num_Put32 (List.Perm.refl _) (fun hl => Put32_spec ho.a) ?_
  rintro v h1 ⟨A1, c1, rfl, ho1⟩
  refine ⟨fun _ => { A := A1, n := (be 4 e.a).length, c := c1 }, rfl, ?_⟩
  dsimp only
  (repeat ((first | refine h_box fun _ _ _ => ?_ | ((with_reducible show holds _ _ _ _ (.sem (Instr.alloc 43 _ _) _ _) _); refine h_alloc zb_DualEntry_43 fun _ _ _ => ?_) | ((with_reducible show holds _ _ _ _ (.rd (Instr.loadAt _ (.pointer _)) _ _) _); first | refine ldI (by repeat (first | exact mq0 | apply mq1 | apply mq2)) (by rfl) (by kernel_rfl) ?_ | refine la3 (by repeat (first | exact mq0 | apply mq1 | apply mq2)) (by rfl) (by kernel_rfl) ?_) | ((with_reducible show holds _ _ _ _ (.rd (loadVar _ _) _ _) _); refine lv3 (by repeat (first | exact mq0 | apply mq1 | apply mq2)) (by rfl) (by kernel_rfl) ?_) | ((with_reducible show holds _ _ _ _ (.unit (Instr.storeAt _ _ _) _) _); refine stU (by repeat (first | exact Upd.here | apply Upd.there | apply Upd.right)) (by kernel_rfl) (by rfl) (by simp [Value.cells]) ?_) | ((with_reducible show holds _ _ _ _ (.pin (vN (Instr.loadAt _ _)) _ _) _); first | refine pnA (by repeat (first | exact mq0 | apply mq1 | apply mq2)) (by rfl) (by kernel_rfl) ?_ | refine pn1 (by repeat (first | exact mq0 | apply mq1 | apply mq2)) (by rfl) (by kernel_rfl) ?_)); try dsimp only [getL]))
  refine h_call [] _ ca_num_Put16 (List.Perm.refl _) (fun hl => Put16_spec ho.tag) ?_
  rintro v h2 ⟨A2, c2, rfl, ho2⟩
  refine ⟨fun _ => { A := A2, n := (be 2 e.tag).length, c := c2 }, rfl, ?_⟩
  dsimp only
  (repeat ((first | refine h_box fun _ _ _ => ?_ | ((with_reducible show holds _ _ _ _ (.sem (Instr.alloc 43 _ _) _ _) _); refine h_alloc zb_DualEntry_43 fun _ _ _ => ?_) | ((with_reducible show holds _ _ _ _ (.rd (Instr.loadAt _ (.pointer _)) _ _) _); first | refine ldI (by repeat (first | exact mq0 | apply mq1 | apply mq2)) (by rfl) (by kernel_rfl) ?_ | refine la3 (by repeat (first | exact mq0 | apply mq1 | apply mq2)) (by rfl) (by kernel_rfl) ?_) | ((with_reducible show holds _ _ _ _ (.rd (loadVar _ _) _ _) _); refine lv3 (by repeat (first | exact mq0 | apply mq1 | apply mq2)) (by rfl) (by kernel_rfl) ?_) | ((with_reducible show holds _ _ _ _ (.unit (Instr.storeAt _ _ _) _) _); refine stU (by repeat (first | exact Upd.here | apply Upd.there | apply Upd.right)) (by kernel_rfl) (by rfl) (by simp [Value.cells]) ?_) | ((with_reducible show holds _ _ _ _ (.pin (vN (Instr.loadAt _ _)) _ _) _); first | refine pnA (by repeat (first | exact mq0 | apply mq1 | apply mq2)) (by rfl) (by kernel_rfl) ?_ | refine pn1 (by repeat (first | exact mq0 | apply mq1 | apply mq2)) (by rfl) (by kernel_rfl) ?_)); try dsimp only [getL]))
  refine h_call [] _ ca_num_Put32 (List.Perm.refl _) (fun hl => Put32_spec (low32_lt e.v.b)) ?_
  rintro v h3 ⟨A3, c3, rfl, ho3⟩
  refine ⟨fun _ => { A := A3, n := (be 4 (low32 e.v.b)).length, c := c3 }, rfl, ?_⟩
  dsimp only
  (repeat ((first | refine h_box fun _ _ _ => ?_ | ((with_reducible show holds _ _ _ _ (.sem (Instr.alloc 43 _ _) _ _) _); refine h_alloc zb_DualEntry_43 fun _ _ _ => ?_) | ((with_reducible show holds _ _ _ _ (.rd (Instr.loadAt _ (.pointer _)) _ _) _); first | refine ldI (by repeat (first | exact mq0 | apply mq1 | apply mq2)) (by rfl) (by kernel_rfl) ?_ | refine la3 (by repeat (first | exact mq0 | apply mq1 | apply mq2)) (by rfl) (by kernel_rfl) ?_) | ((with_reducible show holds _ _ _ _ (.rd (loadVar _ _) _ _) _); refine lv3 (by repeat (first | exact mq0 | apply mq1 | apply mq2)) (by rfl) (by kernel_rfl) ?_) | ((with_reducible show holds _ _ _ _ (.unit (Instr.storeAt _ _ _) _) _); refine stU (by repeat (first | exact Upd.here | apply Upd.there | apply Upd.right)) (by kernel_rfl) (by rfl) (by simp [Value.cells]) ?_) | ((with_reducible show holds _ _ _ _ (.pin (vN (Instr.loadAt _ _)) _ _) _); first | refine pnA (by repeat (first | exact mq0 | apply mq1 | apply mq2)) (by rfl) (by kernel_rfl) ?_ | refine pn1 (by repeat (first | exact mq0 | apply mq1 | apply mq2)) (by rfl) (by kernel_rfl) ?_)); try dsimp only [getL]))
  refine h_call [] _ ca_num_Put32 (List.Perm.refl _) (fun hl => Put32_spec (low32_lt e.v.d)) ?_
  rintro v h4 ⟨A4, c4, rfl, ho4⟩
  refine ⟨fun _ => { A := A4, n := (be 4 (low32 e.v.d)).length, c := c4 }, rfl, ?_⟩
  dsimp only
  (repeat ((first | refine h_box fun _ _ _ => ?_ | ((with_reducible show holds _ _ _ _ (.sem (Instr.alloc 43 _ _) _ _) _); refine h_alloc zb_DualEntry_43 fun _ _ _ => ?_) | ((with_reducible show holds _ _ _ _ (.rd (Instr.loadAt _ (.pointer _)) _ _) _); first | refine ldI (by repeat (first | exact mq0 | apply mq1 | apply mq2)) (by rfl) (by kernel_rfl) ?_ | refine la3 (by repeat (first | exact mq0 | apply mq1 | apply mq2)) (by rfl) (by kernel_rfl) ?_) | ((with_reducible show holds _ _ _ _ (.rd (loadVar _ _) _ _) _); refine lv3 (by repeat (first | exact mq0 | apply mq1 | apply mq2)) (by rfl) (by kernel_rfl) ?_) | ((with_reducible show holds _ _ _ _ (.unit (Instr.storeAt _ _ _) _) _); refine stU (by repeat (first | exact Upd.here | apply Upd.there | apply Upd.right)) (by kernel_rfl) (by rfl) (by simp [Value.cells]) ?_) | ((with_reducible show holds _ _ _ _ (.pin (vN (Instr.loadAt _ _)) _ _) _); first | refine pnA (by repeat (first | exact mq0 | apply mq1 | apply mq2)) (by rfl) (by kernel_rfl) ?_ | refine pn1 (by repeat (first | exact mq0 | apply mq1 | apply mq2)) (by rfl) (by kernel_rfl) ?_)); try dsimp only [getL]))
  refine h_row (e := 5) #[.int .u8 ((lowB e.n).toNat : Int), .int .u8 ((lowB e.v.p).toNat : Int)] (by kernel_rfl) fun g6 hg6 hI6 => ?_
  dsimp only
  refine h_make (n := 4) (c := 4) eb_uint8 (Nat.le_refl _) (by omega) (by omega) fun g5 hg5 hI5 ho5 => ?_
  rw [show (Builtin.zeroCells (Value.int IntKind.u8 0).cells 4).toList = bC (List.replicate 4 0) from zero_bytes 4] at ho5
  dsimp only
  refine h_row (e := 27) #[.slice A1 (be 4 e.a).length c1, .slice (some ⟨g6, 0, none⟩) 2 2, .slice A2 (be 2 e.tag).length c2, .slice A3 (be 4 (low32 e.v.b)).length c3, .slice A4 (be 4 (low32 e.v.d)).length c4, .slice (some ⟨g5, 0, none⟩) 4 4] (by kernel_rfl) fun g7 hg7 hI7 => ?_
  dsimp only
  refine h_call [] _ ca_slices_Concat_byte (List.Perm.refl _) (fun hl => concat_spec (ls := [be 4 e.a, [lowB e.n, lowB e.v.p], be 2 e.tag, be 4 (low32 e.v.b), be 4 (low32 e.v.d), List.replicate 4 0])
    (cs := [.slice A1 (be 4 e.a).length c1, .slice (some ⟨g6, 0, none⟩) 2 2, .slice A2 (be 2 e.tag).length c2, .slice A3 (be 4 (low32 e.v.b)).length c3, .slice A4 (be 4 (low32 e.v.d)).length c4, .slice (some ⟨g5, 0, none⟩) 4 4])
    (RdC.all hl (fun _ => ⟨_, rfl, cellsM' (by repeat (first | exact mq0 | apply mq1 | apply mq2)) rfl⟩)) ?_ (by simp [total]) (by simp)) ?_
  · have own6 : OwnB (some ⟨g6, 0, none⟩) 2 2 [lowB e.n, lowB e.v.p] [(g6, .cells #[.int .u8 ((lowB e.n).toNat : Int), .int .u8 ((lowB e.v.p).toNat : Int)] 5 (0, 0))] := Own.row (n := 2) rfl
    refine ⟨_, _, rfl, ⟨_, _, rfl, ho1.rdb hl (fun x hx => by first | (simp [hx]; done) | (rw [List.mem_singleton] at hx; subst hx; simp; done))⟩, _, _, rfl, ⟨_, 2, rfl, own6.rdb hl (fun x hx => by first | (simp [hx]; done) | (rw [List.mem_singleton] at hx; subst hx; simp; done))⟩, _, _, rfl, ⟨_, _, rfl, ho2.rdb hl (fun x hx => by first | (simp [hx]; done) | (rw [List.mem_singleton] at hx; subst hx; simp; done))⟩, _, _, rfl, ⟨_, _, rfl, ho3.rdb hl (fun x hx => by first | (simp [hx]; done) | (rw [List.mem_singleton] at hx; subst hx; simp; done))⟩, _, _, rfl, ⟨_, _, rfl, ho4.rdb hl (fun x hx => by first | (simp [hx]; done) | (rw [List.mem_singleton] at hx; subst hx; simp; done))⟩, _, _, rfl, ⟨_, 4, rfl, OwnB.rdb ho5 hl (fun x hx => by first | (simp [hx]; done) | (rw [List.mem_singleton] at hx; subst hx; simp; done))⟩, rfl⟩
  rintro v h8 ⟨A8, c8, rfl, ho8⟩
  have hf : [be 4 e.a, [lowB e.n, lowB e.v.p], be 2 e.tag, be 4 (low32 e.v.b), be 4 (low32 e.v.d), List.replicate 4 0].flatten = dencE e := by simp [dencE, List.replicate]
  rw [hf] at ho8 ⊢
  refine ⟨fun _ => { A := A8, n := (dencE e).length, c := c8 }, rfl, ?_⟩
  exact h_end (by repeat (first | exact Pick.here | exact Pick.one | apply Pick.two | apply Pick.cons | apply Pick.app)) ⟨A8, c8, rfl, ho8⟩
theorem dencE_len (e : DEnt) : (dencE e).length = 20 := by simp [dencE, be_length]
def byteAt (l : List UInt8) (i : Nat) : UInt8 := l[i]?.getD 0
theorem byteAt_in {l : List UInt8} {i : Nat} (h : i < l.length) : l[i]? = some (byteAt l i) := by
  unfold byteAt; rw [List.getElem?_eq_getElem h]; rfl
/-- What 20 bytes are as an entry. -/
def dreadE (l : List UInt8) : DEnt := ⟨num l 0 4, (((byteAt l 4).toNat : Nat) : Int), ⟨(num l 8 4 : Nat), (num l 12 4 : Nat), (((byteAt l 5).toNat : Nat) : Int)⟩, num l 6 2⟩
theorem dreadE_ok (l : List UInt8) : (dreadE l).ok := by
  have h1 := num_lt l 0 4
  have h2 := num_lt l 6 2
  have h3 := (byteAt l 4).toNat_lt
  exact ⟨h1, ⟨by show _ ≤ (((byteAt l 4).toNat : Nat) : Int); omega, by show (((byteAt l 4).toNat : Nat) : Int) ≤ _; omega⟩, h2⟩
theorem dget_spec {I : Ctx} {A : Option Addr} {c : Nat} {l : List UInt8} (hr : RdB I A 20 l) (hn : 20 ≤ c) :
    Fn Try.prog 27 #[.slice A 20 c] I [] (fun v h' => v = (dreadE l).vv ∧ h' = []) := by
  have hlen := hr.len
  have hc : 20 ≤ maxLen := by unfold maxLen; omega
  have up : ∀ {h : Mem}, Live I h → RdB (plus I h) A 20 l := fun hl => hr.up (Sub.self.up hl)
  have h4 : l[4]? = some (byteAt l 4) := byteAt_in (by omega)
  have h5 : l[5]? = some (byteAt l 5) := byteAt_in (by omega)
  have b4 := (byteAt l 4).toNat_lt
  have b5 := (byteAt l 5).toNat_lt
  have n8 := num_lt l 8 4
  have n12 := num_lt l 12 4
  refine r_dualpkt_get _ _ _ ?_
  (repeat ((first | refine h_box fun _ _ _ => ?_ | ((with_reducible show holds _ _ _ _ (.sem (Instr.alloc 43 _ _) _ _) _); refine h_alloc zb_DualEntry_43 fun _ _ _ => ?_) | ((with_reducible show holds _ _ _ _ (.rd (Instr.loadAt _ (.pointer _)) _ _) _); first | refine ldI (by repeat (first | exact mq0 | apply mq1 | apply mq2)) (by rfl) (by kernel_rfl) ?_ | refine la3 (by repeat (first | exact mq0 | apply mq1 | apply mq2)) (by rfl) (by kernel_rfl) ?_) | ((with_reducible show holds _ _ _ _ (.rd (loadVar _ _) _ _) _); refine lv3 (by repeat (first | exact mq0 | apply mq1 | apply mq2)) (by rfl) (by kernel_rfl) ?_) | ((with_reducible show holds _ _ _ _ (.unit (Instr.storeAt _ _ _) _) _); refine stU (by repeat (first | exact Upd.here | apply Upd.there | apply Upd.right)) (by kernel_rfl) (by rfl) (by simp [Value.cells]) ?_) | ((with_reducible show holds _ _ _ _ (.pin (vN (Instr.loadAt _ _)) _ _) _); first | refine pnA (by repeat (first | exact mq0 | apply mq1 | apply mq2)) (by rfl) (by kernel_rfl) ?_ | refine pn1 (by repeat (first | exact mq0 | apply mq1 | apply mq2)) (by rfl) (by kernel_rfl) ?_)); try dsimp only [getL]))
  refine h_call0 (getL [{ i := (num l 0 4 : Nat) }, { b := true }]) ca_num_Get32 (fun hl => get32_in (i := 0) (up hl) hn hc (by omega) (by omega)) rfl ?_
  dsimp only [getL]
  (repeat ((first | refine h_box fun _ _ _ => ?_ | ((with_reducible show holds _ _ _ _ (.sem (Instr.alloc 43 _ _) _ _) _); refine h_alloc zb_DualEntry_43 fun _ _ _ => ?_) | ((with_reducible show holds _ _ _ _ (.rd (Instr.loadAt _ (.pointer _)) _ _) _); first | refine ldI (by repeat (first | exact mq0 | apply mq1 | apply mq2)) (by rfl) (by kernel_rfl) ?_ | refine la3 (by repeat (first | exact mq0 | apply mq1 | apply mq2)) (by rfl) (by kernel_rfl) ?_) | ((with_reducible show holds _ _ _ _ (.rd (loadVar _ _) _ _) _); refine lv3 (by repeat (first | exact mq0 | apply mq1 | apply mq2)) (by rfl) (by kernel_rfl) ?_) | ((with_reducible show holds _ _ _ _ (.unit (Instr.storeAt _ _ _) _) _); refine stU (by repeat (first | exact Upd.here | apply Upd.there | apply Upd.right)) (by kernel_rfl) (by rfl) (by simp [Value.cells]) ?_) | ((with_reducible show holds _ _ _ _ (.pin (vN (Instr.loadAt _ _)) _ _) _); first | refine pnA (by repeat (first | exact mq0 | apply mq1 | apply mq2)) (by rfl) (by kernel_rfl) ?_ | refine pn1 (by repeat (first | exact mq0 | apply mq1 | apply mq2)) (by rfl) (by kernel_rfl) ?_)); try dsimp only [getL]))
  refine h_byte (e := 5) 4 (hr.rd.sub Sub.self) h4 hr.len rfl (by kernel_rfl) (by kernel_rfl) (by kernel_rfl) fun a4 _ => ?_
  dsimp only
  obtain ⟨a, hA, hc5⟩ := hr.rd.byte (i := 5) h5
  subst hA
  refine h_index (e := 5) a (sz := 1) (by kernel_rfl) (by kernel_rfl) (by omega) (by omega) rfl ?_
  refine h_loadI (by kernel_rfl) (hc5.sub Sub.self) ?_
  dsimp only
  rw [wrap64 (x := (((byteAt l 4).toNat : Nat) : Int)) (by omega), wrap64 (x := (((byteAt l 5).toNat : Nat) : Int)) (by omega)]
  ((first | refine h_box fun _ _ _ => ?_ | ((with_reducible show holds _ _ _ _ (.sem (Instr.alloc 43 _ _) _ _) _); refine h_alloc zb_DualEntry_43 fun _ _ _ => ?_) | ((with_reducible show holds _ _ _ _ (.rd (Instr.loadAt _ (.pointer _)) _ _) _); first | refine ldI (by repeat (first | exact mq0 | apply mq1 | apply mq2)) (by rfl) (by kernel_rfl) ?_ | refine la3 (by repeat (first | exact mq0 | apply mq1 | apply mq2)) (by rfl) (by kernel_rfl) ?_) | ((with_reducible show holds _ _ _ _ (.rd (loadVar _ _) _ _) _); refine lv3 (by repeat (first | exact mq0 | apply mq1 | apply mq2)) (by rfl) (by kernel_rfl) ?_) | ((with_reducible show holds _ _ _ _ (.unit (Instr.storeAt _ _ _) _) _); refine stU (by repeat (first | exact Upd.here | apply Upd.there | apply Upd.right)) (by kernel_rfl) (by rfl) (by simp [Value.cells]) ?_) | ((with_reducible show holds _ _ _ _ (.pin (vN (Instr.loadAt _ _)) _ _) _); first | refine pnA (by repeat (first | exact mq0 | apply mq1 | apply mq2)) (by rfl) (by kernel_rfl) ?_ | refine pn1 (by repeat (first | exact mq0 | apply mq1 | apply mq2)) (by rfl) (by kernel_rfl) ?_)); try dsimp only [getL])
  refine h_pin (rwp_vN (rw_load1 (by kernel_rfl) (hc5.sub Sub.self) rfl)) ?_
  refine h_pin (rwp_vN (rw_index (e := 5) (sz := 1) (by kernel_rfl) (by kernel_rfl) (by omega) (by omega) rfl rfl)) ?_
  (repeat ((first | refine h_box fun _ _ _ => ?_ | ((with_reducible show holds _ _ _ _ (.sem (Instr.alloc 43 _ _) _ _) _); refine h_alloc zb_DualEntry_43 fun _ _ _ => ?_) | ((with_reducible show holds _ _ _ _ (.rd (Instr.loadAt _ (.pointer _)) _ _) _); first | refine ldI (by repeat (first | exact mq0 | apply mq1 | apply mq2)) (by rfl) (by kernel_rfl) ?_ | refine la3 (by repeat (first | exact mq0 | apply mq1 | apply mq2)) (by rfl) (by kernel_rfl) ?_) | ((with_reducible show holds _ _ _ _ (.rd (loadVar _ _) _ _) _); refine lv3 (by repeat (first | exact mq0 | apply mq1 | apply mq2)) (by rfl) (by kernel_rfl) ?_) | ((with_reducible show holds _ _ _ _ (.unit (Instr.storeAt _ _ _) _) _); refine stU (by repeat (first | exact Upd.here | apply Upd.there | apply Upd.right)) (by kernel_rfl) (by rfl) (by simp [Value.cells]) ?_) | ((with_reducible show holds _ _ _ _ (.pin (vN (Instr.loadAt _ _)) _ _) _); first | refine pnA (by repeat (first | exact mq0 | apply mq1 | apply mq2)) (by rfl) (by kernel_rfl) ?_ | refine pn1 (by repeat (first | exact mq0 | apply mq1 | apply mq2)) (by rfl) (by kernel_rfl) ?_)); try dsimp only [getL]))
  refine h_call0 (getL [{ i := (num l 6 2 : Nat) }, { b := true }]) ca_num_Get16 (fun hl => get16_in (i := 6) (up hl) hn hc (by omega) (by omega)) rfl ?_
  dsimp only [getL]
  (repeat ((first | refine h_box fun _ _ _ => ?_ | ((with_reducible show holds _ _ _ _ (.sem (Instr.alloc 43 _ _) _ _) _); refine h_alloc zb_DualEntry_43 fun _ _ _ => ?_) | ((with_reducible show holds _ _ _ _ (.rd (Instr.loadAt _ (.pointer _)) _ _) _); first | refine ldI (by repeat (first | exact mq0 | apply mq1 | apply mq2)) (by rfl) (by kernel_rfl) ?_ | refine la3 (by repeat (first | exact mq0 | apply mq1 | apply mq2)) (by rfl) (by kernel_rfl) ?_) | ((with_reducible show holds _ _ _ _ (.rd (loadVar _ _) _ _) _); refine lv3 (by repeat (first | exact mq0 | apply mq1 | apply mq2)) (by rfl) (by kernel_rfl) ?_) | ((with_reducible show holds _ _ _ _ (.unit (Instr.storeAt _ _ _) _) _); refine stU (by repeat (first | exact Upd.here | apply Upd.there | apply Upd.right)) (by kernel_rfl) (by rfl) (by simp [Value.cells]) ?_) | ((with_reducible show holds _ _ _ _ (.pin (vN (Instr.loadAt _ _)) _ _) _); first | refine pnA (by repeat (first | exact mq0 | apply mq1 | apply mq2)) (by rfl) (by kernel_rfl) ?_ | refine pn1 (by repeat (first | exact mq0 | apply mq1 | apply mq2)) (by rfl) (by kernel_rfl) ?_)); try dsimp only [getL]))
  refine h_call0 (getL [{ i := (num l 8 4 : Nat) }, { b := true }]) ca_num_Get32 (fun hl => get32_in (i := 8) (up hl) hn hc (by omega) (by omega)) rfl ?_
  refine h_call0 (getL [{ i := (num l 12 4 : Nat) }, { b := true }]) ca_num_Get32 (fun hl => get32_in (i := 12) (up hl) hn hc (by omega) (by omega)) rfl ?_
  dsimp only [getL]
  rw [wrap64 (x := ((num l 8 4 : Nat) : Int)) (by omega), wrap64 (x := ((num l 12 4 : Nat) : Int)) (by omega)]
  (repeat ((first | refine h_box fun _ _ _ => ?_ | ((with_reducible show holds _ _ _ _ (.sem (Instr.alloc 43 _ _) _ _) _); refine h_alloc zb_DualEntry_43 fun _ _ _ => ?_) | ((with_reducible show holds _ _ _ _ (.rd (Instr.loadAt _ (.pointer _)) _ _) _); first | refine ldI (by repeat (first | exact mq0 | apply mq1 | apply mq2)) (by rfl) (by kernel_rfl) ?_ | refine la3 (by repeat (first | exact mq0 | apply mq1 | apply mq2)) (by rfl) (by kernel_rfl) ?_) | ((with_reducible show holds _ _ _ _ (.rd (loadVar _ _) _ _) _); refine lv3 (by repeat (first | exact mq0 | apply mq1 | apply mq2)) (by rfl) (by kernel_rfl) ?_) | ((with_reducible show holds _ _ _ _ (.unit (Instr.storeAt _ _ _) _) _); refine stU (by repeat (first | exact Upd.here | apply Upd.there | apply Upd.right)) (by kernel_rfl) (by rfl) (by simp [Value.cells]) ?_) | ((with_reducible show holds _ _ _ _ (.pin (vN (Instr.loadAt _ _)) _ _) _); first | refine pnA (by repeat (first | exact mq0 | apply mq1 | apply mq2)) (by rfl) (by kernel_rfl) ?_ | refine pn1 (by repeat (first | exact mq0 | apply mq1 | apply mq2)) (by rfl) (by kernel_rfl) ?_)); try dsimp only [getL]))
  exact h_end0 ⟨rfl, rfl⟩
/-- An entry's cells. -/
def dentC (J : Ctx) (e : DEnt) (cs : List Value) : Prop := cs = e.cs ∧ e.ok
theorem dentC.len (J : Ctx) (e : DEnt) (cs : List Value) (h : dentC J e cs) : cs.length = 6 := by rw [h.1]; rfl
def DEntsIn (J : Ctx) (A : Option Addr) (es : List DEnt) : Prop := ∃ cs, RdC J [] A cs ∧ rowC (dentC J) es cs
theorem DEntsIn.up {J J' : Ctx} {A : Option Addr} {es : List DEnt} (h : DEntsIn J A es) (hs : ∀ b o, J b = some o → J' b = some o) : DEntsIn J' A es := by
  obtain ⟨cs, h1, h2⟩ := h
  exact ⟨cs, h1.up hs, h2.mono fun o c h => h⟩
theorem DEntsIn.get {J : Ctx} {A : Option Addr} {es : List DEnt} (h : DEntsIn J A es) {i : Nat} (hi : i < es.length) : ∃ a, A = some a ∧ es[i].ok ∧ Cells J [] (a.add (i * 6)) es[i].cs := by
  obtain ⟨cs, h1, h2⟩ := h
  obtain ⟨a, c, rfl, ⟨rfl, hok⟩, hc⟩ := h2.at (dentC.len J) h1 (by omega) (List.getElem?_eq_getElem hi)
  exact ⟨a, rfl, hok, hc⟩
theorem DEntsIn.oks {J : Ctx} {A : Option Addr} {es : List DEnt} (h : DEntsIn J A es) : ∀ e ∈ es, e.ok := by
  intro e he
  obtain ⟨i, hi⟩ := List.getElem?_of_mem he
  obtain ⟨hi2, rfl⟩ := List.getElem?_eq_some_iff.1 hi
  exact (h.get hi2).choose_spec.2.1
theorem DEntsIn.nil {J : Ctx} {A : Option Addr} {es : List DEnt} (h : DEntsIn J A es) : A = none → es.length = 0 := by
  rintro rfl
  by_cases he : es.length = 0
  · exact he
  · obtain ⟨a, h1, _⟩ := h.get (i := 0) (by omega)
    cases h1
theorem doddIx_loop {J : Ctx} {A : Option Addr} {c : Nat} {es : List DEnt} (hin : DEntsIn J A es) (hbd : es.length ≤ 1000000) :
    ∀ (k i : Nat) (u : Nat → Value) (h : Mem), i + k = es.length → (es.take i).all dentB = true →
    Wp Try.prog 32 k_slices_IndexFunc_DualEntry_1 (t_slices_IndexFunc_DualEntry_1 A es.length c i u) J h (cl_ fun v h' => (∃ x : Int, v = .int .i64 x ∧ (0 ≤ x ↔ es.all dentB = false)) ∧ h' = []) := by
  intro k
  induction k with
  | zero =>
    intro i u h hik hno
    refine r_slices_IndexFunc_DualEntry_1 _ _ _ _ _ ?_
    refine h_no (by simp; omega) ?_
    refine h_end0 ⟨⟨-1, rfl, ?_⟩, rfl⟩
    rw [List.take_of_length_le (by omega)] at hno
    rw [hno]
    simp
  | succ k ih =>
    intro i u h hik hno
    have hi : i < es.length := by omega
    obtain ⟨a, rfl, hok, hc⟩ := hin.get hi
    refine r_slices_IndexFunc_DualEntry_1 _ _ _ _ _ ?_
    refine h_yes (by simp; omega) ?_
    refine h_index a rfl (sz := 6) (by kernel_rfl) (by omega) (by omega) rfl ?_
    dsimp only
    rw [Int.toNat_natCast]
    refine h_loadA (cs := es[i].cs) es[i].ls (by kernel_rfl) (by kernel_rfl) (hc.sub Sub.self) rfl ?_
    dsimp only [getL, DEnt.ls]
    refine h_call0 (v := .bool (!dentB es[i])) (fun _ => { b := !dentB es[i] }) ca_dualpkt_Encode_fn1 (fun hl => dodd_spec hok) rfl ?_
    refine h_ite (fun hb => ?_) (fun hb => ?_)
    · refine h_end0 ⟨⟨i, rfl, ?_⟩, rfl⟩
      have : es.all dentB = false := by
        rw [List.all_eq_false]
        exact ⟨es[i], List.getElem_mem hi, by simpa using hb⟩
      rw [this]
      simp
    · refine h_stop fun hl => ?_
      rw [wrapS (by omega)]
      refine ih (i + 1) _ h (by omega) ?_
      rw [List.take_succ_eq_append_getElem hi, List.all_append, hno]
      simpa using hb
theorem dodds_spec {J : Ctx} {A : Option Addr} {c : Nat} {es : List DEnt} (hin : DEntsIn J A es) (hbd : es.length ≤ 1000000) :
    Fn Try.prog 17 #[.slice A es.length c, .func (.func 15) #[] #[]] J [] (fun v h' => v = .bool (!es.all dentB) ∧ h' = []) := by
  refine r_slices_ContainsFunc_DualEntry _ _ _ ?_
  refine h_call [] _ ca_slices_IndexFunc_DualEntry (List.Perm.refl _) (fun hl => ?_) (Qc := fun v h' => (∃ x : Int, v = .int .i64 x ∧ (0 ≤ x ↔ es.all dentB = false)) ∧ h' = []) ?_
  · refine r_slices_IndexFunc_DualEntry _ _ _ ?_
    refine h_stop fun hl2 => ?_
    exact doddIx_loop (hin.up (Sub.self.up hl)) hbd es.length 0 _ _ (by omega) (by simp)
  · rintro v h1 ⟨⟨x, rfl, hx⟩, rfl⟩
    refine ⟨fun _ => { i := x }, rfl, ?_⟩
    refine h_end0 ⟨?_, rfl⟩
    dsimp only
    cases ha : es.all dentB with
    | true =>
      rw [decide_eq_false (p := x ≥ 0) (fun h => by have := hx.1 h; rw [ha] at this; cases this)]
      rfl
    | false =>
      rw [decide_eq_true (p := x ≥ 0) (hx.2 ha)]
      rfl
/-- Without its sum. -/
def zs (l : List UInt8) : List UInt8 := (l.set 2 0).set 3 0
theorem dsum_spec {I : Ctx} {A : Option Addr} {n c : Nat} {l : List UInt8} (hr : RdB I A n l) (h4 : 4 ≤ n) (hn : n ≤ 1000000) : Fn Try.prog 21 #[.slice A n c] I [] (GivesB (be 2 (sumN (zs l)))) := by
  have hln := hr.len
  refine r_dualpkt_sum _ _ _ ?_
  refine h_call [] _ ca_slices_Clone_byte (List.Perm.refl _) (fun hl => clone_spec (hr.up (Sub.self.up hl)) hn) ?_
  rintro v h1 ⟨A1, c1, rfl, ho1⟩
  refine ⟨fun _ => { A := A1, n := l.length, c := c1 }, rfl, ?_⟩
  dsimp only
  obtain ⟨a, rfl⟩ : ∃ a, A1 = some a := by
    cases A1 with
    | none => have := ho1.some_of rfl; omega
    | some a => exact ⟨a, rfl⟩
  refine h_index (e := 5) a (sz := 1) (by kernel_rfl) (by kernel_rfl) (by omega) (by omega) rfl ?_
  dsimp only
  refine h_storeE 2 (hr := []) (cl_.aff _) (List.Perm.refl _) ho1 rfl (by kernel_rfl) (by simp [Value.cells]; omega) (by simp [Value.cells]) ?_
  intro m2 ho2
  have ho2 : OwnB (some a) l.length c1 (l.set 2 0) m2 := by
    have hw := wr_set (l := l) (i := 2) (b := 0) (by omega)
    show Own 5 1 (some a) l.length c1 (bC (l.set 2 0)) m2
    rw [← hw]; exact ho2
  refine h_index (e := 5) a (sz := 1) (by kernel_rfl) (by kernel_rfl) (by omega) (by omega) rfl ?_
  dsimp only
  refine h_storeE 3 (hr := []) (cl_.aff _) (List.Perm.refl _) ho2 rfl (by kernel_rfl) (by simp [Value.cells]; omega) (by simp [Value.cells]) ?_
  intro m3 ho3
  have ho3 : OwnB (some a) l.length c1 (zs l) m3 := by
    have hw := wr_set (l := l.set 2 0) (i := 3) (b := 0) (by simp; omega)
    show Own 5 1 (some a) l.length c1 (bC ((l.set 2 0).set 3 0)) m3
    rw [← hw]; exact ho3
  refine h_call0 (v := .int .u16 (sumN (zs l) : Nat)) (fun _ => { i := (sumN (zs l) : Nat) }) ca_num_Sum (fun hl => sum_spec (ho3.rdb hl (fun x hx => by first | (simp [hx]; done) | (rw [List.mem_singleton] at hx; subst hx; simp; done))) (by omega)) rfl ?_
  refine h_call [] _ ca_num_Put16 (List.Perm.refl _) (fun hl => Put16_spec (by have : sumN (zs l) ≤ 65535 := Nat.sub_le _ _; omega)) ?_
  rintro v h5 ⟨A5, c5, rfl, ho5⟩
  refine ⟨fun _ => { A := A5, n := (be 2 (sumN (zs l))).length, c := c5 }, rfl, ?_⟩
  exact h_end (by repeat (first | exact Pick.here | exact Pick.one | apply Pick.two | apply Pick.cons | apply Pick.app)) ⟨A5, c5, rfl, ho5⟩
end Go.Proofs.YtkdakglnhipmaaaS
