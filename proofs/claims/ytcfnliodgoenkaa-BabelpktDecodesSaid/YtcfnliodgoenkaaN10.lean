import Derived.Test.YtcfnliodgoenkaaN9
import Derived.Test.YtcfnliodgoenkaaTA
set_option linter.unusedVariables false
namespace Go.Proofs.YtcfnliodgoenkaaS
theorem low16_nat {n : Nat} (h : n < 65536) : low16 (n : Int) = n := by unfold low16; omega
set_option maxHeartbeats 2000000 in
theorem rpart_spec {I : Ctx} {st : Wst} {t : Tlv} (ho : t.ok) (hm : mayT t = true) (hk2 : t.kind ≠ 2) : Fn Try.prog 26 #[t.vv] I [] (GivesB (partB st t)) := by
  obtain ⟨hn, hkr, hiv, hco, hho⟩ := may_facts hm
  have hal := addrB_len (a := t.a) hn
  have hnd := nd_le hn
  have hseq := ho.seq
  refine r_octroiref06_part _ _ _ _ _ _ _ _ _ ?_
  (repeat ((first | refine h_box fun _ _ _ => ?_ | ((with_reducible show holds _ _ _ _ (.rd (Instr.loadAt _ (.pointer _)) _ _) _); refine ldI (by repeat (first | exact mq0 | apply mq1 | apply mq2)) (by rfl) (by kernel_rfl) ?_) | ((with_reducible show holds _ _ _ _ (.pin (vN (Instr.loadAt _ _)) _ _) _); first | refine pnA (by repeat (first | exact mq0 | apply mq1 | apply mq2)) (by rfl) (by kernel_rfl) ?_ | refine pn1 (by repeat (first | exact mq0 | apply mq1 | apply mq2)) (by rfl) (by kernel_rfl) ?_)); try dsimp only [getL]))
  refine h_call0 (v := .int .i64 (nd t.n : Nat)) (fun _ => { i := (nd t.n : Nat) }) ca_octroiref06_needs (fun hl => octroiref06_needs_nd (by omega)) rfl ?_
  dsimp only
  (repeat ((first | refine h_box fun _ _ _ => ?_ | ((with_reducible show holds _ _ _ _ (.rd (Instr.loadAt _ (.pointer _)) _ _) _); refine ldI (by repeat (first | exact mq0 | apply mq1 | apply mq2)) (by rfl) (by kernel_rfl) ?_) | ((with_reducible show holds _ _ _ _ (.pin (vN (Instr.loadAt _ _)) _ _) _); first | refine pnA (by repeat (first | exact mq0 | apply mq1 | apply mq2)) (by rfl) (by kernel_rfl) ?_ | refine pn1 (by repeat (first | exact mq0 | apply mq1 | apply mq2)) (by rfl) (by kernel_rfl) ?_)); try dsimp only [getL]))
  refine h_call [] _ ca_octroiref06_addr (List.Perm.refl _) (fun hl => raddr4 ho.a hnd) ?_
  rintro v hA ⟨AA, cA, rfl, hoA⟩
  have hoA : OwnB AA (addrB t.a t.n).length cA (addrB t.a t.n) hA := hoA
  refine ⟨fun _ => { A := AA, n := (addrB t.a t.n).length, c := cA }, rfl, ?_⟩
  refine h_row (e := 5) #[.int .u8 0, .int .u8 0] (by kernel_rfl) fun gr0 hgr0 hIr0 => ?_
  dsimp only
  have r0 : OwnB (some ⟨gr0, 0, none⟩) 2 2 [0, 0] [(gr0, .cells #[.int .u8 0, .int .u8 0] 5 (0, 0))] := Own.row (n := 2) rfl
  (repeat ((first | refine h_box fun _ _ _ => ?_ | ((with_reducible show holds _ _ _ _ (.rd (Instr.loadAt _ (.pointer _)) _ _) _); refine ldI (by repeat (first | exact mq0 | apply mq1 | apply mq2)) (by rfl) (by kernel_rfl) ?_) | ((with_reducible show holds _ _ _ _ (.pin (vN (Instr.loadAt _ _)) _ _) _); first | refine pnA (by repeat (first | exact mq0 | apply mq1 | apply mq2)) (by rfl) (by kernel_rfl) ?_ | refine pn1 (by repeat (first | exact mq0 | apply mq1 | apply mq2)) (by rfl) (by kernel_rfl) ?_)); try dsimp only [getL]))
  refine h_ite (fun k0 => ?_) (fun k0 => ?_)
  · have hk : t.kind = 0 := by simpa using k0
    (repeat ((first | refine h_box fun _ _ _ => ?_ | ((with_reducible show holds _ _ _ _ (.rd (Instr.loadAt _ (.pointer _)) _ _) _); refine ldI (by repeat (first | exact mq0 | apply mq1 | apply mq2)) (by rfl) (by kernel_rfl) ?_) | ((with_reducible show holds _ _ _ _ (.pin (vN (Instr.loadAt _ _)) _ _) _); first | refine pnA (by repeat (first | exact mq0 | apply mq1 | apply mq2)) (by rfl) (by kernel_rfl) ?_ | refine pn1 (by repeat (first | exact mq0 | apply mq1 | apply mq2)) (by rfl) (by kernel_rfl) ?_)); try dsimp only [getL]))
    rw [wrap64 (x := (t.seq : Int)) (by omega)]
    refine h_call [] _ ca_octroiref06_two (List.Perm.refl _) (fun hl => rtwo_spec (by omega)) ?_
    rintro v h1 ⟨A1, c1, rfl, ho1⟩
    refine ⟨fun _ => { A := A1, n := (be 2 (low16 (t.seq : Nat))).length, c := c1 }, rfl, ?_⟩
    dsimp only
    (repeat ((first | refine h_box fun _ _ _ => ?_ | ((with_reducible show holds _ _ _ _ (.rd (Instr.loadAt _ (.pointer _)) _ _) _); refine ldI (by repeat (first | exact mq0 | apply mq1 | apply mq2)) (by rfl) (by kernel_rfl) ?_) | ((with_reducible show holds _ _ _ _ (.pin (vN (Instr.loadAt _ _)) _ _) _); first | refine pnA (by repeat (first | exact mq0 | apply mq1 | apply mq2)) (by rfl) (by kernel_rfl) ?_ | refine pn1 (by repeat (first | exact mq0 | apply mq1 | apply mq2)) (by rfl) (by kernel_rfl) ?_)); try dsimp only [getL]))
    refine h_append (cl_.aff _) eb_uint8 (by kernel_rfl) (cs2 := bC (be 2 (low16 (t.seq : Nat)))) (ho1.rd (fun x hx => by first | (simp [hx]; done) | (rw [List.mem_singleton] at hx; subst hx; simp; done))) ho1.some_of (by simp) (bC_plain _) (m := [(gr0, .cells #[.int .u8 0, .int .u8 0] 5 (0, 0))]) (by repeat (first | exact Pick.here | exact Pick.one | exact Pick.all | apply Pick.two | apply Pick.cons | apply Pick.app)) r0 (by (try simp only [tlvB_len, List.length_append, longB_len, be_length, List.length_cons, List.length_nil]); omega) (by omega) ?_
    intro X2 d2 m2 o2
    rw [← bC_append] at o2
    dsimp only at o2 ⊢
    (repeat ((first | refine h_box fun _ _ _ => ?_ | ((with_reducible show holds _ _ _ _ (.rd (Instr.loadAt _ (.pointer _)) _ _) _); refine ldI (by repeat (first | exact mq0 | apply mq1 | apply mq2)) (by rfl) (by kernel_rfl) ?_) | ((with_reducible show holds _ _ _ _ (.pin (vN (Instr.loadAt _ _)) _ _) _); first | refine pnA (by repeat (first | exact mq0 | apply mq1 | apply mq2)) (by rfl) (by kernel_rfl) ?_ | refine pn1 (by repeat (first | exact mq0 | apply mq1 | apply mq2)) (by rfl) (by kernel_rfl) ?_)); try dsimp only [getL]))
    refine h_call [] _ ca_octroiref06_two (List.Perm.refl _) (fun hl => rtwo_spec hiv) ?_
    rintro v h3 ⟨A3, c3, rfl, ho3⟩
    refine ⟨fun _ => { A := A3, n := (be 2 (low16 t.iv)).length, c := c3 }, rfl, ?_⟩
    dsimp only
    (repeat ((first | refine h_box fun _ _ _ => ?_ | ((with_reducible show holds _ _ _ _ (.rd (Instr.loadAt _ (.pointer _)) _ _) _); refine ldI (by repeat (first | exact mq0 | apply mq1 | apply mq2)) (by rfl) (by kernel_rfl) ?_) | ((with_reducible show holds _ _ _ _ (.pin (vN (Instr.loadAt _ _)) _ _) _); first | refine pnA (by repeat (first | exact mq0 | apply mq1 | apply mq2)) (by rfl) (by kernel_rfl) ?_ | refine pn1 (by repeat (first | exact mq0 | apply mq1 | apply mq2)) (by rfl) (by kernel_rfl) ?_)); try dsimp only [getL]))
    refine h_append (cl_.aff _) eb_uint8 (by kernel_rfl) (cs2 := bC (be 2 (low16 t.iv))) (ho3.rd (fun x hx => by first | (simp [hx]; done) | (rw [List.mem_singleton] at hx; subst hx; simp; done))) ho3.some_of (by simp) (bC_plain _) (m := m2) (by repeat (first | exact Pick.here | exact Pick.one | exact Pick.all | apply Pick.two | apply Pick.cons | apply Pick.app)) o2 (by (try simp only [tlvB_len, List.length_append, longB_len, be_length, List.length_cons, List.length_nil]); omega) (by omega) ?_
    intro X4 d4 m4 o4
    rw [← bC_append] at o4
    dsimp only at o4 ⊢
    (repeat ((first | refine h_box fun _ _ _ => ?_ | ((with_reducible show holds _ _ _ _ (.rd (Instr.loadAt _ (.pointer _)) _ _) _); refine ldI (by repeat (first | exact mq0 | apply mq1 | apply mq2)) (by rfl) (by kernel_rfl) ?_) | ((with_reducible show holds _ _ _ _ (.pin (vN (Instr.loadAt _ _)) _ _) _); first | refine pnA (by repeat (first | exact mq0 | apply mq1 | apply mq2)) (by rfl) (by kernel_rfl) ?_ | refine pn1 (by repeat (first | exact mq0 | apply mq1 | apply mq2)) (by rfl) (by kernel_rfl) ?_)); try dsimp only [getL]))
    rw [low16_nat hseq] at o4 ⊢
    have hll := OwnB.len o4
    refine h_call [] _ ca_octroiref06_tlv (List.Perm.refl _) (fun hl => rtlv_spec (k := 4) (OwnB.rdb o4 hl (fun x hx => by first | (simp [hx]; done) | (rw [List.mem_singleton] at hx; subst hx; simp; done))) (by (try simp only [longB_len, be_length, List.length_cons, List.length_nil]); omega)) ?_
    rintro v h99 ⟨A99, c99, rfl, ho99⟩
    refine ⟨fun _ => { A := A99, n := _, c := c99 }, rfl, ?_⟩
    have hpb : partB st t = tlvB 4 ([0, 0] ++ (be 2 t.seq ++ be 2 (low16 t.iv))) := by unfold partB; simp [hk]
    rw [hpb]
    simp only [List.append_assoc] at ho99 ⊢
    exact h_end (by repeat (first | exact Pick.here | exact Pick.one | exact Pick.all | apply Pick.two | apply Pick.cons | apply Pick.app)) ⟨A99, c99, rfl, ho99⟩
  refine h_ite (fun k1 => ?_) (fun k1 => ?_)
  · have hk : t.kind = 1 := by simpa using k1
    (repeat ((first | refine h_box fun _ _ _ => ?_ | ((with_reducible show holds _ _ _ _ (.rd (Instr.loadAt _ (.pointer _)) _ _) _); refine ldI (by repeat (first | exact mq0 | apply mq1 | apply mq2)) (by rfl) (by kernel_rfl) ?_) | ((with_reducible show holds _ _ _ _ (.pin (vN (Instr.loadAt _ _)) _ _) _); first | refine pnA (by repeat (first | exact mq0 | apply mq1 | apply mq2)) (by rfl) (by kernel_rfl) ?_ | refine pn1 (by repeat (first | exact mq0 | apply mq1 | apply mq2)) (by rfl) (by kernel_rfl) ?_)); try dsimp only [getL]))
    refine h_call [] _ ca_octroiref06_two (List.Perm.refl _) (fun hl => rtwo_spec hco) ?_
    rintro v h1 ⟨A1, c1, rfl, ho1⟩
    refine ⟨fun _ => { A := A1, n := (be 2 (low16 t.cost)).length, c := c1 }, rfl, ?_⟩
    dsimp only
    (repeat ((first | refine h_box fun _ _ _ => ?_ | ((with_reducible show holds _ _ _ _ (.rd (Instr.loadAt _ (.pointer _)) _ _) _); refine ldI (by repeat (first | exact mq0 | apply mq1 | apply mq2)) (by rfl) (by kernel_rfl) ?_) | ((with_reducible show holds _ _ _ _ (.pin (vN (Instr.loadAt _ _)) _ _) _); first | refine pnA (by repeat (first | exact mq0 | apply mq1 | apply mq2)) (by rfl) (by kernel_rfl) ?_ | refine pn1 (by repeat (first | exact mq0 | apply mq1 | apply mq2)) (by rfl) (by kernel_rfl) ?_)); try dsimp only [getL]))
    refine h_append (cl_.aff _) eb_uint8 (by kernel_rfl) (cs2 := bC (be 2 (low16 t.cost))) (ho1.rd (fun x hx => by first | (simp [hx]; done) | (rw [List.mem_singleton] at hx; subst hx; simp; done))) ho1.some_of (by simp) (bC_plain _) (m := [(gr0, .cells #[.int .u8 0, .int .u8 0] 5 (0, 0))]) (by repeat (first | exact Pick.here | exact Pick.one | exact Pick.all | apply Pick.two | apply Pick.cons | apply Pick.app)) r0 (by (try simp only [tlvB_len, List.length_append, longB_len, be_length, List.length_cons, List.length_nil]); omega) (by omega) ?_
    intro X2 d2 m2 o2
    rw [← bC_append] at o2
    dsimp only at o2 ⊢
    (repeat ((first | refine h_box fun _ _ _ => ?_ | ((with_reducible show holds _ _ _ _ (.rd (Instr.loadAt _ (.pointer _)) _ _) _); refine ldI (by repeat (first | exact mq0 | apply mq1 | apply mq2)) (by rfl) (by kernel_rfl) ?_) | ((with_reducible show holds _ _ _ _ (.pin (vN (Instr.loadAt _ _)) _ _) _); first | refine pnA (by repeat (first | exact mq0 | apply mq1 | apply mq2)) (by rfl) (by kernel_rfl) ?_ | refine pn1 (by repeat (first | exact mq0 | apply mq1 | apply mq2)) (by rfl) (by kernel_rfl) ?_)); try dsimp only [getL]))
    refine h_call [] _ ca_octroiref06_two (List.Perm.refl _) (fun hl => rtwo_spec hiv) ?_
    rintro v h3 ⟨A3, c3, rfl, ho3⟩
    refine ⟨fun _ => { A := A3, n := (be 2 (low16 t.iv)).length, c := c3 }, rfl, ?_⟩
    dsimp only
    (repeat ((first | refine h_box fun _ _ _ => ?_ | ((with_reducible show holds _ _ _ _ (.rd (Instr.loadAt _ (.pointer _)) _ _) _); refine ldI (by repeat (first | exact mq0 | apply mq1 | apply mq2)) (by rfl) (by kernel_rfl) ?_) | ((with_reducible show holds _ _ _ _ (.pin (vN (Instr.loadAt _ _)) _ _) _); first | refine pnA (by repeat (first | exact mq0 | apply mq1 | apply mq2)) (by rfl) (by kernel_rfl) ?_ | refine pn1 (by repeat (first | exact mq0 | apply mq1 | apply mq2)) (by rfl) (by kernel_rfl) ?_)); try dsimp only [getL]))
    refine h_append (cl_.aff _) eb_uint8 (by kernel_rfl) (cs2 := bC (be 2 (low16 t.iv))) (ho3.rd (fun x hx => by first | (simp [hx]; done) | (rw [List.mem_singleton] at hx; subst hx; simp; done))) ho3.some_of (by simp) (bC_plain _) (m := m2) (by repeat (first | exact Pick.here | exact Pick.one | exact Pick.all | apply Pick.two | apply Pick.cons | apply Pick.app)) o2 (by (try simp only [tlvB_len, List.length_append, longB_len, be_length, List.length_cons, List.length_nil]); omega) (by omega) ?_
    intro X4 d4 m4 o4
    rw [← bC_append] at o4
    dsimp only at o4 ⊢
    (repeat ((first | refine h_box fun _ _ _ => ?_ | ((with_reducible show holds _ _ _ _ (.rd (Instr.loadAt _ (.pointer _)) _ _) _); refine ldI (by repeat (first | exact mq0 | apply mq1 | apply mq2)) (by rfl) (by kernel_rfl) ?_) | ((with_reducible show holds _ _ _ _ (.pin (vN (Instr.loadAt _ _)) _ _) _); first | refine pnA (by repeat (first | exact mq0 | apply mq1 | apply mq2)) (by rfl) (by kernel_rfl) ?_ | refine pn1 (by repeat (first | exact mq0 | apply mq1 | apply mq2)) (by rfl) (by kernel_rfl) ?_)); try dsimp only [getL]))
    have hll := OwnB.len o4
    refine h_call [] _ ca_octroiref06_tlv (List.Perm.refl _) (fun hl => rtlv_spec (k := 5) (OwnB.rdb o4 hl (fun x hx => by first | (simp [hx]; done) | (rw [List.mem_singleton] at hx; subst hx; simp; done))) (by (try simp only [longB_len, be_length, List.length_cons, List.length_nil]); omega)) ?_
    rintro v h99 ⟨A99, c99, rfl, ho99⟩
    refine ⟨fun _ => { A := A99, n := _, c := c99 }, rfl, ?_⟩
    have hpb : partB st t = tlvB 5 ([0, 0] ++ (be 2 (low16 t.cost) ++ be 2 (low16 t.iv))) := by unfold partB; simp [hk]
    rw [hpb]
    simp only [List.append_assoc] at ho99 ⊢
    exact h_end (by repeat (first | exact Pick.here | exact Pick.one | exact Pick.all | apply Pick.two | apply Pick.cons | apply Pick.app)) ⟨A99, c99, rfl, ho99⟩
  refine h_ite (fun k3 => ?_) (fun k3 => ?_)
  · have hk : t.kind = 3 := by simpa using k3
    (repeat ((first | refine h_box fun _ _ _ => ?_ | ((with_reducible show holds _ _ _ _ (.rd (Instr.loadAt _ (.pointer _)) _ _) _); refine ldI (by repeat (first | exact mq0 | apply mq1 | apply mq2)) (by rfl) (by kernel_rfl) ?_) | ((with_reducible show holds _ _ _ _ (.pin (vN (Instr.loadAt _ _)) _ _) _); first | refine pnA (by repeat (first | exact mq0 | apply mq1 | apply mq2)) (by rfl) (by kernel_rfl) ?_ | refine pn1 (by repeat (first | exact mq0 | apply mq1 | apply mq2)) (by rfl) (by kernel_rfl) ?_)); try dsimp only [getL]))
    simp only [wrap8b]
    refine h_row (e := 5) #[.int .u8 1, .int .u8 ((lowB t.n).toNat : Int)] (by kernel_rfl) fun gr1 hgr1 hIr1 => ?_
    dsimp only
    have r1 : OwnB (some ⟨gr1, 0, none⟩) 2 2 [1, lowB t.n] [(gr1, .cells #[.int .u8 1, .int .u8 ((lowB t.n).toNat : Int)] 5 (0, 0))] := Own.row (n := 2) rfl
    (repeat ((first | refine h_box fun _ _ _ => ?_ | ((with_reducible show holds _ _ _ _ (.rd (Instr.loadAt _ (.pointer _)) _ _) _); refine ldI (by repeat (first | exact mq0 | apply mq1 | apply mq2)) (by rfl) (by kernel_rfl) ?_) | ((with_reducible show holds _ _ _ _ (.pin (vN (Instr.loadAt _ _)) _ _) _); first | refine pnA (by repeat (first | exact mq0 | apply mq1 | apply mq2)) (by rfl) (by kernel_rfl) ?_ | refine pn1 (by repeat (first | exact mq0 | apply mq1 | apply mq2)) (by rfl) (by kernel_rfl) ?_)); try dsimp only [getL]))
    refine h_append (cl_.aff _) eb_uint8 (by kernel_rfl) (cs2 := bC (addrB t.a t.n)) (hoA.rd (fun x hx => by first | (simp [hx]; done) | (rw [List.mem_singleton] at hx; subst hx; simp; done))) hoA.some_of (by simp) (bC_plain _) (m := [(gr1, .cells #[.int .u8 1, .int .u8 ((lowB t.n).toNat : Int)] 5 (0, 0))]) (by repeat (first | exact Pick.here | exact Pick.one | exact Pick.all | apply Pick.two | apply Pick.cons | apply Pick.app)) r1 (by (try simp only [tlvB_len, List.length_append, longB_len, be_length, List.length_cons, List.length_nil]); omega) (by omega) ?_
    intro X4 d4 m4 o4
    rw [← bC_append] at o4
    dsimp only at o4 ⊢
    (repeat ((first | refine h_box fun _ _ _ => ?_ | ((with_reducible show holds _ _ _ _ (.rd (Instr.loadAt _ (.pointer _)) _ _) _); refine ldI (by repeat (first | exact mq0 | apply mq1 | apply mq2)) (by rfl) (by kernel_rfl) ?_) | ((with_reducible show holds _ _ _ _ (.pin (vN (Instr.loadAt _ _)) _ _) _); first | refine pnA (by repeat (first | exact mq0 | apply mq1 | apply mq2)) (by rfl) (by kernel_rfl) ?_ | refine pn1 (by repeat (first | exact mq0 | apply mq1 | apply mq2)) (by rfl) (by kernel_rfl) ?_)); try dsimp only [getL]))
    have hll := OwnB.len o4
    refine h_call [] _ ca_octroiref06_tlv (List.Perm.refl _) (fun hl => rtlv_spec (k := 9) (OwnB.rdb o4 hl (fun x hx => by first | (simp [hx]; done) | (rw [List.mem_singleton] at hx; subst hx; simp; done))) (by (try simp only [longB_len, be_length, List.length_cons, List.length_nil]); omega)) ?_
    rintro v h99 ⟨A99, c99, rfl, ho99⟩
    refine ⟨fun _ => { A := A99, n := _, c := c99 }, rfl, ?_⟩
    have hpb : partB st t = tlvB 9 ([1, lowB t.n] ++ addrB t.a t.n) := by unfold partB; simp [hk]
    rw [hpb]
    simp only [List.append_assoc] at ho99 ⊢
    exact h_end (by repeat (first | exact Pick.here | exact Pick.one | exact Pick.all | apply Pick.two | apply Pick.cons | apply Pick.app)) ⟨A99, c99, rfl, ho99⟩
  have hk : t.kind = 4 := by simp at k0 k1 k3; omega
  (repeat ((first | refine h_box fun _ _ _ => ?_ | ((with_reducible show holds _ _ _ _ (.rd (Instr.loadAt _ (.pointer _)) _ _) _); refine ldI (by repeat (first | exact mq0 | apply mq1 | apply mq2)) (by rfl) (by kernel_rfl) ?_) | ((with_reducible show holds _ _ _ _ (.pin (vN (Instr.loadAt _ _)) _ _) _); first | refine pnA (by repeat (first | exact mq0 | apply mq1 | apply mq2)) (by rfl) (by kernel_rfl) ?_ | refine pn1 (by repeat (first | exact mq0 | apply mq1 | apply mq2)) (by rfl) (by kernel_rfl) ?_)); try dsimp only [getL]))
  simp only [wrap8b]
  refine h_row (e := 5) #[.int .u8 1, .int .u8 ((lowB t.n).toNat : Int)] (by kernel_rfl) fun gr1 hgr1 hIr1 => ?_
  dsimp only
  have r1 : OwnB (some ⟨gr1, 0, none⟩) 2 2 [1, lowB t.n] [(gr1, .cells #[.int .u8 1, .int .u8 ((lowB t.n).toNat : Int)] 5 (0, 0))] := Own.row (n := 2) rfl
  (repeat ((first | refine h_box fun _ _ _ => ?_ | ((with_reducible show holds _ _ _ _ (.rd (Instr.loadAt _ (.pointer _)) _ _) _); refine ldI (by repeat (first | exact mq0 | apply mq1 | apply mq2)) (by rfl) (by kernel_rfl) ?_) | ((with_reducible show holds _ _ _ _ (.pin (vN (Instr.loadAt _ _)) _ _) _); first | refine pnA (by repeat (first | exact mq0 | apply mq1 | apply mq2)) (by rfl) (by kernel_rfl) ?_ | refine pn1 (by repeat (first | exact mq0 | apply mq1 | apply mq2)) (by rfl) (by kernel_rfl) ?_)); try dsimp only [getL]))
  rw [wrap64 (x := (t.seq : Int)) (by omega)]
  refine h_call [] _ ca_octroiref06_two (List.Perm.refl _) (fun hl => rtwo_spec (by omega)) ?_
  rintro v h1 ⟨A1, c1, rfl, ho1⟩
  refine ⟨fun _ => { A := A1, n := (be 2 (low16 (t.seq : Nat))).length, c := c1 }, rfl, ?_⟩
  dsimp only
  (repeat ((first | refine h_box fun _ _ _ => ?_ | ((with_reducible show holds _ _ _ _ (.rd (Instr.loadAt _ (.pointer _)) _ _) _); refine ldI (by repeat (first | exact mq0 | apply mq1 | apply mq2)) (by rfl) (by kernel_rfl) ?_) | ((with_reducible show holds _ _ _ _ (.pin (vN (Instr.loadAt _ _)) _ _) _); first | refine pnA (by repeat (first | exact mq0 | apply mq1 | apply mq2)) (by rfl) (by kernel_rfl) ?_ | refine pn1 (by repeat (first | exact mq0 | apply mq1 | apply mq2)) (by rfl) (by kernel_rfl) ?_)); try dsimp only [getL]))
  refine h_append (cl_.aff _) eb_uint8 (by kernel_rfl) (cs2 := bC (be 2 (low16 (t.seq : Nat)))) (ho1.rd (fun x hx => by first | (simp [hx]; done) | (rw [List.mem_singleton] at hx; subst hx; simp; done))) ho1.some_of (by simp) (bC_plain _) (m := [(gr1, .cells #[.int .u8 1, .int .u8 ((lowB t.n).toNat : Int)] 5 (0, 0))]) (by repeat (first | exact Pick.here | exact Pick.one | exact Pick.all | apply Pick.two | apply Pick.cons | apply Pick.app)) r1 (by (try simp only [tlvB_len, List.length_append, longB_len, be_length, List.length_cons, List.length_nil]); omega) (by omega) ?_
  intro X2 d2 m2 o2
  rw [← bC_append] at o2
  dsimp only at o2 ⊢
  (repeat ((first | refine h_box fun _ _ _ => ?_ | ((with_reducible show holds _ _ _ _ (.rd (Instr.loadAt _ (.pointer _)) _ _) _); refine ldI (by repeat (first | exact mq0 | apply mq1 | apply mq2)) (by rfl) (by kernel_rfl) ?_) | ((with_reducible show holds _ _ _ _ (.pin (vN (Instr.loadAt _ _)) _ _) _); first | refine pnA (by repeat (first | exact mq0 | apply mq1 | apply mq2)) (by rfl) (by kernel_rfl) ?_ | refine pn1 (by repeat (first | exact mq0 | apply mq1 | apply mq2)) (by rfl) (by kernel_rfl) ?_)); try dsimp only [getL]))
  try simp only [wrap8b]
  refine h_row (e := 5) #[.int .u8 ((lowB t.hops).toNat : Int), .int .u8 0] (by kernel_rfl) fun gr2 hgr2 hIr2 => ?_
  dsimp only
  have r2 : OwnB (some ⟨gr2, 0, none⟩) 2 2 [lowB t.hops, 0] [(gr2, .cells #[.int .u8 ((lowB t.hops).toNat : Int), .int .u8 0] 5 (0, 0))] := Own.row (n := 2) rfl
  (repeat ((first | refine h_box fun _ _ _ => ?_ | ((with_reducible show holds _ _ _ _ (.rd (Instr.loadAt _ (.pointer _)) _ _) _); refine ldI (by repeat (first | exact mq0 | apply mq1 | apply mq2)) (by rfl) (by kernel_rfl) ?_) | ((with_reducible show holds _ _ _ _ (.pin (vN (Instr.loadAt _ _)) _ _) _); first | refine pnA (by repeat (first | exact mq0 | apply mq1 | apply mq2)) (by rfl) (by kernel_rfl) ?_ | refine pn1 (by repeat (first | exact mq0 | apply mq1 | apply mq2)) (by rfl) (by kernel_rfl) ?_)); try dsimp only [getL]))
  refine h_append (cl_.aff _) eb_uint8 (by kernel_rfl) (cs2 := bC ([lowB t.hops, 0])) (fun _ => ⟨_, rfl, cellsM' (by repeat (first | exact mq0 | apply mq1 | apply mq2)) rfl⟩) (by simp) (by simp) (bC_plain _) (m := m2) (by repeat (first | exact Pick.here | exact Pick.one | exact Pick.all | apply Pick.two | apply Pick.cons | apply Pick.app)) o2 (by (try simp only [tlvB_len, List.length_append, longB_len, be_length, List.length_cons, List.length_nil]); omega) (by omega) ?_
  intro X3 d3 m3 o3
  rw [← bC_append] at o3
  dsimp only at o3 ⊢
  (repeat ((first | refine h_box fun _ _ _ => ?_ | ((with_reducible show holds _ _ _ _ (.rd (Instr.loadAt _ (.pointer _)) _ _) _); refine ldI (by repeat (first | exact mq0 | apply mq1 | apply mq2)) (by rfl) (by kernel_rfl) ?_) | ((with_reducible show holds _ _ _ _ (.pin (vN (Instr.loadAt _ _)) _ _) _); first | refine pnA (by repeat (first | exact mq0 | apply mq1 | apply mq2)) (by rfl) (by kernel_rfl) ?_ | refine pn1 (by repeat (first | exact mq0 | apply mq1 | apply mq2)) (by rfl) (by kernel_rfl) ?_)); try dsimp only [getL]))
  refine h_call [] _ ca_octroiref06_long (List.Perm.refl _) (fun hl => rlong_spec ho.router) ?_
  rintro v h4 ⟨A4, c4, rfl, ho4⟩
  refine ⟨fun _ => { A := A4, n := (longB t.router).length, c := c4 }, rfl, ?_⟩
  dsimp only
  (repeat ((first | refine h_box fun _ _ _ => ?_ | ((with_reducible show holds _ _ _ _ (.rd (Instr.loadAt _ (.pointer _)) _ _) _); refine ldI (by repeat (first | exact mq0 | apply mq1 | apply mq2)) (by rfl) (by kernel_rfl) ?_) | ((with_reducible show holds _ _ _ _ (.pin (vN (Instr.loadAt _ _)) _ _) _); first | refine pnA (by repeat (first | exact mq0 | apply mq1 | apply mq2)) (by rfl) (by kernel_rfl) ?_ | refine pn1 (by repeat (first | exact mq0 | apply mq1 | apply mq2)) (by rfl) (by kernel_rfl) ?_)); try dsimp only [getL]))
  refine h_append (cl_.aff _) eb_uint8 (by kernel_rfl) (cs2 := bC (longB t.router)) (ho4.rd (fun x hx => by first | (simp [hx]; done) | (rw [List.mem_singleton] at hx; subst hx; simp; done))) ho4.some_of (by simp) (bC_plain _) (m := m3) (by repeat (first | exact Pick.here | exact Pick.one | exact Pick.all | apply Pick.two | apply Pick.cons | apply Pick.app)) o3 (by (try simp only [tlvB_len, List.length_append, longB_len, be_length, List.length_cons, List.length_nil]); omega) (by omega) ?_
  intro X5 d5 m5 o5
  rw [← bC_append] at o5
  dsimp only at o5 ⊢
  (repeat ((first | refine h_box fun _ _ _ => ?_ | ((with_reducible show holds _ _ _ _ (.rd (Instr.loadAt _ (.pointer _)) _ _) _); refine ldI (by repeat (first | exact mq0 | apply mq1 | apply mq2)) (by rfl) (by kernel_rfl) ?_) | ((with_reducible show holds _ _ _ _ (.pin (vN (Instr.loadAt _ _)) _ _) _); first | refine pnA (by repeat (first | exact mq0 | apply mq1 | apply mq2)) (by rfl) (by kernel_rfl) ?_ | refine pn1 (by repeat (first | exact mq0 | apply mq1 | apply mq2)) (by rfl) (by kernel_rfl) ?_)); try dsimp only [getL]))
  refine h_append (cl_.aff _) eb_uint8 (by kernel_rfl) (cs2 := bC (addrB t.a t.n)) (hoA.rd (fun x hx => by first | (simp [hx]; done) | (rw [List.mem_singleton] at hx; subst hx; simp; done))) hoA.some_of (by simp) (bC_plain _) (m := m5) (by repeat (first | exact Pick.here | exact Pick.one | exact Pick.all | apply Pick.two | apply Pick.cons | apply Pick.app)) o5 (by (try simp only [tlvB_len, List.length_append, longB_len, be_length, List.length_cons, List.length_nil]); omega) (by omega) ?_
  intro X6 d6 m6 o6
  rw [← bC_append] at o6
  dsimp only at o6 ⊢
  (repeat ((first | refine h_box fun _ _ _ => ?_ | ((with_reducible show holds _ _ _ _ (.rd (Instr.loadAt _ (.pointer _)) _ _) _); refine ldI (by repeat (first | exact mq0 | apply mq1 | apply mq2)) (by rfl) (by kernel_rfl) ?_) | ((with_reducible show holds _ _ _ _ (.pin (vN (Instr.loadAt _ _)) _ _) _); first | refine pnA (by repeat (first | exact mq0 | apply mq1 | apply mq2)) (by rfl) (by kernel_rfl) ?_ | refine pn1 (by repeat (first | exact mq0 | apply mq1 | apply mq2)) (by rfl) (by kernel_rfl) ?_)); try dsimp only [getL]))
  rw [low16_nat hseq] at o6 ⊢
  have hll := OwnB.len o6
  refine h_call [] _ ca_octroiref06_tlv (List.Perm.refl _) (fun hl => rtlv_spec (k := 10) (OwnB.rdb o6 hl (fun x hx => by first | (simp [hx]; done) | (rw [List.mem_singleton] at hx; subst hx; simp; done))) (by (try simp only [longB_len, be_length, List.length_cons, List.length_nil]); omega)) ?_
  rintro v h99 ⟨A99, c99, rfl, ho99⟩
  refine ⟨fun _ => { A := A99, n := _, c := c99 }, rfl, ?_⟩
  have hpb : partB st t = tlvB 10 ([1, lowB t.n] ++ (be 2 t.seq ++ ([lowB t.hops, 0] ++ (longB t.router ++ addrB t.a t.n)))) := by unfold partB; simp [hk]
  rw [hpb]
  simp only [List.append_assoc] at ho99 ⊢
  exact h_end (by repeat (first | exact Pick.here | exact Pick.one | exact Pick.all | apply Pick.two | apply Pick.cons | apply Pick.app)) ⟨A99, c99, rfl, ho99⟩
set_option maxHeartbeats 2000000 in
theorem rupdate_spec {I : Ctx} {la k : Nat} {t : Tlv} (ho : t.ok) (hm : mayT t = true) (hla : la < 4294967296) (hk : sqz la t.a (nd t.n : Nat) = k) : Fn Try.prog 29 #[t.vv, .int .u32 (la : Int)] I [] (GivesB (updBody t k)) := by
  obtain ⟨hn, hkr, hiv, hco, hho⟩ := may_facts hm
  have hal := addrB_len (a := t.a) hn
  have hnd := nd_le hn
  have hseq := ho.seq
  have htg := ho.tag
  have hkle := sqz_le la t.a (n := (nd t.n : Nat)) (by omega)
  rw [hk] at hkle
  refine r_octroiref06_update _ _ _ _ _ _ _ _ _ _ ?_
  (repeat ((first | refine h_box fun _ _ _ => ?_ | ((with_reducible show holds _ _ _ _ (.rd (Instr.loadAt _ (.pointer _)) _ _) _); refine ldI (by repeat (first | exact mq0 | apply mq1 | apply mq2)) (by rfl) (by kernel_rfl) ?_) | ((with_reducible show holds _ _ _ _ (.pin (vN (Instr.loadAt _ _)) _ _) _); first | refine pnA (by repeat (first | exact mq0 | apply mq1 | apply mq2)) (by rfl) (by kernel_rfl) ?_ | refine pn1 (by repeat (first | exact mq0 | apply mq1 | apply mq2)) (by rfl) (by kernel_rfl) ?_)); try dsimp only [getL]))
  refine h_call0 (v := .int .i64 (nd t.n : Nat)) (fun _ => { i := (nd t.n : Nat) }) ca_octroiref06_needs (fun hl => octroiref06_needs_nd (by omega)) rfl ?_
  dsimp only
  (repeat ((first | refine h_box fun _ _ _ => ?_ | ((with_reducible show holds _ _ _ _ (.rd (Instr.loadAt _ (.pointer _)) _ _) _); refine ldI (by repeat (first | exact mq0 | apply mq1 | apply mq2)) (by rfl) (by kernel_rfl) ?_) | ((with_reducible show holds _ _ _ _ (.pin (vN (Instr.loadAt _ _)) _ _) _); first | refine pnA (by repeat (first | exact mq0 | apply mq1 | apply mq2)) (by rfl) (by kernel_rfl) ?_ | refine pn1 (by repeat (first | exact mq0 | apply mq1 | apply mq2)) (by rfl) (by kernel_rfl) ?_)); try dsimp only [getL]))
  refine h_call0 (v := .int .i64 (sqz la t.a (nd t.n : Nat) : Nat)) (fun _ => { i := (sqz la t.a (nd t.n : Nat) : Nat) }) ca_octroiref06_Squeeze (fun hl => octroiref06_Squeeze_sq hla ho.a) rfl ?_
  dsimp only
  (repeat ((first | refine h_box fun _ _ _ => ?_ | ((with_reducible show holds _ _ _ _ (.rd (Instr.loadAt _ (.pointer _)) _ _) _); refine ldI (by repeat (first | exact mq0 | apply mq1 | apply mq2)) (by rfl) (by kernel_rfl) ?_) | ((with_reducible show holds _ _ _ _ (.pin (vN (Instr.loadAt _ _)) _ _) _); first | refine pnA (by repeat (first | exact mq0 | apply mq1 | apply mq2)) (by rfl) (by kernel_rfl) ?_ | refine pn1 (by repeat (first | exact mq0 | apply mq1 | apply mq2)) (by rfl) (by kernel_rfl) ?_)); try dsimp only [getL]))
  rw [hk]
  simp only [wrap8b]
  refine h_row (e := 5) #[.int .u8 1, .int .u8 128, .int .u8 ((lowB t.n).toNat : Int), .int .u8 ((lowB (k : Nat)).toNat : Int)] (by kernel_rfl) fun gr0 hgr0 hIr0 => ?_
  dsimp only
  have r0 : OwnB (some ⟨gr0, 0, none⟩) 4 4 [1, 128, lowB t.n, lowB (k : Nat)] [(gr0, .cells #[.int .u8 1, .int .u8 128, .int .u8 ((lowB t.n).toNat : Int), .int .u8 ((lowB (k : Nat)).toNat : Int)] 5 (0, 0))] := Own.row (n := 4) rfl
  (repeat ((first | refine h_box fun _ _ _ => ?_ | ((with_reducible show holds _ _ _ _ (.rd (Instr.loadAt _ (.pointer _)) _ _) _); refine ldI (by repeat (first | exact mq0 | apply mq1 | apply mq2)) (by rfl) (by kernel_rfl) ?_) | ((with_reducible show holds _ _ _ _ (.pin (vN (Instr.loadAt _ _)) _ _) _); first | refine pnA (by repeat (first | exact mq0 | apply mq1 | apply mq2)) (by rfl) (by kernel_rfl) ?_ | refine pn1 (by repeat (first | exact mq0 | apply mq1 | apply mq2)) (by rfl) (by kernel_rfl) ?_)); try dsimp only [getL]))
  refine h_call [] _ ca_octroiref06_two (List.Perm.refl _) (fun hl => rtwo_spec hiv) ?_
  rintro v h1 ⟨A1, c1, rfl, ho1⟩
  refine ⟨fun _ => { A := A1, n := (be 2 (low16 t.iv)).length, c := c1 }, rfl, ?_⟩
  dsimp only
  (repeat ((first | refine h_box fun _ _ _ => ?_ | ((with_reducible show holds _ _ _ _ (.rd (Instr.loadAt _ (.pointer _)) _ _) _); refine ldI (by repeat (first | exact mq0 | apply mq1 | apply mq2)) (by rfl) (by kernel_rfl) ?_) | ((with_reducible show holds _ _ _ _ (.pin (vN (Instr.loadAt _ _)) _ _) _); first | refine pnA (by repeat (first | exact mq0 | apply mq1 | apply mq2)) (by rfl) (by kernel_rfl) ?_ | refine pn1 (by repeat (first | exact mq0 | apply mq1 | apply mq2)) (by rfl) (by kernel_rfl) ?_)); try dsimp only [getL]))
  refine h_append (cl_.aff _) eb_uint8 (by kernel_rfl) (cs2 := bC (be 2 (low16 t.iv))) (ho1.rd (fun x hx => by first | (simp [hx]; done) | (rw [List.mem_singleton] at hx; subst hx; simp; done))) ho1.some_of (by simp) (bC_plain _) (m := [(gr0, .cells #[.int .u8 1, .int .u8 128, .int .u8 ((lowB t.n).toNat : Int), .int .u8 ((lowB (k : Nat)).toNat : Int)] 5 (0, 0))]) (by repeat (first | exact Pick.here | exact Pick.one | exact Pick.all | apply Pick.two | apply Pick.cons | apply Pick.app)) r0 (by (try simp only [tlvB_len, List.length_append, longB_len, be_length, List.length_cons, List.length_nil]); omega) (by omega) ?_
  intro X2 d2 m2 o2
  rw [← bC_append] at o2
  dsimp only at o2 ⊢
  (repeat ((first | refine h_box fun _ _ _ => ?_ | ((with_reducible show holds _ _ _ _ (.rd (Instr.loadAt _ (.pointer _)) _ _) _); refine ldI (by repeat (first | exact mq0 | apply mq1 | apply mq2)) (by rfl) (by kernel_rfl) ?_) | ((with_reducible show holds _ _ _ _ (.pin (vN (Instr.loadAt _ _)) _ _) _); first | refine pnA (by repeat (first | exact mq0 | apply mq1 | apply mq2)) (by rfl) (by kernel_rfl) ?_ | refine pn1 (by repeat (first | exact mq0 | apply mq1 | apply mq2)) (by rfl) (by kernel_rfl) ?_)); try dsimp only [getL]))
  rw [wrap64 (x := (t.seq : Int)) (by omega)]
  refine h_call [] _ ca_octroiref06_two (List.Perm.refl _) (fun hl => rtwo_spec (by omega)) ?_
  rintro v h3 ⟨A3, c3, rfl, ho3⟩
  refine ⟨fun _ => { A := A3, n := (be 2 (low16 (t.seq : Nat))).length, c := c3 }, rfl, ?_⟩
  dsimp only
  (repeat ((first | refine h_box fun _ _ _ => ?_ | ((with_reducible show holds _ _ _ _ (.rd (Instr.loadAt _ (.pointer _)) _ _) _); refine ldI (by repeat (first | exact mq0 | apply mq1 | apply mq2)) (by rfl) (by kernel_rfl) ?_) | ((with_reducible show holds _ _ _ _ (.pin (vN (Instr.loadAt _ _)) _ _) _); first | refine pnA (by repeat (first | exact mq0 | apply mq1 | apply mq2)) (by rfl) (by kernel_rfl) ?_ | refine pn1 (by repeat (first | exact mq0 | apply mq1 | apply mq2)) (by rfl) (by kernel_rfl) ?_)); try dsimp only [getL]))
  refine h_append (cl_.aff _) eb_uint8 (by kernel_rfl) (cs2 := bC (be 2 (low16 (t.seq : Nat)))) (ho3.rd (fun x hx => by first | (simp [hx]; done) | (rw [List.mem_singleton] at hx; subst hx; simp; done))) ho3.some_of (by simp) (bC_plain _) (m := m2) (by repeat (first | exact Pick.here | exact Pick.one | exact Pick.all | apply Pick.two | apply Pick.cons | apply Pick.app)) o2 (by (try simp only [tlvB_len, List.length_append, longB_len, be_length, List.length_cons, List.length_nil]); omega) (by omega) ?_
  intro X4 d4 m4 o4
  rw [← bC_append] at o4
  dsimp only at o4 ⊢
  (repeat ((first | refine h_box fun _ _ _ => ?_ | ((with_reducible show holds _ _ _ _ (.rd (Instr.loadAt _ (.pointer _)) _ _) _); refine ldI (by repeat (first | exact mq0 | apply mq1 | apply mq2)) (by rfl) (by kernel_rfl) ?_) | ((with_reducible show holds _ _ _ _ (.pin (vN (Instr.loadAt _ _)) _ _) _); first | refine pnA (by repeat (first | exact mq0 | apply mq1 | apply mq2)) (by rfl) (by kernel_rfl) ?_ | refine pn1 (by repeat (first | exact mq0 | apply mq1 | apply mq2)) (by rfl) (by kernel_rfl) ?_)); try dsimp only [getL]))
  refine h_call [] _ ca_octroiref06_two (List.Perm.refl _) (fun hl => rtwo_spec hco) ?_
  rintro v h5 ⟨A5, c5, rfl, ho5⟩
  refine ⟨fun _ => { A := A5, n := (be 2 (low16 t.cost)).length, c := c5 }, rfl, ?_⟩
  dsimp only
  (repeat ((first | refine h_box fun _ _ _ => ?_ | ((with_reducible show holds _ _ _ _ (.rd (Instr.loadAt _ (.pointer _)) _ _) _); refine ldI (by repeat (first | exact mq0 | apply mq1 | apply mq2)) (by rfl) (by kernel_rfl) ?_) | ((with_reducible show holds _ _ _ _ (.pin (vN (Instr.loadAt _ _)) _ _) _); first | refine pnA (by repeat (first | exact mq0 | apply mq1 | apply mq2)) (by rfl) (by kernel_rfl) ?_ | refine pn1 (by repeat (first | exact mq0 | apply mq1 | apply mq2)) (by rfl) (by kernel_rfl) ?_)); try dsimp only [getL]))
  refine h_append (cl_.aff _) eb_uint8 (by kernel_rfl) (cs2 := bC (be 2 (low16 t.cost))) (ho5.rd (fun x hx => by first | (simp [hx]; done) | (rw [List.mem_singleton] at hx; subst hx; simp; done))) ho5.some_of (by simp) (bC_plain _) (m := m4) (by repeat (first | exact Pick.here | exact Pick.one | exact Pick.all | apply Pick.two | apply Pick.cons | apply Pick.app)) o4 (by (try simp only [tlvB_len, List.length_append, longB_len, be_length, List.length_cons, List.length_nil]); omega) (by omega) ?_
  intro X6 d6 m6 o6
  rw [← bC_append] at o6
  dsimp only at o6 ⊢
  (repeat ((first | refine h_box fun _ _ _ => ?_ | ((with_reducible show holds _ _ _ _ (.rd (Instr.loadAt _ (.pointer _)) _ _) _); refine ldI (by repeat (first | exact mq0 | apply mq1 | apply mq2)) (by rfl) (by kernel_rfl) ?_) | ((with_reducible show holds _ _ _ _ (.pin (vN (Instr.loadAt _ _)) _ _) _); first | refine pnA (by repeat (first | exact mq0 | apply mq1 | apply mq2)) (by rfl) (by kernel_rfl) ?_ | refine pn1 (by repeat (first | exact mq0 | apply mq1 | apply mq2)) (by rfl) (by kernel_rfl) ?_)); try dsimp only [getL]))
  refine h_call [] _ ca_octroiref06_addr (List.Perm.refl _) (fun hl => raddr4 ho.a hnd) ?_
  rintro v h7 ⟨A7, c7, rfl, ho7⟩
  have ho7 : OwnB A7 (addrB t.a t.n).length c7 (addrB t.a t.n) h7 := ho7
  refine ⟨fun _ => { A := A7, n := (addrB t.a t.n).length, c := c7 }, rfl, ?_⟩
  dsimp only
  have hc7 := ho7.2.1
  refine h_cut (e := 5) (sz := 1) k (addrB t.a t.n).length c7 (by kernel_rfl) (by kernel_rfl) rfl rfl rfl (by simp) (by omega) (by omega) (by omega) ?_
  dsimp only
  have hdl : ((addrB t.a t.n).drop k).length = (addrB t.a t.n).length - k := by simp
  have hrd : ∀ {h : Mem}, (∀ x ∈ h7, x ∈ h) → RdC I h (cutA A7 k c7 1) (bC ((addrB t.a t.n).drop k)) := by
    intro h hmm
    have := (ho7.rd (I := I) hmm).cut (l := k) (u := (addrB t.a t.n).length) (m := c7) (sz := 1) hc7
    rw [Nat.mul_one, Nat.mul_one, List.take_of_length_le (by simp), bC_drop] at this
    exact this
  have hnn : cutA A7 k c7 1 = none → (addrB t.a t.n).length - k = 0 := by
    intro hA
    cases A7 with
    | none => have := ho7.some_of rfl; omega
    | some a =>
      unfold cutA at hA
      split at hA
      · cases hA
      · cases hA
  refine h_append (cl_.aff _) eb_uint8 (by kernel_rfl) (cs2 := bC ((addrB t.a t.n).drop k)) (hrd (fun x hx => by first | (simp [hx]; done) | (rw [List.mem_singleton] at hx; subst hx; simp; done))) hnn (by simp) (bC_plain _) (m := m6) (by repeat (first | exact Pick.here | exact Pick.one | exact Pick.all | apply Pick.two | apply Pick.cons | apply Pick.app)) o6 (by simp only [be_length, List.length_cons, List.length_nil]; omega) (by omega) ?_
  intro X8 d8 m8 o8
  rw [← bC_append] at o8
  dsimp only at o8 ⊢
  (repeat ((first | refine h_box fun _ _ _ => ?_ | ((with_reducible show holds _ _ _ _ (.rd (Instr.loadAt _ (.pointer _)) _ _) _); refine ldI (by repeat (first | exact mq0 | apply mq1 | apply mq2)) (by rfl) (by kernel_rfl) ?_) | ((with_reducible show holds _ _ _ _ (.pin (vN (Instr.loadAt _ _)) _ _) _); first | refine pnA (by repeat (first | exact mq0 | apply mq1 | apply mq2)) (by rfl) (by kernel_rfl) ?_ | refine pn1 (by repeat (first | exact mq0 | apply mq1 | apply mq2)) (by rfl) (by kernel_rfl) ?_)); try dsimp only [getL]))
  rw [low16_nat hseq] at o8 ⊢
  refine h_ite (fun tg => ?_) (fun tg => ?_)
  · have hz : t.tag ≠ 0 := by intro e; rw [e] at tg; simp at tg
    have htb : tagB t = [200, 2] ++ be 2 t.tag := by unfold tagB; rw [if_neg hz]; simp [tlvB, be_length]; rfl
    (repeat ((first | refine h_box fun _ _ _ => ?_ | ((with_reducible show holds _ _ _ _ (.rd (Instr.loadAt _ (.pointer _)) _ _) _); refine ldI (by repeat (first | exact mq0 | apply mq1 | apply mq2)) (by rfl) (by kernel_rfl) ?_) | ((with_reducible show holds _ _ _ _ (.pin (vN (Instr.loadAt _ _)) _ _) _); first | refine pnA (by repeat (first | exact mq0 | apply mq1 | apply mq2)) (by rfl) (by kernel_rfl) ?_ | refine pn1 (by repeat (first | exact mq0 | apply mq1 | apply mq2)) (by rfl) (by kernel_rfl) ?_)); try dsimp only [getL]))
    refine h_row (e := 5) #[.int .u8 200, .int .u8 2] (by kernel_rfl) fun gr1 hgr1 hIr1 => ?_
    dsimp only
    have r1 : OwnB (some ⟨gr1, 0, none⟩) 2 2 [200, 2] [(gr1, .cells #[.int .u8 200, .int .u8 2] 5 (0, 0))] := Own.row (n := 2) rfl
    (repeat ((first | refine h_box fun _ _ _ => ?_ | ((with_reducible show holds _ _ _ _ (.rd (Instr.loadAt _ (.pointer _)) _ _) _); refine ldI (by repeat (first | exact mq0 | apply mq1 | apply mq2)) (by rfl) (by kernel_rfl) ?_) | ((with_reducible show holds _ _ _ _ (.pin (vN (Instr.loadAt _ _)) _ _) _); first | refine pnA (by repeat (first | exact mq0 | apply mq1 | apply mq2)) (by rfl) (by kernel_rfl) ?_ | refine pn1 (by repeat (first | exact mq0 | apply mq1 | apply mq2)) (by rfl) (by kernel_rfl) ?_)); try dsimp only [getL]))
    refine h_append (cl_.aff _) eb_uint8 (by kernel_rfl) (cs2 := bC ([200, 2])) (fun _ => ⟨_, rfl, cellsM' (by repeat (first | exact mq0 | apply mq1 | apply mq2)) rfl⟩) (by simp) (by simp) (bC_plain _) (m := m8) (by repeat (first | exact Pick.here | exact Pick.one | exact Pick.all | apply Pick.two | apply Pick.cons | apply Pick.app)) o8 (by (try simp only [tlvB_len, List.length_append, longB_len, be_length, List.length_cons, List.length_nil]); omega) (by omega) ?_
    intro X9 d9 m9 o9
    rw [← bC_append] at o9
    dsimp only at o9 ⊢
    (repeat ((first | refine h_box fun _ _ _ => ?_ | ((with_reducible show holds _ _ _ _ (.rd (Instr.loadAt _ (.pointer _)) _ _) _); refine ldI (by repeat (first | exact mq0 | apply mq1 | apply mq2)) (by rfl) (by kernel_rfl) ?_) | ((with_reducible show holds _ _ _ _ (.pin (vN (Instr.loadAt _ _)) _ _) _); first | refine pnA (by repeat (first | exact mq0 | apply mq1 | apply mq2)) (by rfl) (by kernel_rfl) ?_ | refine pn1 (by repeat (first | exact mq0 | apply mq1 | apply mq2)) (by rfl) (by kernel_rfl) ?_)); try dsimp only [getL]))
    rw [wrap64 (x := (t.tag : Int)) (by omega)]
    refine h_call [] _ ca_octroiref06_two (List.Perm.refl _) (fun hl => rtwo_spec (by omega)) ?_
    rintro v h10 ⟨A10, c10, rfl, ho10⟩
    refine ⟨fun _ => { A := A10, n := (be 2 (low16 (t.tag : Nat))).length, c := c10 }, rfl, ?_⟩
    dsimp only
    (repeat ((first | refine h_box fun _ _ _ => ?_ | ((with_reducible show holds _ _ _ _ (.rd (Instr.loadAt _ (.pointer _)) _ _) _); refine ldI (by repeat (first | exact mq0 | apply mq1 | apply mq2)) (by rfl) (by kernel_rfl) ?_) | ((with_reducible show holds _ _ _ _ (.pin (vN (Instr.loadAt _ _)) _ _) _); first | refine pnA (by repeat (first | exact mq0 | apply mq1 | apply mq2)) (by rfl) (by kernel_rfl) ?_ | refine pn1 (by repeat (first | exact mq0 | apply mq1 | apply mq2)) (by rfl) (by kernel_rfl) ?_)); try dsimp only [getL]))
    refine h_append (cl_.aff _) eb_uint8 (by kernel_rfl) (cs2 := bC (be 2 (low16 (t.tag : Nat)))) (ho10.rd (fun x hx => by first | (simp [hx]; done) | (rw [List.mem_singleton] at hx; subst hx; simp; done))) ho10.some_of (by simp) (bC_plain _) (m := m9) (by repeat (first | exact Pick.here | exact Pick.one | exact Pick.all | apply Pick.two | apply Pick.cons | apply Pick.app)) o9 (by (try simp only [tlvB_len, List.length_append, longB_len, be_length, List.length_cons, List.length_nil]); omega) (by omega) ?_
    intro X11 d11 m11 o11
    rw [← bC_append] at o11
    dsimp only at o11 ⊢
    (repeat ((first | refine h_box fun _ _ _ => ?_ | ((with_reducible show holds _ _ _ _ (.rd (Instr.loadAt _ (.pointer _)) _ _) _); refine ldI (by repeat (first | exact mq0 | apply mq1 | apply mq2)) (by rfl) (by kernel_rfl) ?_) | ((with_reducible show holds _ _ _ _ (.pin (vN (Instr.loadAt _ _)) _ _) _); first | refine pnA (by repeat (first | exact mq0 | apply mq1 | apply mq2)) (by rfl) (by kernel_rfl) ?_ | refine pn1 (by repeat (first | exact mq0 | apply mq1 | apply mq2)) (by rfl) (by kernel_rfl) ?_)); try dsimp only [getL]))
    rw [low16_nat htg] at o11 ⊢
    have hll := OwnB.len o11
    refine h_end (by repeat (first | exact Pick.here | exact Pick.one | exact Pick.all | apply Pick.two | apply Pick.cons | apply Pick.app)) ⟨X11, d11, ?_, ?_⟩
    · rw [show (updBody t k) = [1, 128, lowB t.n, lowB (k : Nat)] ++ be 2 (low16 t.iv) ++ be 2 t.seq ++ be 2 (low16 t.cost) ++ (addrB t.a t.n).drop k ++ [200, 2] ++ be 2 t.tag by unfold updBody; rw [htb]; simp only [List.append_assoc], hll]
    · rw [show (updBody t k) = [1, 128, lowB t.n, lowB (k : Nat)] ++ be 2 (low16 t.iv) ++ be 2 t.seq ++ be 2 (low16 t.cost) ++ (addrB t.a t.n).drop k ++ [200, 2] ++ be 2 t.tag by unfold updBody; rw [htb]; simp only [List.append_assoc], hll]
      exact o11
  · have hz : t.tag = 0 := by simp at tg; omega
    have htb : tagB t = [] := by unfold tagB; rw [if_pos hz]
    have hll := OwnB.len o8
    refine h_end (by repeat (first | exact Pick.here | exact Pick.one | exact Pick.all | apply Pick.two | apply Pick.cons | apply Pick.app)) ⟨X8, d8, ?_, ?_⟩
    · rw [show (updBody t k) = [1, 128, lowB t.n, lowB (k : Nat)] ++ be 2 (low16 t.iv) ++ be 2 t.seq ++ be 2 (low16 t.cost) ++ (addrB t.a t.n).drop k by unfold updBody; rw [htb]; simp only [List.append_assoc, List.append_nil], hll]
    · rw [show (updBody t k) = [1, 128, lowB t.n, lowB (k : Nat)] ++ be 2 (low16 t.iv) ++ be 2 t.seq ++ be 2 (low16 t.cost) ++ (addrB t.a t.n).drop k by unfold updBody; rw [htb]; simp only [List.append_assoc, List.append_nil], hll]
      exact o8
end Go.Proofs.YtcfnliodgoenkaaS
