import Derived.Test.YtkdakglnhipmaaaN12
import Derived.Test.YtkdakglnhipmaaaTA
set_option linter.unusedVariables false
namespace Go.Proofs.YtkdakglnhipmaaaS
theorem dncode_none : dencR none7 = ([2, 0, 253, 255, 0, 0, 0, 0, 0, 0, 0, 0, 0, 0, 0, 0], 0) := by decide
theorem dawake_spec {I : Ctx} : Fn Try.prog 9 #[] I [] (fun v h' => v = .bool true ∧ h' = []) := by
  refine r_octroilaw07_awake ?_
  refine h_call [] _ ca_dualpkt_Encode (List.Perm.refl _) (fun hl => dencode_spec (p := none7) (c := 0) (A := none) ⟨[], RdC.nil _, rfl⟩ none7_ok) ?_
  rw [dncode_none]
  rintro v h1 ⟨A, c, rfl, ho⟩
  refine ⟨getL [{ A := A, n := 16, c := c }, { i := 0 }], rfl, ?_⟩
  dsimp only [getL]
  dsimp only at ho
  refine h_yes rfl ?_
  refine h_yes rfl ?_
  refine h_byte (e := 5) 0 (ho.rd (fun x hx => by first | (simp [hx]; done) | (rw [List.mem_singleton] at hx; subst hx; simp; done))) rfl rfl rfl (by kernel_rfl) (by kernel_rfl) (by kernel_rfl) fun a1 _ => ?_
  refine h_yes rfl ?_
  refine h_byte (e := 5) 2 (ho.rd (fun x hx => by first | (simp [hx]; done) | (rw [List.mem_singleton] at hx; subst hx; simp; done))) rfl rfl rfl (by kernel_rfl) (by kernel_rfl) (by kernel_rfl) fun a1 _ => ?_
  refine h_yes rfl ?_
  refine h_byte (e := 5) 3 (ho.rd (fun x hx => by first | (simp [hx]; done) | (rw [List.mem_singleton] at hx; subst hx; simp; done))) rfl rfl rfl (by kernel_rfl) (by kernel_rfl) (by kernel_rfl) fun a1 _ => ?_
  exact h_end0 ⟨rfl, rfl⟩
theorem dencR_len (p : DPk) : (dencR p).1.length ≤ 816 := by
  by_cases h : (dencR p).2 = 0
  · obtain ⟨h1, h2, _⟩ := denc_ok h
    rw [h1]; have := dencB_len p; dsimp only; omega
  · rw [denc_bad h]; exact Nat.zero_le _
theorem ddecR_le (l : List UInt8) : (ddecR l).1.es.length ≤ 40 := by
  by_cases h : (ddecR l).2 = 0
  · exact (denc_ok (p := (ddecR l).1) (by rw [(denc_dec h).1])).2.1
  · rw [ddec_bad h]; exact Nat.zero_le _
theorem law_DualpktEncodes {J : Ctx} {A : Option Addr} {c : Nat} {p : DPk} (hin : DEntsIn J A p.es) (hp : p.ok) :
    Fn Try.prog 3 #[p.vv A c] J [] (fun v h' => v = .bool true ∧ h' = []) := by
  refine r_octroilaw07_DualpktEncodes _ _ _ _ _ _ _ ?_
  (repeat ((first | refine h_box fun _ _ _ => ?_ | ((with_reducible show holds _ _ _ _ (.sem (Instr.alloc 25 _ _) _ _) _); refine h_alloc zb_DualPacket fun _ _ _ => ?_) | ((with_reducible show holds _ _ _ _ (.rd (Instr.loadAt _ (.pointer _)) _ _) _); first | refine ldI (by repeat (first | exact mq0 | apply mq1 | apply mq2)) (by rfl) (by kernel_rfl) ?_ | refine ldL (by repeat (first | exact mq0 | apply mq1 | apply mq2)) (by rfl) (by kernel_rfl) ?_ | refine la0 (by repeat (first | exact mq0 | apply mq1 | apply mq2)) (by rfl) (by kernel_rfl) ?_) | ((with_reducible show holds _ _ _ _ (.unit (Instr.storeAt _ _ _) _) _); refine stU (by repeat (first | exact Upd.here | apply Upd.there | apply Upd.right)) (by kernel_rfl) (by rfl) (by simp [Value.cells]) ?_)); try dsimp only [getL]))
  refine h_call0 (fun _ => { b := true }) ca_octroilaw07_awake (fun hl => dawake_spec) rfl ?_
  (repeat ((first | refine h_box fun _ _ _ => ?_ | ((with_reducible show holds _ _ _ _ (.sem (Instr.alloc 25 _ _) _ _) _); refine h_alloc zb_DualPacket fun _ _ _ => ?_) | ((with_reducible show holds _ _ _ _ (.rd (Instr.loadAt _ (.pointer _)) _ _) _); first | refine ldI (by repeat (first | exact mq0 | apply mq1 | apply mq2)) (by rfl) (by kernel_rfl) ?_ | refine ldL (by repeat (first | exact mq0 | apply mq1 | apply mq2)) (by rfl) (by kernel_rfl) ?_ | refine la0 (by repeat (first | exact mq0 | apply mq1 | apply mq2)) (by rfl) (by kernel_rfl) ?_) | ((with_reducible show holds _ _ _ _ (.unit (Instr.storeAt _ _ _) _) _); refine stU (by repeat (first | exact Upd.here | apply Upd.there | apply Upd.right)) (by kernel_rfl) (by rfl) (by simp [Value.cells]) ?_)); try dsimp only [getL]))
  refine h_ite (fun h0 => h_end0 ⟨rfl, rfl⟩) (fun b1 => ?_)
  (repeat ((first | refine h_box fun _ _ _ => ?_ | ((with_reducible show holds _ _ _ _ (.sem (Instr.alloc 25 _ _) _ _) _); refine h_alloc zb_DualPacket fun _ _ _ => ?_) | ((with_reducible show holds _ _ _ _ (.rd (Instr.loadAt _ (.pointer _)) _ _) _); first | refine ldI (by repeat (first | exact mq0 | apply mq1 | apply mq2)) (by rfl) (by kernel_rfl) ?_ | refine ldL (by repeat (first | exact mq0 | apply mq1 | apply mq2)) (by rfl) (by kernel_rfl) ?_ | refine la0 (by repeat (first | exact mq0 | apply mq1 | apply mq2)) (by rfl) (by kernel_rfl) ?_) | ((with_reducible show holds _ _ _ _ (.unit (Instr.storeAt _ _ _) _) _); refine stU (by repeat (first | exact Upd.here | apply Upd.there | apply Upd.right)) (by kernel_rfl) (by rfl) (by simp [Value.cells]) ?_)); try dsimp only [getL]))
  refine h_call [] _ ca_dualpkt_Encode (List.Perm.refl _) (fun hl => dencode_spec (hin.up (Sub.self.up hl)) hp) ?_
  rintro v mho1 ⟨A1, c1, rfl, ho1⟩
  refine ⟨getL [{ A := A1, n := (dencR p).1.length, c := c1 }, { i := (dencR p).2 }], rfl, ?_⟩
  dsimp only [getL]
  (repeat ((first | refine h_box fun _ _ _ => ?_ | ((with_reducible show holds _ _ _ _ (.sem (Instr.alloc 25 _ _) _ _) _); refine h_alloc zb_DualPacket fun _ _ _ => ?_) | ((with_reducible show holds _ _ _ _ (.rd (Instr.loadAt _ (.pointer _)) _ _) _); first | refine ldI (by repeat (first | exact mq0 | apply mq1 | apply mq2)) (by rfl) (by kernel_rfl) ?_ | refine ldL (by repeat (first | exact mq0 | apply mq1 | apply mq2)) (by rfl) (by kernel_rfl) ?_ | refine la0 (by repeat (first | exact mq0 | apply mq1 | apply mq2)) (by rfl) (by kernel_rfl) ?_) | ((with_reducible show holds _ _ _ _ (.unit (Instr.storeAt _ _ _) _) _); refine stU (by repeat (first | exact Upd.here | apply Upd.there | apply Upd.right)) (by kernel_rfl) (by rfl) (by simp [Value.cells]) ?_)); try dsimp only [getL]))
  refine h_call [] _ ca_octroiref07_Encode (List.Perm.refl _) (fun hl => rdencode_spec (hin.up (Sub.self.up hl)) hp) ?_
  rintro v mho2 ⟨A2, c2, rfl, ho2⟩
  refine ⟨getL [{ A := A2, n := (dencR p).1.length, c := c2 }, { i := (dencR p).2 }], rfl, ?_⟩
  dsimp only [getL]
  (repeat ((first | refine h_box fun _ _ _ => ?_ | ((with_reducible show holds _ _ _ _ (.sem (Instr.alloc 25 _ _) _ _) _); refine h_alloc zb_DualPacket fun _ _ _ => ?_) | ((with_reducible show holds _ _ _ _ (.rd (Instr.loadAt _ (.pointer _)) _ _) _); first | refine ldI (by repeat (first | exact mq0 | apply mq1 | apply mq2)) (by rfl) (by kernel_rfl) ?_ | refine ldL (by repeat (first | exact mq0 | apply mq1 | apply mq2)) (by rfl) (by kernel_rfl) ?_ | refine la0 (by repeat (first | exact mq0 | apply mq1 | apply mq2)) (by rfl) (by kernel_rfl) ?_) | ((with_reducible show holds _ _ _ _ (.unit (Instr.storeAt _ _ _) _) _); refine stU (by repeat (first | exact Upd.here | apply Upd.there | apply Upd.right)) (by kernel_rfl) (by rfl) (by simp [Value.cells]) ?_)); try dsimp only [getL]))
  refine h_yes rfl ?_
  refine h_toString (e := 5) (l := (dencR p).1) (by kernel_rfl) (by kernel_rfl) (by kernel_rfl) rfl (ho1.rd (fun x hx => by first | (simp [hx]; done) | (rw [List.mem_singleton] at hx; subst hx; simp; done))) ho1.some_of ?_
  refine h_toString (e := 5) (l := (dencR p).1) (by kernel_rfl) (by kernel_rfl) (by kernel_rfl) rfl (ho2.rd (fun x hx => by first | (simp [hx]; done) | (rw [List.mem_singleton] at hx; subst hx; simp; done))) ho2.some_of ?_
  dsimp only
  refine h_yes (by simp) ?_
  exact h_end0 ⟨by simp, rfl⟩
theorem law_DualpktDecodes {J : Ctx} {A : Option Addr} {c : Nat} {l : List UInt8} (hr : RdB J A l.length l) (hn : l.length ≤ c) :
    Fn Try.prog 5 #[.slice A l.length c] J [] (fun v h' => v = .bool true ∧ h' = []) := by
  have hb := ddecR_le l
  refine r_octroilaw07_DualpktDecodes _ _ _ ?_
  refine h_call0 (fun _ => { b := true }) ca_octroilaw07_awake (fun hl => dawake_spec) rfl ?_
  refine h_ite (fun h0 => h_end0 ⟨rfl, rfl⟩) (fun b1 => ?_)
  have b1 : l.length ≤ 3000 := by simp at b1; omega
  refine h_call [] _ ca_dualpkt_Decode (List.Perm.refl _) (fun hl => ddec_spec (hr.up (Sub.self.up hl)) hn (by omega)) ?_
  rintro v mho1 ⟨A1, c1, rfl, ho1, okho1⟩
  refine ⟨getL [{ i := (ddecR l).1.code }, { b := (ddecR l).1.init }, { i := ((ddecR l).1.seq : Nat) }, { i := ((ddecR l).1.ack : Nat) }, { A := A1, n := (ddecR l).1.es.length, c := c1 }, { i := (ddecR l).2 }], rfl, ?_⟩
  dsimp only [getL]
  (repeat ((first | refine h_box fun _ _ _ => ?_ | ((with_reducible show holds _ _ _ _ (.sem (Instr.alloc 25 _ _) _ _) _); refine h_alloc zb_DualPacket fun _ _ _ => ?_) | ((with_reducible show holds _ _ _ _ (.rd (Instr.loadAt _ (.pointer _)) _ _) _); first | refine ldI (by repeat (first | exact mq0 | apply mq1 | apply mq2)) (by rfl) (by kernel_rfl) ?_ | refine ldL (by repeat (first | exact mq0 | apply mq1 | apply mq2)) (by rfl) (by kernel_rfl) ?_ | refine la0 (by repeat (first | exact mq0 | apply mq1 | apply mq2)) (by rfl) (by kernel_rfl) ?_) | ((with_reducible show holds _ _ _ _ (.unit (Instr.storeAt _ _ _) _) _); refine stU (by repeat (first | exact Upd.here | apply Upd.there | apply Upd.right)) (by kernel_rfl) (by rfl) (by simp [Value.cells]) ?_)); try dsimp only [getL]))
  refine h_call [] _ ca_octroiref07_Decode (List.Perm.refl _) (fun hl => rddec_spec (hr.up (Sub.self.up hl)) hn (by omega)) ?_
  rintro v mho2 ⟨A2, c2, rfl, ho2, okho2⟩
  refine ⟨getL [{ i := (ddecR l).1.code }, { b := (ddecR l).1.init }, { i := ((ddecR l).1.seq : Nat) }, { i := ((ddecR l).1.ack : Nat) }, { A := A2, n := (ddecR l).1.es.length, c := c2 }, { i := (ddecR l).2 }], rfl, ?_⟩
  dsimp only [getL]
  (repeat ((first | refine h_box fun _ _ _ => ?_ | ((with_reducible show holds _ _ _ _ (.sem (Instr.alloc 25 _ _) _ _) _); refine h_alloc zb_DualPacket fun _ _ _ => ?_) | ((with_reducible show holds _ _ _ _ (.rd (Instr.loadAt _ (.pointer _)) _ _) _); first | refine ldI (by repeat (first | exact mq0 | apply mq1 | apply mq2)) (by rfl) (by kernel_rfl) ?_ | refine ldL (by repeat (first | exact mq0 | apply mq1 | apply mq2)) (by rfl) (by kernel_rfl) ?_ | refine la0 (by repeat (first | exact mq0 | apply mq1 | apply mq2)) (by rfl) (by kernel_rfl) ?_) | ((with_reducible show holds _ _ _ _ (.unit (Instr.storeAt _ _ _) _) _); refine stU (by repeat (first | exact Upd.here | apply Upd.there | apply Upd.right)) (by kernel_rfl) (by rfl) (by simp [Value.cells]) ?_)); try dsimp only [getL]))
  refine h_call [] _ ca_octroiref07_Same (List.Perm.refl _) (fun hl => dsame_spec (p := (ddecR l).1) (q := (ddecR l).1) (ho1.ents hl (fun x hx => by first | (simp [hx]; done) | (rw [List.mem_singleton] at hx; subst hx; simp; done))) (ho2.ents hl (fun x hx => by first | (simp [hx]; done) | (rw [List.mem_singleton] at hx; subst hx; simp; done))) (by omega)) ?_
  rintro v h3 ⟨⟨b3, rfl, hb3⟩, rfl⟩
  refine ⟨fun _ => { b := b3 }, rfl, ?_⟩
  dsimp only
  refine h_yes rfl ?_
  refine h_yes (hb3.2 rfl) ?_
  exact h_end0 ⟨by simp, rfl⟩
theorem law_DualpktBack {J : Ctx} {A : Option Addr} {c : Nat} {p : DPk} (hin : DEntsIn J A p.es) (hp : p.ok) :
    Fn Try.prog 6 #[p.vv A c] J [] (fun v h' => v = .bool true ∧ h' = []) := by
  refine r_octroilaw07_DualpktBack _ _ _ _ _ _ _ ?_
  (repeat ((first | refine h_box fun _ _ _ => ?_ | ((with_reducible show holds _ _ _ _ (.sem (Instr.alloc 25 _ _) _ _) _); refine h_alloc zb_DualPacket fun _ _ _ => ?_) | ((with_reducible show holds _ _ _ _ (.rd (Instr.loadAt _ (.pointer _)) _ _) _); first | refine ldI (by repeat (first | exact mq0 | apply mq1 | apply mq2)) (by rfl) (by kernel_rfl) ?_ | refine ldL (by repeat (first | exact mq0 | apply mq1 | apply mq2)) (by rfl) (by kernel_rfl) ?_ | refine la0 (by repeat (first | exact mq0 | apply mq1 | apply mq2)) (by rfl) (by kernel_rfl) ?_) | ((with_reducible show holds _ _ _ _ (.unit (Instr.storeAt _ _ _) _) _); refine stU (by repeat (first | exact Upd.here | apply Upd.there | apply Upd.right)) (by kernel_rfl) (by rfl) (by simp [Value.cells]) ?_)); try dsimp only [getL]))
  refine h_call0 (fun _ => { b := true }) ca_octroilaw07_awake (fun hl => dawake_spec) rfl ?_
  (repeat ((first | refine h_box fun _ _ _ => ?_ | ((with_reducible show holds _ _ _ _ (.sem (Instr.alloc 25 _ _) _ _) _); refine h_alloc zb_DualPacket fun _ _ _ => ?_) | ((with_reducible show holds _ _ _ _ (.rd (Instr.loadAt _ (.pointer _)) _ _) _); first | refine ldI (by repeat (first | exact mq0 | apply mq1 | apply mq2)) (by rfl) (by kernel_rfl) ?_ | refine ldL (by repeat (first | exact mq0 | apply mq1 | apply mq2)) (by rfl) (by kernel_rfl) ?_ | refine la0 (by repeat (first | exact mq0 | apply mq1 | apply mq2)) (by rfl) (by kernel_rfl) ?_) | ((with_reducible show holds _ _ _ _ (.unit (Instr.storeAt _ _ _) _) _); refine stU (by repeat (first | exact Upd.here | apply Upd.there | apply Upd.right)) (by kernel_rfl) (by rfl) (by simp [Value.cells]) ?_)); try dsimp only [getL]))
  refine h_ite (fun h0 => h_end0 ⟨rfl, rfl⟩) (fun b1 => ?_)
  have b1 : p.es.length ≤ 100 := by simp at b1; omega
  (repeat ((first | refine h_box fun _ _ _ => ?_ | ((with_reducible show holds _ _ _ _ (.sem (Instr.alloc 25 _ _) _ _) _); refine h_alloc zb_DualPacket fun _ _ _ => ?_) | ((with_reducible show holds _ _ _ _ (.rd (Instr.loadAt _ (.pointer _)) _ _) _); first | refine ldI (by repeat (first | exact mq0 | apply mq1 | apply mq2)) (by rfl) (by kernel_rfl) ?_ | refine ldL (by repeat (first | exact mq0 | apply mq1 | apply mq2)) (by rfl) (by kernel_rfl) ?_ | refine la0 (by repeat (first | exact mq0 | apply mq1 | apply mq2)) (by rfl) (by kernel_rfl) ?_) | ((with_reducible show holds _ _ _ _ (.unit (Instr.storeAt _ _ _) _) _); refine stU (by repeat (first | exact Upd.here | apply Upd.there | apply Upd.right)) (by kernel_rfl) (by rfl) (by simp [Value.cells]) ?_)); try dsimp only [getL]))
  refine h_call [] _ ca_dualpkt_Encode (List.Perm.refl _) (fun hl => dencode_spec (hin.up (Sub.self.up hl)) hp) ?_
  rintro v mho1 ⟨X1, x1, rfl, ho1⟩
  refine ⟨getL [{ A := X1, n := (dencR p).1.length, c := x1 }, { i := (dencR p).2 }], rfl, ?_⟩
  dsimp only [getL]
  (repeat ((first | refine h_box fun _ _ _ => ?_ | ((with_reducible show holds _ _ _ _ (.sem (Instr.alloc 25 _ _) _ _) _); refine h_alloc zb_DualPacket fun _ _ _ => ?_) | ((with_reducible show holds _ _ _ _ (.rd (Instr.loadAt _ (.pointer _)) _ _) _); first | refine ldI (by repeat (first | exact mq0 | apply mq1 | apply mq2)) (by rfl) (by kernel_rfl) ?_ | refine ldL (by repeat (first | exact mq0 | apply mq1 | apply mq2)) (by rfl) (by kernel_rfl) ?_ | refine la0 (by repeat (first | exact mq0 | apply mq1 | apply mq2)) (by rfl) (by kernel_rfl) ?_) | ((with_reducible show holds _ _ _ _ (.unit (Instr.storeAt _ _ _) _) _); refine stU (by repeat (first | exact Upd.here | apply Upd.there | apply Upd.right)) (by kernel_rfl) (by rfl) (by simp [Value.cells]) ?_)); try dsimp only [getL]))
  have hx := ho1.2.1
  have hlr := dencR_len p
  refine h_call [] _ ca_dualpkt_Decode (List.Perm.refl _) (fun hl => ddec_spec (ho1.rdb hl (fun x hx => by first | (simp [hx]; done) | (rw [List.mem_singleton] at hx; subst hx; simp; done))) hx (by omega)) ?_
  rintro v mho2 ⟨A2, c2, rfl, ho2, okho2⟩
  refine ⟨getL [{ i := (ddecR (dencR p).1).1.code }, { b := (ddecR (dencR p).1).1.init }, { i := ((ddecR (dencR p).1).1.seq : Nat) }, { i := ((ddecR (dencR p).1).1.ack : Nat) }, { A := A2, n := (ddecR (dencR p).1).1.es.length, c := c2 }, { i := (ddecR (dencR p).1).2 }], rfl, ?_⟩
  dsimp only [getL]
  (repeat ((first | refine h_box fun _ _ _ => ?_ | ((with_reducible show holds _ _ _ _ (.sem (Instr.alloc 25 _ _) _ _) _); refine h_alloc zb_DualPacket fun _ _ _ => ?_) | ((with_reducible show holds _ _ _ _ (.rd (Instr.loadAt _ (.pointer _)) _ _) _); first | refine ldI (by repeat (first | exact mq0 | apply mq1 | apply mq2)) (by rfl) (by kernel_rfl) ?_ | refine ldL (by repeat (first | exact mq0 | apply mq1 | apply mq2)) (by rfl) (by kernel_rfl) ?_ | refine la0 (by repeat (first | exact mq0 | apply mq1 | apply mq2)) (by rfl) (by kernel_rfl) ?_) | ((with_reducible show holds _ _ _ _ (.unit (Instr.storeAt _ _ _) _) _); refine stU (by repeat (first | exact Upd.here | apply Upd.there | apply Upd.right)) (by kernel_rfl) (by rfl) (by simp [Value.cells]) ?_)); try dsimp only [getL]))
  refine h_call [] _ ca_octroiref07_Same (List.Perm.refl _) (fun hl => dsame_spec (p := p) (q := (ddecR (dencR p).1).1) (hin.up (Sub.self.up hl)) (ho2.ents hl (fun x hx => by first | (simp [hx]; done) | (rw [List.mem_singleton] at hx; subst hx; simp; done))) (by omega)) ?_
  rintro v h3 ⟨⟨b3, rfl, hb3⟩, rfl⟩
  refine ⟨fun _ => { b := b3 }, rfl, ?_⟩
  dsimp only
  by_cases h0 : (dencR p).2 = 0
  · obtain ⟨h1, h2, h3⟩ := ddec_enc hp hin.oks h0
    have h4 : ddecR (dencR p).1 = (p, 0) := by rw [h1]; exact h3
    refine h_no (by simp [h0]) ?_
    refine h_yes rfl ?_
    refine h_yes (by rw [h4]; rfl) ?_
    exact h_end0 ⟨congrArg Value.bool (hb3.2 (by rw [h4])), rfl⟩
  · have h1 := denc_bad h0
    refine h_yes (by simpa using h0) ?_
    refine h_yes rfl ?_
    refine h_yes (by rw [h1]; rfl) ?_
    exact h_end0 ⟨by rw [h1, ddec_short (.inl (by simp))]; rfl, rfl⟩
theorem law_DualpktOnce {J : Ctx} {A : Option Addr} {c : Nat} {l : List UInt8} (hr : RdB J A l.length l) (hn : l.length ≤ c) :
    Fn Try.prog 7 #[.slice A l.length c] J [] (fun v h' => v = .bool true ∧ h' = []) := by
  refine r_octroilaw07_DualpktOnce _ _ _ ?_
  refine h_call0 (fun _ => { b := true }) ca_octroilaw07_awake (fun hl => dawake_spec) rfl ?_
  refine h_ite (fun h0 => h_end0 ⟨rfl, rfl⟩) (fun b1 => ?_)
  have b1 : l.length ≤ 3000 := by simp at b1; omega
  refine h_call [] _ ca_dualpkt_Decode (List.Perm.refl _) (fun hl => ddec_spec (hr.up (Sub.self.up hl)) hn (by omega)) ?_
  rintro v mho1 ⟨A1, c1, rfl, ho1, okho1⟩
  refine ⟨getL [{ i := (ddecR l).1.code }, { b := (ddecR l).1.init }, { i := ((ddecR l).1.seq : Nat) }, { i := ((ddecR l).1.ack : Nat) }, { A := A1, n := (ddecR l).1.es.length, c := c1 }, { i := (ddecR l).2 }], rfl, ?_⟩
  dsimp only [getL]
  (repeat ((first | refine h_box fun _ _ _ => ?_ | ((with_reducible show holds _ _ _ _ (.sem (Instr.alloc 25 _ _) _ _) _); refine h_alloc zb_DualPacket fun _ _ _ => ?_) | ((with_reducible show holds _ _ _ _ (.rd (Instr.loadAt _ (.pointer _)) _ _) _); first | refine ldI (by repeat (first | exact mq0 | apply mq1 | apply mq2)) (by rfl) (by kernel_rfl) ?_ | refine ldL (by repeat (first | exact mq0 | apply mq1 | apply mq2)) (by rfl) (by kernel_rfl) ?_ | refine la0 (by repeat (first | exact mq0 | apply mq1 | apply mq2)) (by rfl) (by kernel_rfl) ?_) | ((with_reducible show holds _ _ _ _ (.unit (Instr.storeAt _ _ _) _) _); refine stU (by repeat (first | exact Upd.here | apply Upd.there | apply Upd.right)) (by kernel_rfl) (by rfl) (by simp [Value.cells]) ?_)); try dsimp only [getL]))
  refine h_ite (fun t => ?_) (fun t => ?_)
  · refine h_yes rfl ?_
    (repeat ((first | refine h_box fun _ _ _ => ?_ | ((with_reducible show holds _ _ _ _ (.sem (Instr.alloc 25 _ _) _ _) _); refine h_alloc zb_DualPacket fun _ _ _ => ?_) | ((with_reducible show holds _ _ _ _ (.rd (Instr.loadAt _ (.pointer _)) _ _) _); first | refine ldI (by repeat (first | exact mq0 | apply mq1 | apply mq2)) (by rfl) (by kernel_rfl) ?_ | refine ldL (by repeat (first | exact mq0 | apply mq1 | apply mq2)) (by rfl) (by kernel_rfl) ?_ | refine la0 (by repeat (first | exact mq0 | apply mq1 | apply mq2)) (by rfl) (by kernel_rfl) ?_) | ((with_reducible show holds _ _ _ _ (.unit (Instr.storeAt _ _ _) _) _); refine stU (by repeat (first | exact Upd.here | apply Upd.there | apply Upd.right)) (by kernel_rfl) (by rfl) (by simp [Value.cells]) ?_)); try dsimp only [getL]))
    have hb := ddec_bad (l := l) (by simpa using t)
    exact h_end0 ⟨by rw [hb]; rfl, rfl⟩
  · obtain ⟨h1, _, _⟩ := denc_dec (l := l) (by simpa using t)
    (repeat ((first | refine h_box fun _ _ _ => ?_ | ((with_reducible show holds _ _ _ _ (.sem (Instr.alloc 25 _ _) _ _) _); refine h_alloc zb_DualPacket fun _ _ _ => ?_) | ((with_reducible show holds _ _ _ _ (.rd (Instr.loadAt _ (.pointer _)) _ _) _); first | refine ldI (by repeat (first | exact mq0 | apply mq1 | apply mq2)) (by rfl) (by kernel_rfl) ?_ | refine ldL (by repeat (first | exact mq0 | apply mq1 | apply mq2)) (by rfl) (by kernel_rfl) ?_ | refine la0 (by repeat (first | exact mq0 | apply mq1 | apply mq2)) (by rfl) (by kernel_rfl) ?_) | ((with_reducible show holds _ _ _ _ (.unit (Instr.storeAt _ _ _) _) _); refine stU (by repeat (first | exact Upd.here | apply Upd.there | apply Upd.right)) (by kernel_rfl) (by rfl) (by simp [Value.cells]) ?_)); try dsimp only [getL]))
    refine h_call [] _ ca_dualpkt_Encode (List.Perm.refl _) (fun hl => dencode_spec (p := (ddecR l).1) (ho1.ents hl (fun x hx => by first | (simp [hx]; done) | (rw [List.mem_singleton] at hx; subst hx; simp; done))) okho1) ?_
    rw [h1]
    rintro v h1 ⟨X1, x1, rfl, hx1⟩
    refine ⟨getL [{ A := X1, n := l.length, c := x1 }, { i := 0 }], rfl, ?_⟩
    dsimp only [getL]
    refine h_yes rfl ?_
    refine h_yes rfl ?_
    refine h_toString (e := 5) (l := l) (by kernel_rfl) (by kernel_rfl) (by kernel_rfl) rfl (hx1.rd (fun x hx => by first | (simp [hx]; done) | (rw [List.mem_singleton] at hx; subst hx; simp; done))) hx1.some_of ?_
    refine h_toString (e := 5) (l := l) (by kernel_rfl) (by kernel_rfl) (by kernel_rfl) rfl (hr.rd.sub Sub.self) hr.nil ?_
    exact h_end0 ⟨by simp, rfl⟩
theorem law_DualpktApart {J : Ctx} {A1 A2 : Option Addr} {k1 k2 : Nat} {p q : DPk} (hin1 : DEntsIn J A1 p.es) (hin2 : DEntsIn J A2 q.es) (hp : p.ok) (hq : q.ok) :
    Fn Try.prog 4 #[p.vv A1 k1, q.vv A2 k2] J [] (fun v h' => v = .bool true ∧ h' = []) := by
  refine r_octroilaw07_DualpktApart _ _ _ _ _ _ _ _ _ _ _ _ _ _ ?_
  (repeat ((first | refine h_box fun _ _ _ => ?_ | ((with_reducible show holds _ _ _ _ (.sem (Instr.alloc 25 _ _) _ _) _); refine h_alloc zb_DualPacket fun _ _ _ => ?_) | ((with_reducible show holds _ _ _ _ (.rd (Instr.loadAt _ (.pointer _)) _ _) _); first | refine ldI (by repeat (first | exact mq0 | apply mq1 | apply mq2)) (by rfl) (by kernel_rfl) ?_ | refine ldL (by repeat (first | exact mq0 | apply mq1 | apply mq2)) (by rfl) (by kernel_rfl) ?_ | refine la0 (by repeat (first | exact mq0 | apply mq1 | apply mq2)) (by rfl) (by kernel_rfl) ?_) | ((with_reducible show holds _ _ _ _ (.unit (Instr.storeAt _ _ _) _) _); refine stU (by repeat (first | exact Upd.here | apply Upd.there | apply Upd.right)) (by kernel_rfl) (by rfl) (by simp [Value.cells]) ?_)); try dsimp only [getL]))
  refine h_call0 (fun _ => { b := true }) ca_octroilaw07_awake (fun hl => dawake_spec) rfl ?_
  refine h_no rfl ?_
  (repeat ((first | refine h_box fun _ _ _ => ?_ | ((with_reducible show holds _ _ _ _ (.sem (Instr.alloc 25 _ _) _ _) _); refine h_alloc zb_DualPacket fun _ _ _ => ?_) | ((with_reducible show holds _ _ _ _ (.rd (Instr.loadAt _ (.pointer _)) _ _) _); first | refine ldI (by repeat (first | exact mq0 | apply mq1 | apply mq2)) (by rfl) (by kernel_rfl) ?_ | refine ldL (by repeat (first | exact mq0 | apply mq1 | apply mq2)) (by rfl) (by kernel_rfl) ?_ | refine la0 (by repeat (first | exact mq0 | apply mq1 | apply mq2)) (by rfl) (by kernel_rfl) ?_) | ((with_reducible show holds _ _ _ _ (.unit (Instr.storeAt _ _ _) _) _); refine stU (by repeat (first | exact Upd.here | apply Upd.there | apply Upd.right)) (by kernel_rfl) (by rfl) (by simp [Value.cells]) ?_)); try dsimp only [getL]))
  refine h_ite (fun h0 => h_end0 ⟨rfl, rfl⟩) (fun b1 => ?_)
  (repeat ((first | refine h_box fun _ _ _ => ?_ | ((with_reducible show holds _ _ _ _ (.sem (Instr.alloc 25 _ _) _ _) _); refine h_alloc zb_DualPacket fun _ _ _ => ?_) | ((with_reducible show holds _ _ _ _ (.rd (Instr.loadAt _ (.pointer _)) _ _) _); first | refine ldI (by repeat (first | exact mq0 | apply mq1 | apply mq2)) (by rfl) (by kernel_rfl) ?_ | refine ldL (by repeat (first | exact mq0 | apply mq1 | apply mq2)) (by rfl) (by kernel_rfl) ?_ | refine la0 (by repeat (first | exact mq0 | apply mq1 | apply mq2)) (by rfl) (by kernel_rfl) ?_) | ((with_reducible show holds _ _ _ _ (.unit (Instr.storeAt _ _ _) _) _); refine stU (by repeat (first | exact Upd.here | apply Upd.there | apply Upd.right)) (by kernel_rfl) (by rfl) (by simp [Value.cells]) ?_)); try dsimp only [getL]))
  refine h_ite (fun h0 => h_end0 ⟨rfl, rfl⟩) (fun b2 => ?_)
  have b1 : p.es.length ≤ 40 := by simp at b1; omega
  have b2 : q.es.length ≤ 40 := by simp at b2; omega
  (repeat ((first | refine h_box fun _ _ _ => ?_ | ((with_reducible show holds _ _ _ _ (.sem (Instr.alloc 25 _ _) _ _) _); refine h_alloc zb_DualPacket fun _ _ _ => ?_) | ((with_reducible show holds _ _ _ _ (.rd (Instr.loadAt _ (.pointer _)) _ _) _); first | refine ldI (by repeat (first | exact mq0 | apply mq1 | apply mq2)) (by rfl) (by kernel_rfl) ?_ | refine ldL (by repeat (first | exact mq0 | apply mq1 | apply mq2)) (by rfl) (by kernel_rfl) ?_ | refine la0 (by repeat (first | exact mq0 | apply mq1 | apply mq2)) (by rfl) (by kernel_rfl) ?_) | ((with_reducible show holds _ _ _ _ (.unit (Instr.storeAt _ _ _) _) _); refine stU (by repeat (first | exact Upd.here | apply Upd.there | apply Upd.right)) (by kernel_rfl) (by rfl) (by simp [Value.cells]) ?_)); try dsimp only [getL]))
  refine h_call [] _ ca_dualpkt_Encode (List.Perm.refl _) (fun hl => dencode_spec (hin1.up (Sub.self.up hl)) hp) ?_
  rintro v mho1 ⟨X1, x1, rfl, ho1⟩
  refine ⟨getL [{ A := X1, n := (dencR p).1.length, c := x1 }, { i := (dencR p).2 }], rfl, ?_⟩
  dsimp only [getL]
  (repeat ((first | refine h_box fun _ _ _ => ?_ | ((with_reducible show holds _ _ _ _ (.sem (Instr.alloc 25 _ _) _ _) _); refine h_alloc zb_DualPacket fun _ _ _ => ?_) | ((with_reducible show holds _ _ _ _ (.rd (Instr.loadAt _ (.pointer _)) _ _) _); first | refine ldI (by repeat (first | exact mq0 | apply mq1 | apply mq2)) (by rfl) (by kernel_rfl) ?_ | refine ldL (by repeat (first | exact mq0 | apply mq1 | apply mq2)) (by rfl) (by kernel_rfl) ?_ | refine la0 (by repeat (first | exact mq0 | apply mq1 | apply mq2)) (by rfl) (by kernel_rfl) ?_) | ((with_reducible show holds _ _ _ _ (.unit (Instr.storeAt _ _ _) _) _); refine stU (by repeat (first | exact Upd.here | apply Upd.there | apply Upd.right)) (by kernel_rfl) (by rfl) (by simp [Value.cells]) ?_)); try dsimp only [getL]))
  refine h_call [] _ ca_dualpkt_Encode (List.Perm.refl _) (fun hl => dencode_spec (hin2.up (Sub.self.up hl)) hq) ?_
  rintro v mho2 ⟨X2, x2, rfl, ho2⟩
  refine ⟨getL [{ A := X2, n := (dencR q).1.length, c := x2 }, { i := (dencR q).2 }], rfl, ?_⟩
  dsimp only [getL]
  (repeat ((first | refine h_box fun _ _ _ => ?_ | ((with_reducible show holds _ _ _ _ (.sem (Instr.alloc 25 _ _) _ _) _); refine h_alloc zb_DualPacket fun _ _ _ => ?_) | ((with_reducible show holds _ _ _ _ (.rd (Instr.loadAt _ (.pointer _)) _ _) _); first | refine ldI (by repeat (first | exact mq0 | apply mq1 | apply mq2)) (by rfl) (by kernel_rfl) ?_ | refine ldL (by repeat (first | exact mq0 | apply mq1 | apply mq2)) (by rfl) (by kernel_rfl) ?_ | refine la0 (by repeat (first | exact mq0 | apply mq1 | apply mq2)) (by rfl) (by kernel_rfl) ?_) | ((with_reducible show holds _ _ _ _ (.unit (Instr.storeAt _ _ _) _) _); refine stU (by repeat (first | exact Upd.here | apply Upd.there | apply Upd.right)) (by kernel_rfl) (by rfl) (by simp [Value.cells]) ?_)); try dsimp only [getL]))
  refine h_ite (fun h0 => h_end0 ⟨rfl, rfl⟩) (fun z1 => ?_)
  refine h_ite (fun h0 => h_end0 ⟨rfl, rfl⟩) (fun z2 => ?_)
  obtain ⟨e1, _, d1⟩ := ddec_enc hp hin1.oks (by simpa using z1)
  obtain ⟨e2, _, d2⟩ := ddec_enc hq hin2.oks (by simpa using z2)
  rw [e1] at ho1 ⊢
  rw [e2] at ho2 ⊢
  dsimp only at ho1 ho2 ⊢
  (repeat ((first | refine h_box fun _ _ _ => ?_ | ((with_reducible show holds _ _ _ _ (.sem (Instr.alloc 25 _ _) _ _) _); refine h_alloc zb_DualPacket fun _ _ _ => ?_) | ((with_reducible show holds _ _ _ _ (.rd (Instr.loadAt _ (.pointer _)) _ _) _); first | refine ldI (by repeat (first | exact mq0 | apply mq1 | apply mq2)) (by rfl) (by kernel_rfl) ?_ | refine ldL (by repeat (first | exact mq0 | apply mq1 | apply mq2)) (by rfl) (by kernel_rfl) ?_ | refine la0 (by repeat (first | exact mq0 | apply mq1 | apply mq2)) (by rfl) (by kernel_rfl) ?_) | ((with_reducible show holds _ _ _ _ (.unit (Instr.storeAt _ _ _) _) _); refine stU (by repeat (first | exact Upd.here | apply Upd.there | apply Upd.right)) (by kernel_rfl) (by rfl) (by simp [Value.cells]) ?_)); try dsimp only [getL]))
  refine h_call [] _ ca_octroiref07_Same (List.Perm.refl _) (fun hl => dsame_spec (p := p) (q := q) (hin1.up (Sub.self.up hl)) (hin2.up (Sub.self.up hl)) (by omega)) ?_
  rintro v h3 ⟨⟨b3, rfl, hb3⟩, rfl⟩
  refine ⟨fun _ => { b := b3 }, rfl, ?_⟩
  dsimp only
  refine h_toString (e := 5) (l := dencB p) (by kernel_rfl) (by kernel_rfl) (by kernel_rfl) rfl (ho1.rd (fun x hx => by first | (simp [hx]; done) | (rw [List.mem_singleton] at hx; subst hx; simp; done))) ho1.some_of ?_
  refine h_toString (e := 5) (l := dencB q) (by kernel_rfl) (by kernel_rfl) (by kernel_rfl) rfl (ho2.rd (fun x hx => by first | (simp [hx]; done) | (rw [List.mem_singleton] at hx; subst hx; simp; done))) ho2.some_of ?_
  dsimp only
  rw [bS_toList, bS_toList]
  have hkey : (dencB p == dencB q) = b3 := by
    rw [Bool.eq_iff_iff, hb3, beq_iff_eq]
    exact ⟨fun h => by rw [h, d2] at d1; injection d1 with d1; exact d1.symm, fun h => by rw [h]⟩
  refine h_yes (by rw [hkey]; simp) ?_
  (repeat ((first | refine h_box fun _ _ _ => ?_ | ((with_reducible show holds _ _ _ _ (.sem (Instr.alloc 25 _ _) _ _) _); refine h_alloc zb_DualPacket fun _ _ _ => ?_) | ((with_reducible show holds _ _ _ _ (.rd (Instr.loadAt _ (.pointer _)) _ _) _); first | refine ldI (by repeat (first | exact mq0 | apply mq1 | apply mq2)) (by rfl) (by kernel_rfl) ?_ | refine ldL (by repeat (first | exact mq0 | apply mq1 | apply mq2)) (by rfl) (by kernel_rfl) ?_ | refine la0 (by repeat (first | exact mq0 | apply mq1 | apply mq2)) (by rfl) (by kernel_rfl) ?_) | ((with_reducible show holds _ _ _ _ (.unit (Instr.storeAt _ _ _) _) _); refine stU (by repeat (first | exact Upd.here | apply Upd.there | apply Upd.right)) (by kernel_rfl) (by rfl) (by simp [Value.cells]) ?_)); try dsimp only [getL]))
  refine h_end0 ⟨?_, rfl⟩
  have hl1 := dencB_len p
  rw [wrap64 (x := 20 * (p.es.length : Int)) (by omega), wrap64 (by omega), hl1]
  simp
theorem law_DualpktSpoils {J : Ctx} {A : Option Addr} {c : Nat} {p : DPk} {at_ : Int} {to : UInt8} (hin : DEntsIn J A p.es) (hp : p.ok) :
    Fn Try.prog 8 #[p.vv A c, .int .i64 at_, .int .u8 ((to.toNat : Nat) : Int)] J [] (fun v h' => v = .bool true ∧ h' = []) := by
  refine r_octroilaw07_DualpktSpoils _ _ _ _ _ _ _ _ _ ?_
  (repeat ((first | refine h_box fun _ _ _ => ?_ | ((with_reducible show holds _ _ _ _ (.sem (Instr.alloc 25 _ _) _ _) _); refine h_alloc zb_DualPacket fun _ _ _ => ?_) | ((with_reducible show holds _ _ _ _ (.rd (Instr.loadAt _ (.pointer _)) _ _) _); first | refine ldI (by repeat (first | exact mq0 | apply mq1 | apply mq2)) (by rfl) (by kernel_rfl) ?_ | refine ldL (by repeat (first | exact mq0 | apply mq1 | apply mq2)) (by rfl) (by kernel_rfl) ?_ | refine la0 (by repeat (first | exact mq0 | apply mq1 | apply mq2)) (by rfl) (by kernel_rfl) ?_) | ((with_reducible show holds _ _ _ _ (.unit (Instr.storeAt _ _ _) _) _); refine stU (by repeat (first | exact Upd.here | apply Upd.there | apply Upd.right)) (by kernel_rfl) (by rfl) (by simp [Value.cells]) ?_)); try dsimp only [getL]))
  refine h_call0 (fun _ => { b := true }) ca_octroilaw07_awake (fun hl => dawake_spec) rfl ?_
  refine h_no rfl ?_
  (repeat ((first | refine h_box fun _ _ _ => ?_ | ((with_reducible show holds _ _ _ _ (.sem (Instr.alloc 25 _ _) _ _) _); refine h_alloc zb_DualPacket fun _ _ _ => ?_) | ((with_reducible show holds _ _ _ _ (.rd (Instr.loadAt _ (.pointer _)) _ _) _); first | refine ldI (by repeat (first | exact mq0 | apply mq1 | apply mq2)) (by rfl) (by kernel_rfl) ?_ | refine ldL (by repeat (first | exact mq0 | apply mq1 | apply mq2)) (by rfl) (by kernel_rfl) ?_ | refine la0 (by repeat (first | exact mq0 | apply mq1 | apply mq2)) (by rfl) (by kernel_rfl) ?_) | ((with_reducible show holds _ _ _ _ (.unit (Instr.storeAt _ _ _) _) _); refine stU (by repeat (first | exact Upd.here | apply Upd.there | apply Upd.right)) (by kernel_rfl) (by rfl) (by simp [Value.cells]) ?_)); try dsimp only [getL]))
  refine h_ite (fun h0 => h_end0 ⟨rfl, rfl⟩) (fun b1 => ?_)
  refine h_ite (fun h0 => h_end0 ⟨rfl, rfl⟩) (fun b2 => ?_)
  have b1 : p.es.length ≤ 40 := by simp at b1; omega
  have b2 : 0 ≤ at_ := by simp at b2; omega
  (repeat ((first | refine h_box fun _ _ _ => ?_ | ((with_reducible show holds _ _ _ _ (.sem (Instr.alloc 25 _ _) _ _) _); refine h_alloc zb_DualPacket fun _ _ _ => ?_) | ((with_reducible show holds _ _ _ _ (.rd (Instr.loadAt _ (.pointer _)) _ _) _); first | refine ldI (by repeat (first | exact mq0 | apply mq1 | apply mq2)) (by rfl) (by kernel_rfl) ?_ | refine ldL (by repeat (first | exact mq0 | apply mq1 | apply mq2)) (by rfl) (by kernel_rfl) ?_ | refine la0 (by repeat (first | exact mq0 | apply mq1 | apply mq2)) (by rfl) (by kernel_rfl) ?_) | ((with_reducible show holds _ _ _ _ (.unit (Instr.storeAt _ _ _) _) _); refine stU (by repeat (first | exact Upd.here | apply Upd.there | apply Upd.right)) (by kernel_rfl) (by rfl) (by simp [Value.cells]) ?_)); try dsimp only [getL]))
  refine h_call [] _ ca_dualpkt_Encode (List.Perm.refl _) (fun hl => dencode_spec (hin.up (Sub.self.up hl)) hp) ?_
  rintro v mho1 ⟨X1, x1, rfl, ho1⟩
  refine ⟨getL [{ A := X1, n := (dencR p).1.length, c := x1 }, { i := (dencR p).2 }], rfl, ?_⟩
  dsimp only [getL]
  (repeat ((first | refine h_box fun _ _ _ => ?_ | ((with_reducible show holds _ _ _ _ (.sem (Instr.alloc 25 _ _) _ _) _); refine h_alloc zb_DualPacket fun _ _ _ => ?_) | ((with_reducible show holds _ _ _ _ (.rd (Instr.loadAt _ (.pointer _)) _ _) _); first | refine ldI (by repeat (first | exact mq0 | apply mq1 | apply mq2)) (by rfl) (by kernel_rfl) ?_ | refine ldL (by repeat (first | exact mq0 | apply mq1 | apply mq2)) (by rfl) (by kernel_rfl) ?_ | refine la0 (by repeat (first | exact mq0 | apply mq1 | apply mq2)) (by rfl) (by kernel_rfl) ?_) | ((with_reducible show holds _ _ _ _ (.unit (Instr.storeAt _ _ _) _) _); refine stU (by repeat (first | exact Upd.here | apply Upd.there | apply Upd.right)) (by kernel_rfl) (by rfl) (by simp [Value.cells]) ?_)); try dsimp only [getL]))
  refine h_ite (fun h0 => h_end0 ⟨rfl, rfl⟩) (fun z1 => ?_)
  obtain ⟨e1, _, d1⟩ := ddec_enc hp hin.oks (by simpa using z1)
  rw [e1] at ho1 ⊢
  dsimp only at ho1 ⊢
  have hl1 := dencB_len p
  refine h_ite (fun h0 => h_end0 ⟨rfl, rfl⟩) (fun z2 => ?_)
  have z2 : at_ < (dencB p).length := by simp at z2; omega
  obtain ⟨j, rfl⟩ : ∃ j : Nat, at_ = j := ⟨at_.toNat, by omega⟩
  have hj : j < (dencB p).length := by omega
  obtain ⟨a, rfl⟩ : ∃ a, X1 = some a := by
    cases X1 with
    | none => have := ho1.some_of rfl; omega
    | some a => exact ⟨a, rfl⟩
  have hx := ho1.2.1
  refine h_byte (e := 5) j (ho1.rd (fun x hx => by first | (simp [hx]; done) | (rw [List.mem_singleton] at hx; subst hx; simp; done))) (byteAt_in hj) rfl rfl (by kernel_rfl) (by kernel_rfl) (by kernel_rfl) fun a1 _ => ?_
  dsimp only
  refine h_ite (fun h0 => h_end0 ⟨rfl, rfl⟩) (fun z3 => ?_)
  have hne : byteAt (dencB p) j ≠ to := by
    intro e; rw [e] at z3; simp at z3
  refine h_index (e := 5) a (sz := 1) (by kernel_rfl) (by kernel_rfl) (by omega) (by omega) rfl ?_
  dsimp only
  rw [Int.toNat_natCast, Nat.mul_one]
  refine h_storeE j (m := mho1) (cl_.aff _) (by repeat (first | exact Pick.here | exact Pick.one | apply Pick.two | apply Pick.cons | apply Pick.app)) ho1 rfl (by kernel_rfl) (by simp [Value.cells]; omega) (by simp [Value.cells]) ?_
  intro m2 ho2
  have ho2 : OwnB (some a) ((dencB p).set j to).length x1 ((dencB p).set j to) m2 := by
    have hw := wr_set (l := dencB p) (i := j) (b := to) hj
    show Own 5 1 (some a) ((dencB p).set j to).length x1 (bC ((dencB p).set j to)) m2
    rw [← hw, List.length_set]; exact ho2
  have hls : (dencB p).length = ((dencB p).set j to).length := by simp
  rw [hls]
  refine h_call [] _ ca_dualpkt_Decode (List.Perm.refl _) (fun hl => ddec_spec (OwnB.rdb ho2 hl (fun x hx => by first | (simp [hx]; done) | (rw [List.mem_singleton] at hx; subst hx; simp; done))) (by omega) (by omega)) ?_
  rintro v mho4 ⟨A4, c4, rfl, ho4, okho4⟩
  refine ⟨getL [{ i := (ddecR ((dencB p).set j to)).1.code }, { b := (ddecR ((dencB p).set j to)).1.init }, { i := ((ddecR ((dencB p).set j to)).1.seq : Nat) }, { i := ((ddecR ((dencB p).set j to)).1.ack : Nat) }, { A := A4, n := (ddecR ((dencB p).set j to)).1.es.length, c := c4 }, { i := (ddecR ((dencB p).set j to)).2 }], rfl, ?_⟩
  dsimp only [getL]
  (repeat ((first | refine h_box fun _ _ _ => ?_ | ((with_reducible show holds _ _ _ _ (.sem (Instr.alloc 25 _ _) _ _) _); refine h_alloc zb_DualPacket fun _ _ _ => ?_) | ((with_reducible show holds _ _ _ _ (.rd (Instr.loadAt _ (.pointer _)) _ _) _); first | refine ldI (by repeat (first | exact mq0 | apply mq1 | apply mq2)) (by rfl) (by kernel_rfl) ?_ | refine ldL (by repeat (first | exact mq0 | apply mq1 | apply mq2)) (by rfl) (by kernel_rfl) ?_ | refine la0 (by repeat (first | exact mq0 | apply mq1 | apply mq2)) (by rfl) (by kernel_rfl) ?_) | ((with_reducible show holds _ _ _ _ (.unit (Instr.storeAt _ _ _) _) _); refine stU (by repeat (first | exact Upd.here | apply Upd.there | apply Upd.right)) (by kernel_rfl) (by rfl) (by simp [Value.cells]) ?_)); try dsimp only [getL]))
  have := ddec_spoils hj hne
  exact h_end0 ⟨congrArg Value.bool (by simpa using this), rfl⟩
end Go.Proofs.YtkdakglnhipmaaaS
