import Derived.Test.YtcfnliodgoenkaaN5
import Derived.Test.YtcfnliodgoenkaaTA
set_option linter.unusedVariables false
namespace Go.Proofs.YtcfnliodgoenkaaS
/-- How many bytes they have in common. -/
def cmn : Nat → List UInt8 → List UInt8 → Nat
  | k + 1, a :: x, b :: y => if a = b then cmn k x y + 1 else 0
  | _, _, _ => 0
theorem cmn_cons (k : Nat) (a b : UInt8) (x y : List UInt8) : cmn (k + 1) (a :: x) (b :: y) = if a = b then cmn k x y + 1 else 0 := rfl
theorem cmn_le : ∀ (k : Nat) (x y : List UInt8), cmn k x y ≤ k
  | 0, x, y => by simp [cmn]
  | k + 1, [], y => by simp [cmn]
  | k + 1, a :: x, [] => by simp [cmn]
  | k + 1, a :: x, b :: y => by
    have := cmn_le k x y
    unfold cmn
    split <;> omega
def sqz (a b : Nat) (n : Int) : Nat := if 0 ≤ n ∧ n ≤ 4 then cmn n.toNat (be 4 a) (be 4 b) else 0
theorem sqz_le (a b : Nat) {n : Int} (h : 0 ≤ n) : ((sqz a b n : Nat) : Int) ≤ n := by
  unfold sqz
  split
  · have := cmn_le n.toNat (be 4 a) (be 4 b); omega
  · omega
theorem babelpkt_Squeeze_sqLoop {I : Ctx} {A1 A2 : Option Addr} {n1 n2 c1 c2 : Nat} {x y : List UInt8} {hv : Nat} (hx : x.length = 4) (hy : y.length = 4) (hh : hv ≤ 4) {m1 m2 hr h : Mem} (ho1 : OwnB A1 n1 c1 x m1) (ho2 : OwnB A2 n2 c2 y m2) (hm1 : ∀ q ∈ m1, q ∈ h) (hm2 : ∀ q ∈ m2, q ∈ h) :
    ∀ (q i : Nat) (u : Nat → Value), i + q = hv →
    Wp Try.prog 14 k_babelpkt_Squeeze_1 (t_babelpkt_Squeeze_1 (hv : Nat) A1 n1 c1 A2 n2 c2 i u) I h (cl_ fun v h' => v = .int .i64 ((i + cmn q (x.drop i) (y.drop i) : Nat) : Int) ∧ h' = []) := by
  have hl1 := ho1.len
  have hl2 := ho2.len
  intro q
  induction q with
  | zero =>
    intro i u hi
    refine r_babelpkt_Squeeze_1 _ _ _ _ _ _ _ _ _ ?_
    refine h_no (by simp; omega) ?_
    exact h_end0 ⟨by simp [cmn], rfl⟩
  | succ q ih =>
    intro i u hi
    have hd1 : x.drop i = x[i] :: x.drop (i + 1) := List.drop_eq_getElem_cons (by omega)
    have hd2 : y.drop i = y[i] :: y.drop (i + 1) := List.drop_eq_getElem_cons (by omega)
    refine r_babelpkt_Squeeze_1 _ _ _ _ _ _ _ _ _ ?_
    refine h_yes (by simp; omega) ?_
    refine h_byte (e := 5) i (b := x[i]'(by omega)) (ho1.rd hm1) (List.getElem?_eq_getElem _) hl1 rfl (by kernel_rfl) (by kernel_rfl) (by kernel_rfl) fun a1 _ => ?_
    refine h_byte (e := 5) i (b := y[i]'(by omega)) (ho2.rd hm2) (List.getElem?_eq_getElem _) hl2 rfl (by kernel_rfl) (by kernel_rfl) (by kernel_rfl) fun a1 _ => ?_
    dsimp only
    refine h_ite (fun t => ?_) (fun t => ?_)
    · have e : x[i] = y[i] := by rw [← UInt8.toNat_inj]; simp at t; omega
      refine h_stop fun hl => ?_
      rw [wrapS (by omega), hd1, hd2]
      have : i + cmn (q + 1) (x[i] :: x.drop (i + 1)) (y[i] :: y.drop (i + 1)) = i + 1 + cmn q (x.drop (i + 1)) (y.drop (i + 1)) := by
        rw [cmn_cons, if_pos e]; omega
      rw [this]
      exact ih (i + 1) _ (by omega)
    · refine h_end0 ⟨?_, rfl⟩
      rw [hd1, hd2]
      have : cmn (q + 1) (x[i] :: x.drop (i + 1)) (y[i] :: y.drop (i + 1)) = 0 := by
        rw [cmn_cons, if_neg (fun e => by rw [e] at t; simp at t)]
      rw [this, Nat.add_zero]
theorem octroiref06_Squeeze_sqLoop {I : Ctx} {A1 A2 : Option Addr} {n1 n2 c1 c2 : Nat} {x y : List UInt8} {hv : Nat} (hx : x.length = 4) (hy : y.length = 4) (hh : hv ≤ 4) {m1 m2 hr h : Mem} (ho1 : OwnB A1 n1 c1 x m1) (ho2 : OwnB A2 n2 c2 y m2) (hm1 : ∀ q ∈ m1, q ∈ h) (hm2 : ∀ q ∈ m2, q ∈ h) :
    ∀ (q i : Nat) (u : Nat → Value), i + q = hv →
    Wp Try.prog 15 k_octroiref06_Squeeze_1 (t_octroiref06_Squeeze_1 (hv : Nat) A1 n1 c1 A2 n2 c2 i u) I h (cl_ fun v h' => v = .int .i64 ((i + cmn q (x.drop i) (y.drop i) : Nat) : Int) ∧ h' = []) := by
  have hl1 := ho1.len
  have hl2 := ho2.len
  intro q
  induction q with
  | zero =>
    intro i u hi
    refine r_octroiref06_Squeeze_1 _ _ _ _ _ _ _ _ _ ?_
    refine h_no (by simp; omega) ?_
    exact h_end0 ⟨by simp [cmn], rfl⟩
  | succ q ih =>
    intro i u hi
    have hd1 : x.drop i = x[i] :: x.drop (i + 1) := List.drop_eq_getElem_cons (by omega)
    have hd2 : y.drop i = y[i] :: y.drop (i + 1) := List.drop_eq_getElem_cons (by omega)
    refine r_octroiref06_Squeeze_1 _ _ _ _ _ _ _ _ _ ?_
    refine h_yes (by simp; omega) ?_
    refine h_byte (e := 5) i (b := x[i]'(by omega)) (ho1.rd hm1) (List.getElem?_eq_getElem _) hl1 rfl (by kernel_rfl) (by kernel_rfl) (by kernel_rfl) fun a1 _ => ?_
    refine h_byte (e := 5) i (b := y[i]'(by omega)) (ho2.rd hm2) (List.getElem?_eq_getElem _) hl2 rfl (by kernel_rfl) (by kernel_rfl) (by kernel_rfl) fun a1 _ => ?_
    dsimp only
    refine h_ite (fun t => ?_) (fun t => ?_)
    · have e : x[i] = y[i] := by rw [← UInt8.toNat_inj]; simp at t; omega
      refine h_stop fun hl => ?_
      rw [wrapS (by omega), hd1, hd2]
      have : i + cmn (q + 1) (x[i] :: x.drop (i + 1)) (y[i] :: y.drop (i + 1)) = i + 1 + cmn q (x.drop (i + 1)) (y.drop (i + 1)) := by
        rw [cmn_cons, if_pos e]; omega
      rw [this]
      exact ih (i + 1) _ (by omega)
    · refine h_end0 ⟨?_, rfl⟩
      rw [hd1, hd2]
      have : cmn (q + 1) (x[i] :: x.drop (i + 1)) (y[i] :: y.drop (i + 1)) = 0 := by
        rw [cmn_cons, if_neg (fun e => by rw [e] at t; simp at t)]
      rw [this, Nat.add_zero]
theorem raddr4 {I : Ctx} {a : Nat} {k : Nat} (ha : a < 4294967296) (hk : k ≤ 4) : Fn Try.prog 32 #[.int .u32 (a : Int), .int .i64 (k : Int)] I [] (GivesB ((be 4 a).take k)) := by
  refine r_octroiref06_addr _ _ ?_
  refine h_call [] _ ca_octroiref01_Put (List.Perm.refl _) (fun hl => rput_spec (k := 4) (by omega) ha) ?_
  rintro v h1 ⟨A1, c1, rfl, ho1⟩
  refine ⟨fun _ => { A := A1, n := (be 4 a).length, c := c1 }, rfl, ?_⟩
  dsimp only
  have hc := ho1.2.1
  have hl := be_length 4 a
  refine h_cut (e := 5) (sz := 1) 0 k c1 (by kernel_rfl) (by kernel_rfl) rfl rfl rfl (by simp) (by omega) (by omega) (by omega) ?_
  dsimp only
  rw [cutA_zero, Nat.sub_zero, Nat.sub_zero]
  have hlt : ((be 4 a).take k).length = k := by simp [hl]; omega
  refine h_end (by repeat (first | exact Pick.here | exact Pick.one | exact Pick.all | apply Pick.two | apply Pick.cons | apply Pick.app)) ⟨A1, c1, by rw [hlt], ?_⟩
  have := ho1.cut (i := k) (by omega)
  rw [Nat.mul_one, bC_take] at this
  rw [hlt]
  exact this
theorem raddr4' {I : Ctx} {a : Nat} (ha : a < 4294967296) : Fn Try.prog 32 #[.int .u32 (a : Int), .int .i64 4] I [] (GivesB (be 4 a)) := by
  have h := raddr4 (I := I) (k := 4) ha (by omega)
  rw [List.take_of_length_le (by rw [be_length]; omega)] at h
  exact h
theorem babelpkt_Squeeze_sq {I : Ctx} {a b : Nat} {n : Int} (ha : a < 4294967296) (hb : b < 4294967296) : Fn Try.prog 14 #[.int .u32 (a : Int), .int .u32 (b : Int), .int .i64 n] I [] (fun v h' => v = .int .i64 (sqz a b n : Nat) ∧ h' = []) := by
  refine r_babelpkt_Squeeze _ _ _ ?_
  refine h_ite (fun t0 => ?_) (fun t0 => ?_)
  · refine h_end0 ⟨?_, rfl⟩
    unfold sqz; rw [if_neg (by simp at t0; omega)]; rfl
  refine h_ite (fun t1 => ?_) (fun t1 => ?_)
  · refine h_end0 ⟨?_, rfl⟩
    unfold sqz; rw [if_neg (by simp at t1; omega)]; rfl
  have hn : 0 ≤ n ∧ n ≤ 4 := by simp at t0 t1; omega
  obtain ⟨k, rfl⟩ : ∃ k : Nat, n = k := ⟨n.toNat, by omega⟩
  refine h_call [] _ ca_num_Put32 (List.Perm.refl _) (fun hl => Put32_spec ha) ?_
  rintro v h1 ⟨A1, c1, rfl, ho1⟩
  refine ⟨fun _ => { A := A1, n := (be 4 a).length, c := c1 }, rfl, ?_⟩
  refine h_call [] _ ca_num_Put32 (List.Perm.refl _) (fun hl => Put32_spec hb) ?_
  rintro v h2 ⟨A2, c2, rfl, ho2⟩
  refine ⟨fun _ => { A := A2, n := (be 4 b).length, c := c2 }, rfl, ?_⟩
  refine h_stop fun hl => ?_
  refine (babelpkt_Squeeze_sqLoop (hv := k) (hr := []) (be_length 4 a) (be_length 4 b) (by omega) ho1 ho2 (fun x hx => by first | (simp [hx]; done) | (rw [List.mem_singleton] at hx; subst hx; simp; done)) (fun x hx => by first | (simp [hx]; done) | (rw [List.mem_singleton] at hx; subst hx; simp; done)) k 0 _ (by omega)).mono fun v h' ⟨m, g, hp, hv, hm⟩ => ⟨m, g, hp, ?_, hm⟩
  rw [hv]
  unfold sqz
  rw [if_pos hn, Int.toNat_natCast]
  simp
theorem octroiref06_Squeeze_sq {I : Ctx} {a b : Nat} {n : Int} (ha : a < 4294967296) (hb : b < 4294967296) : Fn Try.prog 15 #[.int .u32 (a : Int), .int .u32 (b : Int), .int .i64 n] I [] (fun v h' => v = .int .i64 (sqz a b n : Nat) ∧ h' = []) := by
  refine r_octroiref06_Squeeze _ _ _ ?_
  refine h_ite (fun t0 => ?_) (fun t0 => ?_)
  · refine h_end0 ⟨?_, rfl⟩
    unfold sqz; rw [if_neg (by simp at t0; omega)]; rfl
  refine h_ite (fun t1 => ?_) (fun t1 => ?_)
  · refine h_end0 ⟨?_, rfl⟩
    unfold sqz; rw [if_neg (by simp at t1; omega)]; rfl
  have hn : 0 ≤ n ∧ n ≤ 4 := by simp at t0 t1; omega
  obtain ⟨k, rfl⟩ : ∃ k : Nat, n = k := ⟨n.toNat, by omega⟩
  refine h_call [] _ ca_octroiref06_addr (List.Perm.refl _) (fun hl => raddr4' ha) ?_
  rintro v h1 ⟨A1, c1, rfl, ho1⟩
  refine ⟨fun _ => { A := A1, n := (be 4 a).length, c := c1 }, rfl, ?_⟩
  refine h_call [] _ ca_octroiref06_addr (List.Perm.refl _) (fun hl => raddr4' hb) ?_
  rintro v h2 ⟨A2, c2, rfl, ho2⟩
  refine ⟨fun _ => { A := A2, n := (be 4 b).length, c := c2 }, rfl, ?_⟩
  refine h_stop fun hl => ?_
  refine (octroiref06_Squeeze_sqLoop (hv := k) (hr := []) (be_length 4 a) (be_length 4 b) (by omega) ho1 ho2 (fun x hx => by first | (simp [hx]; done) | (rw [List.mem_singleton] at hx; subst hx; simp; done)) (fun x hx => by first | (simp [hx]; done) | (rw [List.mem_singleton] at hx; subst hx; simp; done)) k 0 _ (by omega)).mono fun v h' ⟨m, g, hp, hv, hm⟩ => ⟨m, g, hp, ?_, hm⟩
  rw [hv]
  unfold sqz
  rw [if_pos hn, Int.toNat_natCast]
  simp
/-- How many bytes a prefix needs. -/
def nd (n : Int) : Nat := (n.toNat + 7) / 8
theorem nd_le {n : Int} (h : 0 ≤ n ∧ n ≤ 32) : nd n ≤ 4 := by unfold nd; omega
theorem babelpkt_needs_nd {I : Ctx} {n : Int} (h : 0 ≤ n ∧ n ≤ 255) : Fn Try.prog 59 #[.int .i64 n] I [] (fun v h' => v = .int .i64 (nd n : Nat) ∧ h' = []) := by
  refine r_babelpkt_needs _ ?_
  refine h_end0 ⟨?_, rfl⟩
  rw [wrap64 (x := n + 7) (by omega), Int.tdiv_eq_ediv_of_nonneg (by omega), wrap64 (by omega)]
  congr 1
  unfold nd
  omega
theorem octroiref06_needs_nd {I : Ctx} {n : Int} (h : 0 ≤ n ∧ n ≤ 255) : Fn Try.prog 47 #[.int .i64 n] I [] (fun v h' => v = .int .i64 (nd n : Nat) ∧ h' = []) := by
  refine r_octroiref06_needs _ ?_
  refine h_end0 ⟨?_, rfl⟩
  rw [wrap64 (x := n + 7) (by omega), Int.tdiv_eq_ediv_of_nonneg (by omega), wrap64 (by omega)]
  congr 1
  unfold nd
  omega
def low16 (x : Int) : Nat := (x % 65536).toNat
theorem wrap16b (x : Int) : IntKind.wrap .u16 x = ((low16 x : Nat) : Int) := by
  rw [wrap16]; unfold low16; omega
theorem low16_lt (x : Int) : low16 x < 65536 := by unfold low16; omega
def lowB (x : Int) : UInt8 := UInt8.ofNat (x % 256).toNat
theorem wrap8b (x : Int) : IntKind.wrap .u8 x = (((lowB x).toNat : Nat) : Int) := by
  rw [wrap8]; unfold lowB; rw [toNat_ofNat']; omega
theorem two_spec {I : Ctx} {n : Int} : Fn Try.prog 24 #[.int .i64 n] I [] (GivesB (be 2 (low16 n))) := by
  refine r_babelpkt_two _ ?_
  rw [wrap16b]
  refine h_call [] _ ca_num_Put16 (List.Perm.refl _) (fun hl => Put16_spec (low16_lt n)) ?_
  rintro v h1 ⟨A1, c1, rfl, ho1⟩
  refine ⟨fun _ => { A := A1, n := (be 2 (low16 n)).length, c := c1 }, rfl, ?_⟩
  exact h_end (by repeat (first | exact Pick.here | exact Pick.one | exact Pick.all | apply Pick.two | apply Pick.cons | apply Pick.app)) ⟨A1, c1, rfl, ho1⟩
theorem rtwo_spec {I : Ctx} {n : Int} (hn : 0 ≤ n ∧ n ≤ 65535) : Fn Try.prog 30 #[.int .i64 n] I [] (GivesB (be 2 (low16 n))) := by
  refine r_octroiref06_two _ ?_
  rw [show IntKind.wrap .u32 n = ((low16 n : Nat) : Int) by rw [wrap32]; unfold low16; omega]
  refine h_call [] _ ca_octroiref01_Put (List.Perm.refl _) (fun hl => rput_spec (k := 2) (by omega) (by have := low16_lt n; omega)) ?_
  rintro v h1 ⟨A1, c1, rfl, ho1⟩
  refine ⟨fun _ => { A := A1, n := (be 2 (low16 n)).length, c := c1 }, rfl, ?_⟩
  exact h_end (by repeat (first | exact Pick.here | exact Pick.one | exact Pick.all | apply Pick.two | apply Pick.cons | apply Pick.app)) ⟨A1, c1, rfl, ho1⟩
/-- Eight bytes. -/
def longB (r : Nat) : List UInt8 := be 4 (r / 4294967296) ++ be 4 (r % 4294967296)
theorem long_spec {I : Ctx} {r : Nat} (hr : r < 18446744073709551616) : Fn Try.prog 44 #[.int .u64 (r : Int)] I [] (GivesB (longB r)) := by
  refine r_babelpkt_long _ ?_
  rw [fdiv_pow, wrap32n (by omega), show IntKind.wrap .u32 (r : Int) = ((r % 4294967296 : Nat) : Int) by rw [wrap32]; omega]
  refine h_call [] _ ca_num_Put32 (List.Perm.refl _) (fun hl => Put32_spec (by omega)) ?_
  rintro v h1 ⟨A1, c1, rfl, ho1⟩
  refine ⟨fun _ => { A := A1, n := (be 4 (r / 4294967296)).length, c := c1 }, rfl, ?_⟩
  refine h_call [] _ ca_num_Put32 (List.Perm.refl _) (fun hl => Put32_spec (by omega)) ?_
  rintro v h2 ⟨A2, c2, rfl, ho2⟩
  refine ⟨fun _ => { A := A2, n := (be 4 (r % 4294967296)).length, c := c2 }, rfl, ?_⟩
  dsimp only
  refine h_row (e := 25) #[.slice A1 (be 4 (r / 4294967296)).length c1, .slice A2 (be 4 (r % 4294967296)).length c2] (by kernel_rfl) fun g7 hg7 hI7 => ?_
  refine h_call [] _ ca_slices_Concat_byte (List.Perm.refl _) (fun hl => concat_spec (ls := [be 4 (r / 4294967296), be 4 (r % 4294967296)]) (cs := [.slice A1 (be 4 (r / 4294967296)).length c1, .slice A2 (be 4 (r % 4294967296)).length c2])
    (RdC.all hl (fun _ => ⟨_, rfl, cellsM' (by repeat (first | exact mq0 | apply mq1 | apply mq2)) rfl⟩)) ⟨_, _, rfl, ⟨_, _, rfl, ho1.rdb hl (fun x hx => by first | (simp [hx]; done) | (rw [List.mem_singleton] at hx; subst hx; simp; done))⟩, _, _, rfl, ⟨_, _, rfl, ho2.rdb hl (fun x hx => by first | (simp [hx]; done) | (rw [List.mem_singleton] at hx; subst hx; simp; done))⟩, rfl⟩ (by simp [total]) (by simp)) ?_
  rintro v h8 ⟨A8, c8, rfl, ho8⟩
  have hf : [be 4 (r / 4294967296), be 4 (r % 4294967296)].flatten = longB r := by simp [longB]
  rw [hf] at ho8 ⊢
  refine ⟨fun _ => { A := A8, n := (longB r).length, c := c8 }, rfl, ?_⟩
  exact h_end (by repeat (first | exact Pick.here | exact Pick.one | exact Pick.all | apply Pick.two | apply Pick.cons | apply Pick.app)) ⟨A8, c8, rfl, ho8⟩
theorem rlong_spec {I : Ctx} {r : Nat} (hr : r < 18446744073709551616) : Fn Try.prog 27 #[.int .u64 (r : Int)] I [] (GivesB (longB r)) := by
  refine r_octroiref06_long _ ?_
  rw [show IntKind.wrap .u32 (IntKind.wrap .u64 (Int.tdiv (r : Int) 4294967296)) = ((r / 4294967296 : Nat) : Int) by
    rw [Int.tdiv_eq_ediv_of_nonneg (by omega), show (r : Int) / 4294967296 = ((r / 4294967296 : Nat) : Int) by omega, show IntKind.wrap .u64 ((r / 4294967296 : Nat) : Int) = ((r / 4294967296 : Nat) : Int) % 18446744073709551616 from rfl, show ((r / 4294967296 : Nat) : Int) % 18446744073709551616 = ((r / 4294967296 : Nat) : Int) by omega, wrap32n (by omega)],
    show IntKind.wrap .u32 (Int.tmod (r : Int) 4294967296) = ((r % 4294967296 : Nat) : Int) by rw [Int.tmod_eq_emod_of_nonneg (by omega), wrap32]; omega]
  refine h_call [] _ ca_octroiref01_Put (List.Perm.refl _) (fun hl => rput_spec (k := 4) (by omega) (by omega)) ?_
  rintro v h1 ⟨A1, c1, rfl, ho1⟩
  refine ⟨fun _ => { A := A1, n := (be 4 (r / 4294967296)).length, c := c1 }, rfl, ?_⟩
  refine h_call [] _ ca_octroiref01_Put (List.Perm.refl _) (fun hl => rput_spec (k := 4) (by omega) (by omega)) ?_
  rintro v h2 ⟨A2, c2, rfl, ho2⟩
  refine ⟨fun _ => { A := A2, n := (be 4 (r % 4294967296)).length, c := c2 }, rfl, ?_⟩
  dsimp only
  refine h_append (cl_.aff _) eb_uint8 (by kernel_rfl) (ho2.rd (fun x hx => by first | (simp [hx]; done) | (rw [List.mem_singleton] at hx; subst hx; simp; done))) ho2.some_of (by simp) (bC_plain _) (m := h1) (by repeat (first | exact Pick.here | exact Pick.one | exact Pick.all | apply Pick.two | apply Pick.cons | apply Pick.app)) ho1 (by rw [be_length, be_length]; omega) (by omega) ?_
  intro A3 c3 m3 ho3
  rw [← bC_append] at ho3
  refine h_end (by repeat (first | exact Pick.here | exact Pick.one | exact Pick.all | apply Pick.two | apply Pick.cons | apply Pick.app)) ⟨A3, c3, by simp [longB], ?_⟩
  unfold longB
  rw [List.length_append]
  exact ho3
/-- A part, or a part of a part: its kind, its length, what is in it. -/
def tlvB (k : UInt8) (b : List UInt8) : List UInt8 := [k, lowB (b.length : Nat)] ++ b
theorem tlv_spec {I : Ctx} {A : Option Addr} {c : Nat} {k : UInt8} {ls : List (List UInt8)} {cs : List Value} (hrd : RdC I [] A cs) (hrow : rowC (elB I) ls cs) (hb : total ls ≤ 1000000) (hn : ls.length ≤ 1000000) :
    Fn Try.prog 40 #[.int .u8 ((k.toNat : Nat) : Int), .slice A ls.length c] I [] (GivesB (tlvB k ls.flatten)) := by
  have hfl := length_flatten' ls
  refine r_babelpkt_tlv _ _ _ _ ?_
  refine h_call [] _ ca_slices_Concat_byte (List.Perm.refl _) (fun hl => concat_spec (hrd.up (Sub.self.up hl)) (hrow.mono fun p c ⟨A, c', e, h⟩ => ⟨A, c', e, h.up (Sub.self.up hl)⟩) (by omega) (by omega)) ?_
  rintro v h1 ⟨A1, c1, rfl, ho1⟩
  refine ⟨fun _ => { A := A1, n := ls.flatten.length, c := c1 }, rfl, ?_⟩
  dsimp only
  rw [wrap8b]
  refine h_row (e := 5) #[.int .u8 ((k.toNat : Nat) : Int), .int .u8 ((lowB (ls.flatten.length : Nat)).toNat : Int)] (by kernel_rfl) fun g hg hI => ?_
  dsimp only
  have own2 : OwnB (some ⟨g, 0, none⟩) 2 2 [k, lowB (ls.flatten.length : Nat)] [(g, .cells #[.int .u8 ((k.toNat : Nat) : Int), .int .u8 ((lowB (ls.flatten.length : Nat)).toNat : Int)] 5 (0, 0))] := Own.row (n := 2) rfl
  refine h_append (cl_.aff _) eb_uint8 (by kernel_rfl) (ho1.rd (fun x hx => by first | (simp [hx]; done) | (rw [List.mem_singleton] at hx; subst hx; simp; done))) ho1.some_of (by simp) (bC_plain _) (m := [(g, .cells #[.int .u8 ((k.toNat : Nat) : Int), .int .u8 ((lowB (ls.flatten.length : Nat)).toNat : Int)] 5 (0, 0))]) (by repeat (first | exact Pick.here | exact Pick.one | exact Pick.all | apply Pick.two | apply Pick.cons | apply Pick.app)) own2 (by omega) (by omega) ?_
  intro A3 c3 m3 ho3
  rw [← bC_append] at ho3
  have hll : (tlvB k ls.flatten).length = 2 + ls.flatten.length := by simp [tlvB]; omega
  exact h_end (by repeat (first | exact Pick.here | exact Pick.one | exact Pick.all | apply Pick.two | apply Pick.cons | apply Pick.app)) ⟨A3, c3, by rw [hll], by rw [hll]; exact ho3⟩
theorem rtlv_spec {I : Ctx} {A : Option Addr} {n c : Nat} {k : UInt8} {l : List UInt8} (hr : RdB I A n l) (hn : n ≤ 1000000) : Fn Try.prog 28 #[.int .u8 ((k.toNat : Nat) : Int), .slice A n c] I [] (GivesB (tlvB k l)) := by
  have hln := hr.len
  refine r_octroiref06_tlv _ _ _ _ ?_
  rw [wrap8b]
  refine h_row (e := 5) #[.int .u8 ((k.toNat : Nat) : Int), .int .u8 ((lowB (n : Nat)).toNat : Int)] (by kernel_rfl) fun g hg hI => ?_
  dsimp only
  have own2 : OwnB (some ⟨g, 0, none⟩) 2 2 [k, lowB (n : Nat)] [(g, .cells #[.int .u8 ((k.toNat : Nat) : Int), .int .u8 ((lowB (n : Nat)).toNat : Int)] 5 (0, 0))] := Own.row (n := 2) rfl
  refine h_append (cl_.aff _) eb_uint8 (by kernel_rfl) (hr.rd.sub Sub.self) hr.nil (by simpa using hln) (bC_plain _) (m := [(g, .cells #[.int .u8 ((k.toNat : Nat) : Int), .int .u8 ((lowB (n : Nat)).toNat : Int)] 5 (0, 0))]) (by repeat (first | exact Pick.here | exact Pick.one | exact Pick.all | apply Pick.two | apply Pick.cons | apply Pick.app)) own2 (by omega) (by omega) ?_
  intro A3 c3 m3 ho3
  rw [← bC_append] at ho3
  have hll : (tlvB k l).length = 2 + n := by simp [tlvB]; omega
  exact h_end (by repeat (first | exact Pick.here | exact Pick.one | exact Pick.all | apply Pick.two | apply Pick.cons | apply Pick.app)) ⟨A3, c3, by rw [hll], by rw [hll]; unfold tlvB; rw [hln]; exact ho3⟩
/-- The bytes of an address that are told. -/
def addrB (a : Nat) (n : Int) : List UInt8 := (be 4 a).take (nd n)
theorem addrB_len {a : Nat} {n : Int} (h : 0 ≤ n ∧ n ≤ 32) : (addrB a n).length = nd n := by
  have := nd_le h
  simp [addrB, be_length]; omega
theorem addr_spec {I : Ctx} {a : Nat} {n : Int} (ha : a < 4294967296) (hn : 0 ≤ n ∧ n ≤ 32) : Fn Try.prog 43 #[.agg #[.int .u32 (a : Int), .int .i64 n]] I [] (GivesB (addrB a n)) := by
  have hnd := nd_le hn
  have hl := be_length 4 a
  refine r_babelpkt_addr _ _ ?_
  (repeat ((first | refine h_box fun _ _ _ => ?_ | ((with_reducible show holds _ _ _ _ (.rd (Instr.loadAt _ (.pointer _)) _ _) _); refine ldI (by repeat (first | exact mq0 | apply mq1 | apply mq2)) (by rfl) (by kernel_rfl) ?_) | ((with_reducible show holds _ _ _ _ (.pin (vN (Instr.loadAt _ _)) _ _) _); first | refine pnA (by repeat (first | exact mq0 | apply mq1 | apply mq2)) (by rfl) (by kernel_rfl) ?_ | refine pn1 (by repeat (first | exact mq0 | apply mq1 | apply mq2)) (by rfl) (by kernel_rfl) ?_)); try dsimp only [getL]))
  refine h_call [] _ ca_num_Put32 (List.Perm.refl _) (fun hl => Put32_spec ha) ?_
  rintro v h1 ⟨A1, c1, rfl, ho1⟩
  refine ⟨fun _ => { A := A1, n := (be 4 a).length, c := c1 }, rfl, ?_⟩
  dsimp only
  (repeat ((first | refine h_box fun _ _ _ => ?_ | ((with_reducible show holds _ _ _ _ (.rd (Instr.loadAt _ (.pointer _)) _ _) _); refine ldI (by repeat (first | exact mq0 | apply mq1 | apply mq2)) (by rfl) (by kernel_rfl) ?_) | ((with_reducible show holds _ _ _ _ (.pin (vN (Instr.loadAt _ _)) _ _) _); first | refine pnA (by repeat (first | exact mq0 | apply mq1 | apply mq2)) (by rfl) (by kernel_rfl) ?_ | refine pn1 (by repeat (first | exact mq0 | apply mq1 | apply mq2)) (by rfl) (by kernel_rfl) ?_)); try dsimp only [getL]))
  refine h_call0 (v := .int .i64 (nd n : Nat)) (fun _ => { i := (nd n : Nat) }) ca_babelpkt_needs (fun hl => babelpkt_needs_nd (by omega)) rfl ?_
  have hc := ho1.2.1
  refine h_cut (e := 5) (sz := 1) 0 (nd n) c1 (by kernel_rfl) (by kernel_rfl) rfl rfl rfl (by simp) (by omega) (by omega) (by omega) ?_
  dsimp only
  rw [cutA_zero, Nat.sub_zero, Nat.sub_zero]
  have hlt := addrB_len (a := a) hn
  refine h_end (by repeat (first | exact Pick.here | exact Pick.one | exact Pick.all | apply Pick.two | apply Pick.cons | apply Pick.app)) ⟨A1, c1, by rw [hlt], ?_⟩
  have := ho1.cut (i := nd n) (by omega)
  rw [Nat.mul_one, bC_take] at this
  rw [hlt]
  exact this
end Go.Proofs.YtcfnliodgoenkaaS
