import Derived.Test.YtkdakglnhipmaaaN5
import Derived.Test.YtkdakglnhipmaaaTA
set_option linter.unusedVariables false
namespace Go.Proofs.YtkdakglnhipmaaaS
/-! Library functions on bytes; vectors. -/
theorem clone_spec {I : Ctx} {A : Option Addr} {n c : Nat} {l : List UInt8} (hr : RdB I A n l) (hn : n ≤ 1000000) : Fn Try.prog 36 #[.slice A n c] I [] (GivesB l) := by
  have hln := hr.len
  refine r_slices_Clone_byte _ _ _ ?_
  refine h_rdn (fun _ => { b := A.isNone }) (rw_slNil (.inl rfl) (by kernel_rfl) rfl) ?_
  dsimp only
  refine h_ite (fun t => ?_) (fun t => ?_)
  · have hA : A = none := by cases A with | none => rfl | some a => cases t
    have h0 : l = [] := List.eq_nil_of_length_eq_zero (by rw [hln]; exact hr.nil hA)
    subst h0
    exact h_end0 ⟨none, 0, rfl, Own.nil _ _⟩
  · refine h_row (e := 5) #[] (by kernel_rfl) fun g hg hI => ?_
    dsimp only
    refine h_append (cl_.aff _) eb_uint8 (by kernel_rfl) (hr.rd.sub Sub.self) hr.nil (by simpa using hln) (bC_plain _) (m := [(g, .cells #[] 5 (0, 0))]) (hr := []) (List.Perm.refl _) (Own.row (n := 0) rfl) (by omega) (by omega) ?_
    intro A' c' m' ho'
    simp only [Nat.zero_add, List.nil_append] at ho' ⊢
    subst hln
    exact h_end (by repeat (first | exact Pick.here | exact Pick.one | apply Pick.two | apply Pick.cons | apply Pick.app)) ⟨A', c', rfl, ho'⟩
theorem sleq_loop {I : Ctx} {A1 A2 : Option Addr} {n c1 c2 : Nat} {l1 l2 : List UInt8} (h1 : RdB I A1 n l1) (h2 : RdB I A2 n l2) (hn : n ≤ 1000000) :
    ∀ (q i : Nat) (u : Nat → Value) (h : Mem), i + q = n →
    Wp Try.prog 25 k_slices_Equal_byte_1 (t_slices_Equal_byte_1 A1 n c1 A2 n c2 i u) I h (cl_ fun v h' => v = .bool (l1.drop i == l2.drop i) ∧ h' = []) := by
  have hl1 := h1.len
  have hl2 := h2.len
  intro q
  induction q with
  | zero =>
    intro i u h hi
    refine r_slices_Equal_byte_1 _ _ _ _ _ _ _ _ ?_
    refine h_no (by simp; omega) ?_
    exact h_end0 ⟨by rw [List.drop_of_length_le (by omega), List.drop_of_length_le (by omega)]; rfl, rfl⟩
  | succ q ih =>
    intro i u h hi
    have hd1 : l1.drop i = l1[i] :: l1.drop (i + 1) := List.drop_eq_getElem_cons (by omega)
    have hd2 : l2.drop i = l2[i] :: l2.drop (i + 1) := List.drop_eq_getElem_cons (by omega)
    refine r_slices_Equal_byte_1 _ _ _ _ _ _ _ _ ?_
    refine h_yes (by simp; omega) ?_
    refine h_byte (e := 5) i (b := l1[i]'(by omega)) (h1.rd.sub Sub.self) (List.getElem?_eq_getElem _) h1.len rfl (by kernel_rfl) (by kernel_rfl) (by kernel_rfl) fun a1 _ => ?_
    dsimp only
    refine h_byte (e := 5) i (b := l2[i]'(by omega)) (h2.rd.sub Sub.self) (List.getElem?_eq_getElem _) h2.len rfl (by kernel_rfl) (by kernel_rfl) (by kernel_rfl) fun a1 _ => ?_
    dsimp only
    refine h_ite (fun t => ?_) (fun t => ?_)
    · refine h_end0 ⟨congrArg Value.bool (Eq.symm ?_), rfl⟩
      rw [hd1, hd2, List.cons_beq_cons]
      have : (l1[i] == l2[i]) = false := by rw [beq_eq_false_iff_ne]; intro e; rw [e] at t; simp at t
      rw [this]; rfl
    · have e : l1[i] = l2[i] := by rw [← UInt8.toNat_inj]; simp at t; omega
      refine h_stop fun hl => ?_
      rw [wrapS (by omega), hd1, hd2, List.cons_beq_cons, e, show (l2[i] == l2[i]) = true by simp, Bool.true_and]
      exact ih (i + 1) _ _ (by omega)
theorem sleq_spec {I : Ctx} {A1 A2 : Option Addr} {n1 n2 c1 c2 : Nat} {l1 l2 : List UInt8} (h1 : RdB I A1 n1 l1) (h2 : RdB I A2 n2 l2) (hn : n1 ≤ 1000000) :
    Fn Try.prog 25 #[.slice A1 n1 c1, .slice A2 n2 c2] I [] (fun v h' => v = .bool (l1 == l2) ∧ h' = []) := by
  have hl1 := h1.len
  have hl2 := h2.len
  refine r_slices_Equal_byte _ _ _ _ _ _ ?_
  refine h_ite (fun t => ?_) (fun t => ?_)
  · refine h_end0 ⟨congrArg Value.bool (Eq.symm ?_), rfl⟩
    rw [beq_eq_false_iff_ne]
    intro e
    rw [e] at hl1
    simp at t
    omega
  · have e : n1 = n2 := by simp at t; omega
    subst e
    refine h_stop fun hl => ?_
    exact sleq_loop (c1 := c1) (c2 := c2) h1 h2 hn n1 0 _ _ (by omega)
/-- A vector. -/
structure Vec where
  b : Int
  d : Int
  p : Int
def vmayB (v : Vec) : Bool := decide (v.b ≥ 1) && (decide (v.b ≤ 10000000) && (decide (v.d ≥ 0) && (decide (v.d ≤ 16777216) && (decide (v.p ≥ 0) && decide (v.p ≤ 100)))))
theorem vmay_spec {I : Ctx} {v : Vec} : Fn Try.prog 31 #[.agg #[.int .i64 v.b, .int .i64 v.d, .int .i64 v.p]] I [] (fun x h' => x = .bool (vmayB v) ∧ h' = []) := by
  refine r_metric_May _ _ _ ?_
  (repeat ((first | refine h_box fun _ _ _ => ?_ | ((with_reducible show holds _ _ _ _ (.rd (Instr.loadAt _ (.pointer _)) _ _) _); first | refine ldI (by repeat (first | exact mq0 | apply mq1 | apply mq2)) (by rfl) (by kernel_rfl) ?_ | refine la1 (by repeat (first | exact mq0 | apply mq1 | apply mq2)) (by rfl) (by kernel_rfl) ?_ | refine la2 (by repeat (first | exact mq0 | apply mq1 | apply mq2)) (by rfl) (by kernel_rfl) ?_ | refine la3 (by repeat (first | exact mq0 | apply mq1 | apply mq2)) (by rfl) (by kernel_rfl) ?_)); try dsimp only [getL]))
  refine h_ite (fun t1 => ?_) (fun t1 => ?_)
  · (repeat ((first | refine h_box fun _ _ _ => ?_ | ((with_reducible show holds _ _ _ _ (.rd (Instr.loadAt _ (.pointer _)) _ _) _); first | refine ldI (by repeat (first | exact mq0 | apply mq1 | apply mq2)) (by rfl) (by kernel_rfl) ?_ | refine la1 (by repeat (first | exact mq0 | apply mq1 | apply mq2)) (by rfl) (by kernel_rfl) ?_ | refine la2 (by repeat (first | exact mq0 | apply mq1 | apply mq2)) (by rfl) (by kernel_rfl) ?_ | refine la3 (by repeat (first | exact mq0 | apply mq1 | apply mq2)) (by rfl) (by kernel_rfl) ?_)); try dsimp only [getL]))
    refine h_ite (fun t2 => ?_) (fun t2 => ?_)
    · (repeat ((first | refine h_box fun _ _ _ => ?_ | ((with_reducible show holds _ _ _ _ (.rd (Instr.loadAt _ (.pointer _)) _ _) _); first | refine ldI (by repeat (first | exact mq0 | apply mq1 | apply mq2)) (by rfl) (by kernel_rfl) ?_ | refine la1 (by repeat (first | exact mq0 | apply mq1 | apply mq2)) (by rfl) (by kernel_rfl) ?_ | refine la2 (by repeat (first | exact mq0 | apply mq1 | apply mq2)) (by rfl) (by kernel_rfl) ?_ | refine la3 (by repeat (first | exact mq0 | apply mq1 | apply mq2)) (by rfl) (by kernel_rfl) ?_)); try dsimp only [getL]))
      refine h_ite (fun t3 => ?_) (fun t3 => ?_)
      · (repeat ((first | refine h_box fun _ _ _ => ?_ | ((with_reducible show holds _ _ _ _ (.rd (Instr.loadAt _ (.pointer _)) _ _) _); first | refine ldI (by repeat (first | exact mq0 | apply mq1 | apply mq2)) (by rfl) (by kernel_rfl) ?_ | refine la1 (by repeat (first | exact mq0 | apply mq1 | apply mq2)) (by rfl) (by kernel_rfl) ?_ | refine la2 (by repeat (first | exact mq0 | apply mq1 | apply mq2)) (by rfl) (by kernel_rfl) ?_ | refine la3 (by repeat (first | exact mq0 | apply mq1 | apply mq2)) (by rfl) (by kernel_rfl) ?_)); try dsimp only [getL]))
        refine h_ite (fun t4 => ?_) (fun t4 => ?_)
        · (repeat ((first | refine h_box fun _ _ _ => ?_ | ((with_reducible show holds _ _ _ _ (.rd (Instr.loadAt _ (.pointer _)) _ _) _); first | refine ldI (by repeat (first | exact mq0 | apply mq1 | apply mq2)) (by rfl) (by kernel_rfl) ?_ | refine la1 (by repeat (first | exact mq0 | apply mq1 | apply mq2)) (by rfl) (by kernel_rfl) ?_ | refine la2 (by repeat (first | exact mq0 | apply mq1 | apply mq2)) (by rfl) (by kernel_rfl) ?_ | refine la3 (by repeat (first | exact mq0 | apply mq1 | apply mq2)) (by rfl) (by kernel_rfl) ?_)); try dsimp only [getL]))
          refine h_ite (fun t5 => ?_) (fun t5 => ?_)
          · (repeat ((first | refine h_box fun _ _ _ => ?_ | ((with_reducible show holds _ _ _ _ (.rd (Instr.loadAt _ (.pointer _)) _ _) _); first | refine ldI (by repeat (first | exact mq0 | apply mq1 | apply mq2)) (by rfl) (by kernel_rfl) ?_ | refine la1 (by repeat (first | exact mq0 | apply mq1 | apply mq2)) (by rfl) (by kernel_rfl) ?_ | refine la2 (by repeat (first | exact mq0 | apply mq1 | apply mq2)) (by rfl) (by kernel_rfl) ?_ | refine la3 (by repeat (first | exact mq0 | apply mq1 | apply mq2)) (by rfl) (by kernel_rfl) ?_)); try dsimp only [getL]))
            refine h_end0 ⟨congrArg Value.bool ?_, rfl⟩
            unfold vmayB
            rw [t1, t2, t3, t4, t5]
            rfl
          · refine h_end0 ⟨congrArg Value.bool ?_, rfl⟩
            unfold vmayB
            rw [t5]; simp
        · refine h_end0 ⟨congrArg Value.bool ?_, rfl⟩
          unfold vmayB
          rw [t4]; simp
      · refine h_end0 ⟨congrArg Value.bool ?_, rfl⟩
        unfold vmayB
        rw [t3]; simp
    · refine h_end0 ⟨congrArg Value.bool ?_, rfl⟩
      unfold vmayB
      rw [t2]; simp
  · refine h_end0 ⟨congrArg Value.bool ?_, rfl⟩
    unfold vmayB
    rw [t1]; simp
theorem rvmay_spec {I : Ctx} {v : Vec} : Fn Try.prog 39 #[.agg #[.int .i64 v.b, .int .i64 v.d, .int .i64 v.p]] I [] (fun x h' => x = .bool (vmayB v) ∧ h' = []) := by
  refine r_octroiref04_May _ _ _ ?_
  (repeat ((first | refine h_box fun _ _ _ => ?_ | ((with_reducible show holds _ _ _ _ (.rd (Instr.loadAt _ (.pointer _)) _ _) _); first | refine ldI (by repeat (first | exact mq0 | apply mq1 | apply mq2)) (by rfl) (by kernel_rfl) ?_ | refine la1 (by repeat (first | exact mq0 | apply mq1 | apply mq2)) (by rfl) (by kernel_rfl) ?_ | refine la2 (by repeat (first | exact mq0 | apply mq1 | apply mq2)) (by rfl) (by kernel_rfl) ?_ | refine la3 (by repeat (first | exact mq0 | apply mq1 | apply mq2)) (by rfl) (by kernel_rfl) ?_)); try dsimp only [getL]))
  refine h_ite (fun t1 => ?_) (fun t1 => ?_)
  · (repeat ((first | refine h_box fun _ _ _ => ?_ | ((with_reducible show holds _ _ _ _ (.rd (Instr.loadAt _ (.pointer _)) _ _) _); first | refine ldI (by repeat (first | exact mq0 | apply mq1 | apply mq2)) (by rfl) (by kernel_rfl) ?_ | refine la1 (by repeat (first | exact mq0 | apply mq1 | apply mq2)) (by rfl) (by kernel_rfl) ?_ | refine la2 (by repeat (first | exact mq0 | apply mq1 | apply mq2)) (by rfl) (by kernel_rfl) ?_ | refine la3 (by repeat (first | exact mq0 | apply mq1 | apply mq2)) (by rfl) (by kernel_rfl) ?_)); try dsimp only [getL]))
    refine h_ite (fun t2 => ?_) (fun t2 => ?_)
    · (repeat ((first | refine h_box fun _ _ _ => ?_ | ((with_reducible show holds _ _ _ _ (.rd (Instr.loadAt _ (.pointer _)) _ _) _); first | refine ldI (by repeat (first | exact mq0 | apply mq1 | apply mq2)) (by rfl) (by kernel_rfl) ?_ | refine la1 (by repeat (first | exact mq0 | apply mq1 | apply mq2)) (by rfl) (by kernel_rfl) ?_ | refine la2 (by repeat (first | exact mq0 | apply mq1 | apply mq2)) (by rfl) (by kernel_rfl) ?_ | refine la3 (by repeat (first | exact mq0 | apply mq1 | apply mq2)) (by rfl) (by kernel_rfl) ?_)); try dsimp only [getL]))
      refine h_ite (fun t3 => ?_) (fun t3 => ?_)
      · (repeat ((first | refine h_box fun _ _ _ => ?_ | ((with_reducible show holds _ _ _ _ (.rd (Instr.loadAt _ (.pointer _)) _ _) _); first | refine ldI (by repeat (first | exact mq0 | apply mq1 | apply mq2)) (by rfl) (by kernel_rfl) ?_ | refine la1 (by repeat (first | exact mq0 | apply mq1 | apply mq2)) (by rfl) (by kernel_rfl) ?_ | refine la2 (by repeat (first | exact mq0 | apply mq1 | apply mq2)) (by rfl) (by kernel_rfl) ?_ | refine la3 (by repeat (first | exact mq0 | apply mq1 | apply mq2)) (by rfl) (by kernel_rfl) ?_)); try dsimp only [getL]))
        refine h_ite (fun t4 => ?_) (fun t4 => ?_)
        · (repeat ((first | refine h_box fun _ _ _ => ?_ | ((with_reducible show holds _ _ _ _ (.rd (Instr.loadAt _ (.pointer _)) _ _) _); first | refine ldI (by repeat (first | exact mq0 | apply mq1 | apply mq2)) (by rfl) (by kernel_rfl) ?_ | refine la1 (by repeat (first | exact mq0 | apply mq1 | apply mq2)) (by rfl) (by kernel_rfl) ?_ | refine la2 (by repeat (first | exact mq0 | apply mq1 | apply mq2)) (by rfl) (by kernel_rfl) ?_ | refine la3 (by repeat (first | exact mq0 | apply mq1 | apply mq2)) (by rfl) (by kernel_rfl) ?_)); try dsimp only [getL]))
          refine h_ite (fun t5 => ?_) (fun t5 => ?_)
          · (repeat ((first | refine h_box fun _ _ _ => ?_ | ((with_reducible show holds _ _ _ _ (.rd (Instr.loadAt _ (.pointer _)) _ _) _); first | refine ldI (by repeat (first | exact mq0 | apply mq1 | apply mq2)) (by rfl) (by kernel_rfl) ?_ | refine la1 (by repeat (first | exact mq0 | apply mq1 | apply mq2)) (by rfl) (by kernel_rfl) ?_ | refine la2 (by repeat (first | exact mq0 | apply mq1 | apply mq2)) (by rfl) (by kernel_rfl) ?_ | refine la3 (by repeat (first | exact mq0 | apply mq1 | apply mq2)) (by rfl) (by kernel_rfl) ?_)); try dsimp only [getL]))
            refine h_end0 ⟨congrArg Value.bool ?_, rfl⟩
            unfold vmayB
            rw [t1, t2, t3, t4, t5]
            rfl
          · refine h_end0 ⟨congrArg Value.bool ?_, rfl⟩
            unfold vmayB
            rw [t5]; simp
        · refine h_end0 ⟨congrArg Value.bool ?_, rfl⟩
          unfold vmayB
          rw [t4]; simp
      · refine h_end0 ⟨congrArg Value.bool ?_, rfl⟩
        unfold vmayB
        rw [t3]; simp
    · refine h_end0 ⟨congrArg Value.bool ?_, rfl⟩
      unfold vmayB
      rw [t2]; simp
  · refine h_end0 ⟨congrArg Value.bool ?_, rfl⟩
    unfold vmayB
    rw [t1]; simp
/-- A whole number as the machine has it. -/
abbrev inI (n : Int) : Prop := -9223372036854775808 ≤ n ∧ n ≤ 9223372036854775807
/-- An entry. -/
structure DEnt where
  a : Nat
  n : Int
  v : Vec
  tag : Nat
structure DEnt.ok (e : DEnt) : Prop where
  a : e.a < 4294967296
  n : inI e.n
  tag : e.tag < 65536
abbrev DEnt.cs (e : DEnt) : List Value := [.int .u32 (e.a : Nat), .int .i64 e.n, .int .i64 e.v.b, .int .i64 e.v.d, .int .i64 e.v.p, .int .u16 (e.tag : Nat)]
abbrev DEnt.vv (e : DEnt) : Value := .agg #[.int .u32 (e.a : Nat), .int .i64 e.n, .int .i64 e.v.b, .int .i64 e.v.d, .int .i64 e.v.p, .int .u16 (e.tag : Nat)]
abbrev DEnt.ls (e : DEnt) : Nat → Leaf := getL [{ i := (e.a : Nat) }, { i := e.n }, { i := e.v.b }, { i := e.v.d }, { i := e.v.p }, { i := (e.tag : Nat) }]
def lowB (x : Int) : UInt8 := UInt8.ofNat (x % 256).toNat
def low32 (x : Int) : Nat := (x % 4294967296).toNat
theorem wrap8b (x : Int) : IntKind.wrap .u8 x = (((lowB x).toNat : Nat) : Int) := by
  rw [wrap8]; unfold lowB; rw [toNat_ofNat']; omega
theorem wrap32b (x : Int) : IntKind.wrap .u32 x = ((low32 x : Nat) : Int) := by
  rw [wrap32]; unfold low32; omega
theorem low32_lt (x : Int) : low32 x < 4294967296 := by unfold low32; omega
def vzero (v : Vec) : Bool := [v.b == 0, v.d == 0, v.p == 0].all id
def dentB (e : DEnt) : Bool := mayB e.a e.n && (vmayB e.v || vzero e.v)
def dencE (e : DEnt) : List UInt8 := be 4 e.a ++ ([lowB e.n, lowB e.v.p] ++ (be 2 e.tag ++ (be 4 (low32 e.v.b) ++ (be 4 (low32 e.v.d) ++ [0, 0, 0, 0]))))
theorem dmay_spec {I : Ctx} {e : DEnt} (ho : e.ok) : Fn Try.prog 16 #[e.vv] I [] (fun v h' => v = .bool (dentB e) ∧ h' = []) := by
  refine r_dualpkt_may _ _ _ _ _ _ ?_
  (repeat ((first | refine h_box fun _ _ _ => ?_ | ((with_reducible show holds _ _ _ _ (.rd (Instr.loadAt _ (.pointer _)) _ _) _); first | refine ldI (by repeat (first | exact mq0 | apply mq1 | apply mq2)) (by rfl) (by kernel_rfl) ?_ | refine la1 (by repeat (first | exact mq0 | apply mq1 | apply mq2)) (by rfl) (by kernel_rfl) ?_ | refine la2 (by repeat (first | exact mq0 | apply mq1 | apply mq2)) (by rfl) (by kernel_rfl) ?_ | refine la3 (by repeat (first | exact mq0 | apply mq1 | apply mq2)) (by rfl) (by kernel_rfl) ?_)); try dsimp only [getL]))
  refine h_call0 (fun _ => { b := mayB e.a e.n }) ca_prefix_May (fun hl => may_spec ho.a ho.n) rfl ?_
  refine h_ite (fun h0 => ?_) (fun h0 => ?_)
  · (repeat ((first | refine h_box fun _ _ _ => ?_ | ((with_reducible show holds _ _ _ _ (.rd (Instr.loadAt _ (.pointer _)) _ _) _); first | refine ldI (by repeat (first | exact mq0 | apply mq1 | apply mq2)) (by rfl) (by kernel_rfl) ?_ | refine la1 (by repeat (first | exact mq0 | apply mq1 | apply mq2)) (by rfl) (by kernel_rfl) ?_ | refine la2 (by repeat (first | exact mq0 | apply mq1 | apply mq2)) (by rfl) (by kernel_rfl) ?_ | refine la3 (by repeat (first | exact mq0 | apply mq1 | apply mq2)) (by rfl) (by kernel_rfl) ?_)); try dsimp only [getL]))
    refine h_call0 (fun _ => { b := vmayB e.v }) ca_metric_May (fun hl => vmay_spec) rfl ?_
    refine h_ite (fun h1 => ?_) (fun h1 => ?_)
    · refine h_end0 ⟨congrArg Value.bool (Eq.symm ?_), rfl⟩
      unfold dentB; dsimp only at h0 h1; rw [h0, h1]; rfl
    · (repeat ((first | refine h_box fun _ _ _ => ?_ | ((with_reducible show holds _ _ _ _ (.rd (Instr.loadAt _ (.pointer _)) _ _) _); first | refine ldI (by repeat (first | exact mq0 | apply mq1 | apply mq2)) (by rfl) (by kernel_rfl) ?_ | refine la1 (by repeat (first | exact mq0 | apply mq1 | apply mq2)) (by rfl) (by kernel_rfl) ?_ | refine la2 (by repeat (first | exact mq0 | apply mq1 | apply mq2)) (by rfl) (by kernel_rfl) ?_ | refine la3 (by repeat (first | exact mq0 | apply mq1 | apply mq2)) (by rfl) (by kernel_rfl) ?_)); try dsimp only [getL]))
      refine h_eqlA [e.v.b == 0, e.v.d == 0, e.v.p == 0] (by kernel_rfl) (by kernel_rfl) ?_
      refine h_end0 ⟨congrArg Value.bool (Eq.symm ?_), rfl⟩
      unfold dentB; dsimp only at h0 h1; rw [h0, h1]; rfl
  · refine h_end0 ⟨congrArg Value.bool (Eq.symm ?_), rfl⟩
    unfold dentB; dsimp only at h0; rw [h0]; rfl
theorem dodd_spec {I : Ctx} {e : DEnt} (ho : e.ok) : Fn Try.prog 15 #[e.vv] I [] (fun v h' => v = .bool (!dentB e) ∧ h' = []) := by
  refine r_dualpkt_Encode_fn1 _ _ _ _ _ _ ?_
  (repeat ((first | refine h_box fun _ _ _ => ?_ | ((with_reducible show holds _ _ _ _ (.rd (Instr.loadAt _ (.pointer _)) _ _) _); first | refine ldI (by repeat (first | exact mq0 | apply mq1 | apply mq2)) (by rfl) (by kernel_rfl) ?_ | refine la1 (by repeat (first | exact mq0 | apply mq1 | apply mq2)) (by rfl) (by kernel_rfl) ?_ | refine la2 (by repeat (first | exact mq0 | apply mq1 | apply mq2)) (by rfl) (by kernel_rfl) ?_ | refine la3 (by repeat (first | exact mq0 | apply mq1 | apply mq2)) (by rfl) (by kernel_rfl) ?_)); try dsimp only [getL]))
  refine h_call0 (fun _ => { b := dentB e }) ca_dualpkt_may (fun hl => dmay_spec ho) rfl ?_
  exact h_end0 ⟨rfl, rfl⟩
end Go.Proofs.YtkdakglnhipmaaaS
