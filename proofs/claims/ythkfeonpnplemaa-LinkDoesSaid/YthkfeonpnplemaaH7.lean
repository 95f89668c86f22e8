import Derived.Test.YthkfeonpnplemaaH6
import Derived.Test.YthkfeonpnplemaaSQ
set_option linter.unusedVariables false
namespace Go.Proofs.YthkfeonpnplemaaS
theorem new_spec {I : Ctx} : Fn Try.prog 9 #[] I [] (fun v h' => ∃ g, v = .pointer (some ⟨g, 0, none⟩) ∧ BagRep 46 g [] h') := by
  refine r_link_New ?_
  refine h_box fun g hg hI => ?_
  exact h_endR [] rfl ⟨g, rfl, none, 0, [], [], [], List.Perm.refl _, Own.nil _ _, rfl, by simp⟩
/-- What comes twice. -/
def dbl (L : List Pk) (i : Int) : List Pk := if 0 ≤ i ∧ i < (L.length : Int) then L ++ (L[i.toNat]?).toList else L
def inL (L : List Pk) (i : Int) : Bool := decide (0 ≤ i ∧ i < (L.length : Int))
theorem double_spec {I : Ctx} {g : Nat} {L : List Pk} {h : Mem} {i : Int} (hrep : BagRep 46 g L h) (hbd : L.length ≤ 1000000) :
    Fn Try.prog 19 #[.pointer (some ⟨g, 0, none⟩), .int .i64 i] I h (fun v h' => v = .bool (inL L i) ∧ BagRep 46 g (dbl L i) h') := by
  refine r_link_Bag_Double _ _ ?_
  refine h_call [] _ ca_link_Bag_At (List.Perm.refl _) (fun hl => at_spec (BagRep.read hrep hl (fun x hx => hx))) ?_
  intro v h1 hq
  unfold AtQ at hq
  split at hq
  · rename_i hin
    obtain ⟨p, A, c, hLi, rfl, hoB, hbB⟩ := hq
    refine ⟨getL [{ i := p.d }, { i := p.f }, { i := p.t }, { A := A, n := p.B.length, c := c }, { b := true }], rfl, ?_⟩
    dsimp only [getL]
    refine h_alloc zb_Packet fun g3 hg3 hI3 => ?_
    refine h_store 0 rfl (by kernel_rfl) (Nat.le_of_ble_eq_true rfl) (by simp [Value.cells]) ?_
    refine h_yes rfl ?_
    refine h_loadA (cs := [.int .i64 p.d, .int .i64 p.f, .int .i64 p.t, .slice A p.B.length c]) (getL [{ i := p.d }, { i := p.f }, { i := p.t }, { A := A, n := p.B.length, c := c }]) (by kernel_rfl) (by kernel_rfl) (cells_at (j := 0) rfl rfl) rfl ?_; dsimp only [getL]
    refine h_call h ((g3, .cells #[.int .i64 p.d, .int .i64 p.f, .int .i64 p.t, .slice A p.B.length c] 29 (0, 0)) :: h1) ca_link_Bag_Send (show List.Perm ((g3, .cells #[.int .i64 p.d, .int .i64 p.f, .int .i64 p.t, .slice A p.B.length c] 29 (0, 0)) :: (h1 ++ h)) _ from (perm_count fun D_ a_ => by simp only [Value.cells, List.count_append, List.count_cons, List.count_nil, List.nil_append, List.cons_append]; omega)) (fun hl => ?_) (Qc := fun v h' => v = undef ∧ BagRep 46 g (L ++ [p]) h') ?_
    · have hl2 : Live I ((g3, .cells #[.int .i64 p.d, .int .i64 p.f, .int .i64 p.t, .slice A p.B.length c] 29 (0, 0)) :: h1) := by
        have h2 : Live I (((g3, .cells #[.int .i64 p.d, .int .i64 p.f, .int .i64 p.t, .slice A p.B.length c] 29 (0, 0)) :: h1) ++ h) := hl
        exact h2.left
      exact send_spec hrep (hoB.rdb hl2 (fun x hx => List.mem_cons_of_mem _ hx)) hbB hbd
    · rintro v h2 ⟨rfl, hrep2⟩
      refine ⟨fun _ => {}, rfl, ?_⟩
      refine h_end (h1 := h2) (g := (g3, .cells #[.int .i64 p.d, .int .i64 p.f, .int .i64 p.t, .slice A p.B.length c] 29 (0, 0)) :: h1) (List.Perm.refl _) ⟨?_, ?_⟩
      · unfold inL; simp only [decide_eq_true hin]
      · unfold dbl; rw [if_pos hin, hLi]; exact hrep2
  · rename_i hin
    obtain ⟨rfl, rfl⟩ := hq
    refine ⟨getL [{ i := 0 }, { i := 0 }, { i := 0 }, { A := none, n := 0, c := 0 }, { b := false }], rfl, ?_⟩
    dsimp only [getL]
    refine h_alloc zb_Packet fun g3 hg3 hI3 => ?_
    refine h_store 0 rfl (by kernel_rfl) (Nat.le_of_ble_eq_true rfl) (by simp [Value.cells]) ?_
    refine h_no rfl ?_
    refine h_endR [_] rfl ?_
    unfold inL dbl
    rw [if_neg hin]
    exact ⟨by simp only [decide_eq_false hin], hrep⟩

def Pk.eqb (p q : Pk) : Bool := p.d == q.d && (p.f == q.f && (p.t == q.t && p.B == q.B))
theorem sameRef_spec {J : Ctx} {p q : Pk} {a1 a2 : Addr} {A1 A2 : Option Addr} {n1 c1 n2 c2 : Nat} (h1 : Cells J [] a1 [.int .i64 p.d, .int .i64 p.f, .int .i64 p.t, .slice A1 n1 c1]) (h2 : Cells J [] a2 [.int .i64 q.d, .int .i64 q.f, .int .i64 q.t, .slice A2 n2 c2])
    (hB1 : RdB J A1 n1 p.B) (hB2 : RdB J A2 n2 q.B) : Fn Try.prog 26 #[.slice (some a1) 1 1, .slice (some a2) 1 1] J [] (fun v h' => v = .bool (p.eqb q) ∧ h' = []) := by
  refine r_octroiref19_Same _ _ _ _ _ _ ?_
  refine h_no rfl ?_
  refine h_stop fun hl => ?_
  refine r_octroiref19_Same_1 _ _ _ _ _ _ _ _ ?_
  have f1 : ∀ q v, [Value.int .i64 p.d, .int .i64 p.f, .int .i64 p.t, .slice A1 n1 c1][q]? = some v → CellIs J [] (a1.add q) v := h1
  have f2 : ∀ k v, [Value.int .i64 q.d, .int .i64 q.f, .int .i64 q.t, .slice A2 n2 c2][k]? = some v → CellIs J [] (a2.add k) v := h2
  have fin : ∀ b : Bool, p.eqb q = b → holds Try.prog 26 J (cl_ fun v h' => v = .bool (p.eqb q) ∧ h' = []) (.done (.bool b)) [] := fun b hb => h_end0 ⟨by rw [hb], rfl⟩
  refine h_yes rfl ?_
  refine h_index a1 rfl (sz := 4) (by kernel_rfl) (by omega) (by omega) rfl ?_
  simp only [Int.toNat_zero, Nat.zero_mul, addr_add0]
  refine h_loadI (by kernel_rfl) (by have := f1 0 _ rfl; rwa [addr_add0] at this) ?_
  refine h_index a2 rfl (sz := 4) (by kernel_rfl) (by omega) (by omega) rfl ?_
  simp only [Int.toNat_zero, Nat.zero_mul, addr_add0]
  refine h_loadI (by kernel_rfl) (by have := f2 0 _ rfl; rwa [addr_add0] at this) ?_
  refine h_ite (fun e1 => fin _ (by unfold Pk.eqb; simp at e1; simp [e1])) (fun e1 => ?_)
  refine h_index a1 rfl (sz := 4) (by kernel_rfl) (by omega) (by omega) rfl ?_
  simp only [Int.toNat_zero, Nat.zero_mul, addr_add0]
  refine h_loadI (by kernel_rfl) (f1 1 _ rfl) ?_
  refine h_index a2 rfl (sz := 4) (by kernel_rfl) (by omega) (by omega) rfl ?_
  simp only [Int.toNat_zero, Nat.zero_mul, addr_add0]
  refine h_loadI (by kernel_rfl) (f2 1 _ rfl) ?_
  refine h_ite (fun e2 => fin _ (by unfold Pk.eqb; simp at e2; simp [e2])) (fun e2 => ?_)
  refine h_index a1 rfl (sz := 4) (by kernel_rfl) (by omega) (by omega) rfl ?_
  simp only [Int.toNat_zero, Nat.zero_mul, addr_add0]
  refine h_loadI (by kernel_rfl) (f1 2 _ rfl) ?_
  refine h_index a2 rfl (sz := 4) (by kernel_rfl) (by omega) (by omega) rfl ?_
  simp only [Int.toNat_zero, Nat.zero_mul, addr_add0]
  refine h_loadI (by kernel_rfl) (f2 2 _ rfl) ?_
  refine h_ite (fun e3 => fin _ (by unfold Pk.eqb; simp at e3; simp [e3])) (fun e3 => ?_)
  refine h_index a1 rfl (sz := 4) (by kernel_rfl) (by omega) (by omega) rfl ?_
  simp only [Int.toNat_zero, Nat.zero_mul, addr_add0]
  refine h_loadL (by kernel_rfl) (f1 3 _ rfl) ?_
  refine h_toString (e := 5) (by kernel_rfl) (by kernel_rfl) (by kernel_rfl) hB1.len hB1.rd hB1.nil ?_
  refine h_index a2 rfl (sz := 4) (by kernel_rfl) (by omega) (by omega) rfl ?_
  simp only [Int.toNat_zero, Nat.zero_mul, addr_add0]
  refine h_loadL (by kernel_rfl) (f2 3 _ rfl) ?_
  refine h_toString (e := 5) (by kernel_rfl) (by kernel_rfl) (by kernel_rfl) hB2.len hB2.rd hB2.nil ?_
  dsimp only
  rw [bS_toList, bS_toList]
  simp only [bne_eq_false_iff_eq] at e1 e2 e3
  refine h_ite (fun e4 => fin _ (by unfold Pk.eqb; simp at e4; simp [e4])) (fun e4 => ?_)
  refine h_stop fun hl => ?_
  refine r_octroiref19_Same_1 _ _ _ _ _ _ _ _ ?_
  refine h_no rfl ?_
  exact fin true (by unfold Pk.eqb; simp at e4; simp [e1, e2, e3, e4])
theorem same_spec {I : Ctx} {p q : Pk} {A1 A2 : Option Addr} {n1 c1 n2 c2 : Nat} (hB1 : RdB I A1 n1 p.B) (hB2 : RdB I A2 n2 q.B) :
    Fn Try.prog 15 #[p.v A1 n1 c1, q.v A2 n2 c2] I [] (fun v h' => v = .bool (p.eqb q) ∧ h' = []) := by
  refine r_octroilaw20_same _ _ _ _ _ _ _ _ _ _ _ _ ?_
  refine h_box fun g1 hg1 hI1 => ?_
  refine h_box fun g2 hg2 hI2 => ?_
  refine h_loadA (cs := [.int .i64 p.d, .int .i64 p.f, .int .i64 p.t, .slice A1 n1 c1]) (getL [{ i := p.d }, { i := p.f }, { i := p.t }, { A := A1, n := n1, c := c1 }]) (by kernel_rfl) (by kernel_rfl) (cells_at (j := 1) rfl rfl) rfl ?_; dsimp only [getL]
  refine h_row (e := 29) #[.int .i64 p.d, .int .i64 p.f, .int .i64 p.t, .slice A1 n1 c1] (by kernel_rfl) fun g3 hg3 hI3 => ?_
  refine h_loadA (cs := [.int .i64 q.d, .int .i64 q.f, .int .i64 q.t, .slice A2 n2 c2]) (getL [{ i := q.d }, { i := q.f }, { i := q.t }, { A := A2, n := n2, c := c2 }]) (by kernel_rfl) (by kernel_rfl) (cells_at (j := 1) rfl rfl) rfl ?_; dsimp only [getL]
  refine h_row (e := 29) #[.int .i64 q.d, .int .i64 q.f, .int .i64 q.t, .slice A2 n2 c2] (by kernel_rfl) fun g4 hg4 hI4 => ?_
  refine h_call0 (fun _ => { b := p.eqb q }) ca_octroiref19_Same (fun hl => sameRef_spec (p := p) (q := q) ((cells_at (j := 1) rfl rfl : Cells I _ ⟨g3, 0, none⟩ [.int .i64 p.d, .int .i64 p.f, .int .i64 p.t, .slice A1 n1 c1]).all hl) ((cells_at (j := 0) rfl rfl : Cells I _ ⟨g4, 0, none⟩ [.int .i64 q.d, .int .i64 q.f, .int .i64 q.t, .slice A2 n2 c2]).all hl) (hB1.up (Sub.self.up hl)) (hB2.up (Sub.self.up hl))) rfl ?_
  exact h_end0 ⟨rfl, rfl⟩
end Go.Proofs.YthkfeonpnplemaaS
