import Derived.Test.YtenlioajflbegaaDoorT
import Derived.Test.YtenlioajflbegaaDoorSS
import Derived.Test.YtenlioajflbegaaDoorSZ
import Derived.Test.YtenlioajflbegaaDoorShelf
import Derived.Lib.SmallJoins
set_option linter.unusedVariables false
namespace Go.Proofs.YtenlioajflbegaaDoorS
open Go.RowKit Go.Sort Go.Joins
theorem below_grown (w : World) (k : Nat) (os : Array Obj) : Below w.heap.size w (grow (w.drewN k) os) := by
  refine ⟨rfl, rfl, rfl, ?_, fun b hb => ?_⟩
  · show w.heap.size ≤ (w.heap ++ os).size
    simp
  · show (w.heap ++ os)[b]? = w.heap[b]?
    rw [Array.getElem?_append_left hb]
def gotV (ik : IntKind) (o : Option Nat) : Value := .tuple #[.int ik ((o.getD 0 : Nat) : Int), .bool o.isSome]
/-- What the library's variables hold. -/
def Glob (I : Ctx) : Prop := ∀ w, OnI I w → Lib.TabIs Tryd.prog w "internal/strconv.uint64pow10" .u64 Lib.pow10Tab ∧ (∃ tp p, w.var? Tryd.prog "strconv.ErrSyntax" = some #[.iface tp p]) ∧
  (∃ tp p, w.var? Tryd.prog "strconv.ErrRange" = some #[.iface tp p]) ∧ ∃ m, w.cell? ⟨0, 0, none⟩ = some (.int .i64 m)
theorem Glob.up {I J : Ctx} (h : Glob I) (hs : ∀ b o, I b = some o → J b = some o) : Glob J := fun w hw => h w fun b o hb => hw b o (hs b o hb)
theorem Glob.plus {I : Ctx} {h : Mem} (hg : Glob I) (hl : Live I h) : Glob (plus I h) := hg.up (Sub.self.up hl)
theorem itoa_fn {I : Ctx} (hg : Glob I) {n : Int} (hn : -9223372036854775808 ≤ n ∧ n ≤ 9223372036854775807) :
    Fn Tryd.prog 32 #[.int .i64 n] I [] (fun u h' => u = .string (bS (Lib.itoa n)) ∧ h' = []) :=
  fn_calls1 ca_strconv_Itoa fun w hw => (Tryd.strconv_Itoa n hn.1 hn.2 w (hg w hw).1).mono fun e w' ⟨he, k, os, hw'⟩ => ⟨he, by subst hw'; exact below_grown w k os⟩
theorem join_fn {I : Ctx} {A : Option Addr} {c : Nat} {xs : List (List UInt8)} {sep : List UInt8} (hx : xs ≠ []) (hr : RdC I [] A (xs.map fun x => .string (bS x))) (hA : ∀ a, A = some a → a.spot = none) (hc : xs.length ≤ c) (hN : xs.length ≤ 1000000000)
    (hlen : (Lib.join xs sep).length ≤ 140737488355328) :
    Fn Tryd.prog 33 #[.slice A xs.length c, .string (bS sep)] I [] (fun u h' => u = .string (bS (Lib.join xs sep)) ∧ h' = []) := by
  obtain ⟨⟨bk, o, sp⟩, rfl, hcs⟩ := hr (by simpa using hx)
  obtain rfl : sp = none := hA _ rfl
  have e1 : (xs.map bS).map (fun x => x.data.toList) = xs := by rw [List.map_map]; exact (List.map_congr_left fun x _ => by simp [bS]).trans (List.map_id _)
  have e2 : (bS sep).data.toList = sep := by simp [bS]
  refine fn_calls1 ca_strings_Join fun w hw => ?_
  have hcell : ∀ (j : Nat) x, (xs.map bS)[j]? = some x → w.cell? ⟨bk, o + j, none⟩ = some (.string x) := fun j x hj => by
    have := hw.cell (hcs j (.string x) (by rw [List.getElem?_map] at hj ⊢; cases hq : xs[j]? with | none => rw [hq] at hj; simp at hj | some y => rw [hq] at hj; simp at hj ⊢; exact hj))
    rwa [add_plain] at this
  have hbk : bk < w.heap.size := by
    cases xs with
    | nil => exact absurd rfl hx
    | cons y r =>
      have := hcell 0 (bS y) rfl
      simp only [World.cell?] at this
      cases hb : w.heap[bk]? with
      | none => rw [hb] at this; simp at this
      | some ob => exact (Array.getElem?_eq_some_iff.1 hb).1
  have h := Tryd.strings_Join bk o c (xs.map bS) (bS sep) w hcell hbk (by rw [List.length_map]; omega) (by rw [List.length_map]; exact hc) (by rw [e1, e2]; exact hlen)
  rw [e1, e2, List.length_map] at h
  exact h
theorem cut_fn {I : Ctx} (hg : Glob I) {s sep : List UInt8} (hs : s.length ≤ 4000000000) :
    Fn Tryd.prog 36 #[.string (bS s), .string (bS sep)] I [] (fun u h' => u = .tuple #[.string (bS (Lib.cut s sep).1), .string (bS (Lib.cut s sep).2.1), .bool (Lib.cut s sep).2.2] ∧ h' = []) := by
  refine fn_calls1 ca_strings_Cut fun w hw => ?_
  obtain ⟨m, hm⟩ := (hg w hw).2.2.2
  have h := Tryd.strings_Cut (bS s) (bS sep) m w (by rw [bS_size]; omega) hm
  have e : ∀ x : List UInt8, (bS x).data.toList = x := fun x => by simp [bS]
  rw [e, e] at h
  exact h.mono fun e w' ⟨he, n, hw'⟩ => ⟨he, by subst hw'; exact below_draws _ w n⟩
/-- What ParseUint(s, 10, 8) answers. -/
def pu8 (l : List UInt8) : Option Nat := match Lib.parseUintB 8 l with | .ok u => some u | _ => none
def PuV (l : List UInt8) (v : Value) : Prop := (∃ u, pu8 l = some u ∧ v = .tuple #[.int .u64 (u : Nat), .nilIface]) ∨ (pu8 l = none ∧ ∃ x t a, v = .tuple #[.int .u64 x, .iface t (.pointer a)] ∧ 0 ≤ x ∧ x ≤ 255)
theorem puint_fn {I : Ctx} (hg : Glob I) {l : List UInt8} (hs : l.length ≤ 4000000000) :
    Fn Tryd.prog 37 #[.string (bS l), .int .i64 10, .int .i64 8] I [] (fun u h' => PuV l u ∧ h' = []) := by
  have e : (bS l).data.toList = l := by simp [bS]
  refine fn_calls ca_strconv_ParseUint fun w hw => ?_
  obtain ⟨_, ⟨tp, p, hsy⟩, ⟨tp2, p2, hra⟩, _⟩ := hg w hw
  cases hp : Lib.parseUintB 8 l with
  | ok u =>
    refine (Tryd.strconv_ParseUint_10_at8_ok (bS l) (by rw [bS_size]; omega) u (by rw [e]; exact hp) w).mono fun e' w' ⟨he, hw'⟩ => ⟨_, he, .inl ⟨u, by unfold pu8; rw [hp], rfl⟩, ?_⟩
    rcases hw' with rfl | rfl
    · exact Below.refl _ _
    · exact below_bytesWorld _ w _ _ (Nat.le_refl _)
  | «syntax» =>
    exact (Tryd.strconv_ParseUint_10_at8_syntax_var (bS l) (by rw [bS_size]; omega) (by rw [e]; exact hp) tp p w hsy).mono fun e' w' ⟨N, he, _, _, hb⟩ => ⟨_, he, .inr ⟨by unfold pu8; rw [hp], _, _, _, rfl, by omega, by omega⟩, hb⟩
  | range =>
    exact (Tryd.strconv_ParseUint_10_at8_range_var (bS l) (by rw [bS_size]; omega) (by rw [e]; exact hp) tp2 p2 w hra).mono fun e' w' ⟨N, he, _, _, hb⟩ => ⟨_, he, .inr ⟨by unfold pu8; rw [hp], _, _, _, rfl, by omega, by omega⟩, hb⟩
end Go.Proofs.YtenlioajflbegaaDoorS
