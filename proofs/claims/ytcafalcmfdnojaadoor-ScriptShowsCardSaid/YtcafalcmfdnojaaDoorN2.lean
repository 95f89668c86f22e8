import Derived.Test.YtcafalcmfdnojaaDoorT
import Derived.Test.YtcafalcmfdnojaaDoorSS
import Derived.Test.YtcafalcmfdnojaaDoorSZ
import Derived.Test.YtcafalcmfdnojaaDoorShelf
import Derived.Lib.SmallJoins
set_option linter.unusedVariables false
namespace Go.Proofs.YtcafalcmfdnojaaDoorS
open Go.RowKit Go.Sort Go.Joins
theorem below_grown (w : World) (k : Nat) (os : Array Obj) : Below w.heap.size w (grow (w.drewN k) os) := by
  refine ⟨rfl, rfl, rfl, ?_, fun b hb => ?_⟩
  · show w.heap.size ≤ (w.heap ++ os).size
    simp
  · show (w.heap ++ os)[b]? = w.heap[b]?
    rw [Array.getElem?_append_left hb]
/-- What the library's variables hold. -/
def Glob (I : Ctx) : Prop := ∀ w, OnI I w → Lib.TabIs Tryd.prog w "internal/strconv.uint64pow10" .u64 Lib.pow10Tab ∧ (∃ tp p, w.var? Tryd.prog "strconv.ErrSyntax" = some #[.iface tp p]) ∧
  (∃ tp p, w.var? Tryd.prog "strconv.ErrRange" = some #[.iface tp p]) ∧ ∃ m, w.cell? ⟨0, 0, none⟩ = some (.int .i64 m)
theorem Glob.up {I J : Ctx} (h : Glob I) (hs : ∀ b o, I b = some o → J b = some o) : Glob J := fun w hw => h w fun b o hb => hw b o (hs b o hb)
theorem Glob.plus {I : Ctx} {h : Mem} (hg : Glob I) (hl : Live I h) : Glob (plus I h) := hg.up (Sub.self.up hl)
theorem itoa_fn {I : Ctx} (hg : Glob I) {n : Int} (hn : -9223372036854775808 ≤ n ∧ n ≤ 9223372036854775807) :
    Fn Tryd.prog 41 #[.int .i64 n] I [] (fun u h' => u = .string (bS (Lib.itoa n)) ∧ h' = []) :=
  fn_calls1 ca_strconv_Itoa fun w hw => (Tryd.strconv_Itoa n hn.1 hn.2 w (hg w hw).1).mono fun e w' ⟨he, k, os, hw'⟩ => ⟨he, by subst hw'; exact below_grown w k os⟩
theorem join_fn {I : Ctx} {A : Option Addr} {c : Nat} {xs : List (List UInt8)} {sep : List UInt8} (hx : xs ≠ []) (hr : RdC I [] A (xs.map fun x => .string (bS x))) (hA : ∀ a, A = some a → a.spot = none) (hc : xs.length ≤ c) (hN : xs.length ≤ 1000000000)
    (hlen : (Lib.join xs sep).length ≤ 140737488355328) :
    Fn Tryd.prog 42 #[.slice A xs.length c, .string (bS sep)] I [] (fun u h' => u = .string (bS (Lib.join xs sep)) ∧ h' = []) := by
  obtain ⟨⟨bk, o, sp⟩, rfl, hcs⟩ := hr (by simpa using hx)
  obtain rfl : sp = none := hA _ rfl
  have e1 : (xs.map bS).map (fun x => x.data.toList) = xs := by rw [List.map_map]; exact (List.map_congr_left fun x _ => by simp [bS]).trans (List.map_id _)
  have e2 : (bS sep).data.toList = sep := by simp [bS]
  refine fn_calls1 ca_strings_Join fun w hw => ?_
  have hcell : ∀ (j : Nat) x, (xs.map bS)[j]? = some x → w.cell? ⟨bk, o + j, none⟩ = some (.string x) := fun j x hj => by
    have := hw.cell (hcs j (.string x) (by rw [List.getElem?_map] at hj ⊢; cases hq : xs[j]? with | none => rw [hq] at hj; simp at hj | some y => rw [hq] at hj; simp at hj ⊢; exact hj))
    rwa [add_plain] at this
  have hbk : bk < w.heap.size := by
    cases xs with
    | nil => exact absurd rfl hx
    | cons y r =>
      have := hcell 0 (bS y) rfl
      simp only [World.cell?] at this
      cases hb : w.heap[bk]? with
      | none => rw [hb] at this; simp at this
      | some ob => exact (Array.getElem?_eq_some_iff.1 hb).1
  have h := Tryd.strings_Join bk o c (xs.map bS) (bS sep) w hcell hbk (by rw [List.length_map]; omega) (by rw [List.length_map]; exact hc) (by rw [e1, e2]; exact hlen)
  rw [e1, e2, List.length_map] at h
  exact h
theorem data_bS (l : List UInt8) : (bS l).data.toList = l := by simp [bS]
theorem trim_fn {I : Ctx} {s p : List UInt8} (hs : s.length ≤ 4000000000) :
    Fn Tryd.prog 34 #[.string (bS s), .string (bS p)] I [] (fun u h' => u = .string (bS (Lib.trimSuffix s p)) ∧ h' = []) := by
  refine fn_calls1 ca_strings_TrimSuffix fun w hw => ?_
  have h := Tryd.strings_TrimSuffix (bS s) (bS p) w (by rw [bS_size]; omega)
  rw [data_bS, data_bS] at h
  exact h.mono fun e w' ⟨he, hw'⟩ => ⟨he, by subst hw'; exact Below.refl _ _⟩
theorem count_fn {I : Ctx} {s : List UInt8} {c : UInt8} :
    Fn Tryd.prog 18 #[.string (bS s), .string (bS [c])] I [] (fun u h' => u = .int .i64 ((s.count c : Nat) : Int) ∧ h' = []) := by
  refine fn_calls1 ca_strings_Count fun w hw => ?_
  have h := Tryd.strings_Count_one (bS s) c w
  rw [data_bS] at h
  exact h.mono fun e w' ⟨he, hw'⟩ => ⟨he, by subst hw'; exact Below.refl _ _⟩
theorem indexByte_fn {I : Ctx} {s : List UInt8} {c : UInt8} :
    Fn Tryd.prog 32 #[.string (bS s), .int .u8 (c.toNat : Int)] I [] (fun u h' => u = .int .i64 (Lib.indexByte s c) ∧ h' = []) := by
  refine fn_calls1 ca_strings_IndexByte fun w hw => ?_
  have h := Tryd.strings_IndexByte (bS s) (c.toNat : Int) w
  rw [data_bS, show ((c.toNat : Nat) : Int).toNat.toUInt8 = c by simp] at h
  exact h.mono fun e w' ⟨he, hw'⟩ => ⟨he, by subst hw'; exact Below.refl _ _⟩
/-- What a text is, cut at a sign. -/
def splitL (s : List UInt8) (sg : UInt8) : List (List UInt8) := Lib.splitK [sg] 0 (Lib.count s [sg]) s
theorem split_data (s : List UInt8) (sg : UInt8) : Lib.splitB (bS [sg]) 0 (Lib.countB (bS s) (bS [sg])) (bS s) = (splitL s sg).map bS := by
  have h := Lib.splitB_data (bS [sg]) 0 (Lib.countB (bS s) (bS [sg])) (bS s)
  have e : Lib.countB (bS s) (bS [sg]) = Lib.count s [sg] := by unfold Lib.countB; rw [data_bS, data_bS]
  rw [data_bS, data_bS] at h
  unfold splitL
  rw [← e, ← h, List.map_map]
  conv => lhs; rw [← List.map_id (Lib.splitB _ _ _ _)]
  refine List.map_congr_left fun x _ => ?_
  show x = bS x.data.toList
  simp [bS]
theorem split_len (s : List UInt8) (sg : UInt8) : (splitL s sg).length = Lib.countB (bS s) (bS [sg]) + 1 := by
  have h := Lib.splitB_all (bS [sg]) (by rw [bS_size]; exact Nat.le_refl _) 0 _ (bS s) rfl
  rw [split_data, List.length_map] at h
  exact h
theorem split_fn {I : Ctx} (hg : Glob I) {s : List UInt8} {sg : UInt8} (hs : s.length ≤ 4000000000) :
    Fn Tryd.prog 33 #[.string (bS s), .string (bS [sg])] I [] (fun v h' => ∃ N o, (v = .slice (some ⟨N, 0, none⟩) (splitL s sg).length (splitL s sg).length ∧ o = .cells ((splitL s sg).map fun x => .string (bS x)).toArray 9 (0, 0)) ∧ h' = [(N, o)]) := by
  refine fn_callsN ca_strings_Split fun w hw => ?_
  obtain ⟨m, hm⟩ := (hg w hw).2.2.2
  refine (Tryd.strings_Split (bS s) (bS [sg]) m w (by rw [bS_size]; omega) hm (by rw [bS_size]; exact Nat.le_refl _)).mono fun e w' ⟨he, hw'⟩ => ?_
  rw [← split_len] at he
  rw [split_data, List.map_map] at hw'
  refine ⟨_, w.heap.size, _, he, ⟨rfl, rfl⟩, Nat.le_refl _, ?_, ?_⟩
  · subst hw'; show (w.heap.push _)[w.heap.size]? = some _; rw [Array.getElem?_push_size]; rfl
  · subst hw'; exact below_alloc1 _ _
/-- What Atoi answers. -/
def AtoiV (l : List UInt8) (v : Value) : Prop := ∃ x e, v = .tuple #[.int .i64 x, e] ∧ (-9223372036854775808 ≤ x ∧ x ≤ 9223372036854775807) ∧ ∀ u, Lib.atoiAll l = .ok u → x = u
theorem atoi_rng {l : List UInt8} {u : Int} (h : Lib.atoiAll l = .ok u) : -9223372036854775808 ≤ u ∧ u ≤ 9223372036854775807 := by
  unfold Lib.atoiAll at h
  split at h
  · cases h
  · simp only at h
    split at h
    · cases h
    · cases h
    · split at h
      · cases h
      · split at h
        · cases h
        · injection h with h
          split at h <;> omega
theorem atoi_fn {I : Ctx} (hg : Glob I) {l : List UInt8} (hs : l.length ≤ 4000000000) :
    Fn Tryd.prog 38 #[.string (bS l)] I [] (fun u h' => AtoiV l u ∧ h' = []) := by
  refine fn_calls ca_strconv_Atoi fun w hw => ?_
  obtain ⟨_, ⟨tp, p, hsy⟩, ⟨tp2, p2, hra⟩, _⟩ := hg w hw
  cases hp : Lib.atoiAll l with
  | ok u =>
    refine (Tryd.strconv_Atoi_ok (bS l) (by rw [bS_size]; omega) u (by rw [data_bS]; exact hp) w).mono fun e' w' ⟨he, hw'⟩ => ⟨_, he, ⟨u, _, rfl, atoi_rng hp, fun v hv => by rw [hp] at hv; injection hv⟩, ?_⟩
    rcases hw' with rfl | ⟨t, rfl⟩
    · exact Below.refl _ _
    · exact below_bytesWorld _ w _ _ (Nat.le_refl _)
  | «syntax» =>
    exact (Tryd.strconv_Atoi_syntax_var (bS l) (by rw [bS_size]; omega) (by rw [data_bS]; exact hp) tp p w hsy).mono fun e' w' ⟨N, he, _, _, hb⟩ => ⟨_, he, ⟨0, _, rfl, by omega, fun v hv => by rw [hp] at hv; cases hv⟩, hb⟩
  | range =>
    refine (Tryd.strconv_Atoi_range_var (bS l) (by rw [bS_size]; omega) (by rw [data_bS]; exact hp) tp2 p2 w hra).mono fun e' w' ⟨N, he, _, _, hb⟩ => ⟨_, he, ⟨_, _, rfl, ?_, fun v hv => by rw [hp] at hv; cases hv⟩, hb⟩
    unfold Lib.atoiSat
    split <;> omega
end Go.Proofs.YtcafalcmfdnojaaDoorS
