import Derived.Test.YtcafalcmfdnojaaDoorN17
set_option linter.unusedVariables false
set_option maxRecDepth 20000
namespace Go.Proofs.YtcafalcmfdnojaaDoorS
theorem law_ScriptJoins {I : Ctx} (hg : Glob I) {s t : List UInt8} :
    Fn Tryd.prog 5 #[.string (bS s), .string (bS t)] I [] (fun v h' => v = .bool true ∧ h' = []) := by
  refine r_octroilaw23_ScriptJoins _ _ ?_
  refine h_call0 (fun _ => { b := true }) ca_octroilaw23_awake (fun hl => awake_spec (hg.plus hl)) rfl ?_
  dsimp only
  refine h_no rfl ?_
  simp only [bS_size]
  refine h_ite (fun _ => h_end0 ⟨rfl, rfl⟩) (fun t0 => ?_)
  refine h_ite (fun _ => h_end0 ⟨rfl, rfl⟩) (fun t1 => ?_)
  have hs : s.length ≤ 5000 := by simp at t0; omega
  have ht : t.length ≤ 5000 := by simp at t1; omega
  have hpl_m1 := parse_len s
  refine h_call [] _ ca_script_Parse (List.Perm.refl _) (fun hl => parse_spec (s := s) (hg.plus hl) (by first | omega | (simp; omega))) ?_
  rintro v m1 ⟨A1, c1, rfl, ho1⟩
  refine ⟨getL [{ A := A1, n := (parseP s).1.length, c := c1 }, { i := (parseP s).2 }], rfl, ?_⟩
  dsimp only [getL]
  have hpl_m2 := parse_len t
  refine h_call [] _ ca_script_Parse (List.Perm.refl _) (fun hl => parse_spec (s := t) (hg.plus hl) (by first | omega | (simp; omega))) ?_
  rintro v m2 ⟨A2, c2, rfl, ho2⟩
  refine ⟨getL [{ A := A2, n := (parseP t).1.length, c := c2 }, { i := (parseP t).2 }], rfl, ?_⟩
  dsimp only [getL]
  refine h_ite (fun _ => h_end0 ⟨rfl, rfl⟩) (fun t2 => ?_)
  refine h_ite (fun _ => h_end0 ⟨rfl, rfl⟩) (fun t3 => ?_)
  have h2 : parseP s = ((parseP s).1, 0) := by
    have : (parseP s).2 = 0 := by simpa using t2
    rw [← this]
  have h3 : parseP t = ((parseP t).1, 0) := by
    have : (parseP t).2 = 0 := by simpa using t3
    rw [← this]
  generalize (parseP s).1 = x at *
  generalize (parseP t).1 = y at *
  have hw : IntKind.wrap .i64 (((x.length : Nat) : Int) + ((y.length : Nat) : Int)) = ((x.length : Nat) : Int) + ((y.length : Nat) : Int) := wrap64 (by omega)
  simp only [hw]
  refine h_ite (fun _ => h_end0 ⟨rfl, rfl⟩) (fun t4 => ?_)
  have h4 : x.length + y.length ≤ 1000 := by simp at t4; omega
  have h5 := law_joins h2 h3 h4
  refine h_addS (by omega) ?_
  dsimp only
  refine h_call [] _ ca_script_Parse (List.Perm.refl _) (fun hl => parse_spec (s := s ++ t) (hg.plus hl) (by simp; omega)) ?_
  rintro v m3 ⟨A3, c3, rfl, ho3⟩
  rw [h5] at ho3 ⊢
  refine ⟨getL [{ A := A3, n := (x ++ y).length, c := c3 }, { i := 0 }], rfl, ?_⟩
  dsimp only [getL]
  refine h_append (cl_.aff _) eb_Item (by kernel_rfl) (cs := []) (cs2 := itCs x) (m := []) (hr := m3 ++ ([] ++ (m2 ++ ([] ++ (m1 ++ [])))) ) (ho1.rd (fun x hx => by first | (simp [hx]; done) | (rw [List.mem_singleton] at hx; subst hx; simp; done))) ho1.some_of (itCs_len x) (itCs_plain x) (by simp) (Own.nil _ _) (by omega) (by omega) ?_
  intro A4 c4 m4 ho4
  dsimp only
  rw [List.nil_append, Nat.zero_add] at ho4
  rw [Nat.zero_add]
  refine h_append (cl_.aff _) eb_Item (by kernel_rfl) (cs := itCs x) (cs2 := itCs y) (m := m4) (ho2.rd (fun x hx => by first | (simp [hx]; done) | (rw [List.mem_singleton] at hx; subst hx; simp; done))) ho2.some_of (itCs_len y) (itCs_plain y) (List.Perm.refl _) ho4 (by omega) (by omega) ?_
  intro A5 c5 m5 ho5
  dsimp only
  have e : x.length + y.length = (x ++ y).length := by simp
  rw [← itCs_append, e] at ho5
  rw [e]
  refine h_call0 (fun _ => { b := decide (x ++ y = x ++ y) }) ca_octroiref23_Same (fun hl => same_spec (RdC.all hl (ho3.rd (fun x hx => by first | (simp [hx]; done) | (rw [List.mem_singleton] at hx; subst hx; simp; done)))) (RdC.all hl (ho5.rd (fun x hx => by first | (simp [hx]; done) | (rw [List.mem_singleton] at hx; subst hx; simp; done)))) (by simp; omega)) rfl ?_
  dsimp only
  refine h_yes rfl ?_
  exact h_end0 ⟨by simp, rfl⟩
theorem lines_loop2 {I : Ctx} (hg : Glob I) {l : List It} (hl : l.length ≤ 1000) {A : Option Addr} {c : Nat} {x7 : Nat} (hx : x7 = (l.map fun x => numI x.k).sum) (hr : RdC I [] A (itCs l)) : ∀ (q i : Nat) (u : Nat → Value) (h : Mem), i + q = l.length →
    Wp Tryd.prog 6 k_octroilaw23_ScriptLines_2 (t_octroilaw23_ScriptLines_2 A l.length c (l.length : Nat) (x7 : Nat) ((((l.take i).map fun x => numI x.k).sum : Nat) : Int) (i : Nat) u) I h (cl_ fun v h' => v = .bool true ∧ h' = []) := by
  intro q
  induction q with
  | zero =>
    intro i u h hq
    obtain rfl : i = l.length := by omega
    refine r_octroilaw23_ScriptLines_2 _ _ _ _ _ _ _ _ ?_
    refine h_no (by simp) ?_
    refine h_yes (by simp) ?_
    refine h_end0 ⟨?_, rfl⟩
    rw [List.take_length, ← hx]
    simp
  | succ q ih =>
    intro i u h hq
    have hi : i < l.length := by omega
    have hb : l[i]? = some l[i] := List.getElem?_eq_getElem hi
    have hta : l.take (i + 1) = l.take i ++ [l[i]] := by rw [List.take_add_one, hb]; rfl
    have hle : ∀ j, ((l.take j).map fun x => numI x.k).sum ≤ 3 * j := by
      intro j
      induction j with
      | zero => simp
      | succ j ihj =>
        rw [List.take_add_one, List.map_append, List.sum_append]
        cases hlj : l[j]? with
        | none => rw [show (none : Option It).toList = [] from rfl, List.map_nil, List.sum_nil]; omega
        | some y => have := numI_le y.k; rw [show (some y : Option It).toList = [y] from rfl, List.map_cons, List.map_nil, List.sum_cons, List.sum_nil]; omega
    have h3 := hle i
    have hn3 := numI_le l[i].k
    generalize l[i] = x at *
    refine r_octroilaw23_ScriptLines_2 _ _ _ _ _ _ _ _ ?_
    refine h_yes (by simp; omega) ?_
    obtain ⟨a, rfl, hcs⟩ := (hr.sub (h := h) Sub.self) (fun e => by have := itCs_len l; rw [e] at this; simp at this; omega)
    refine h_index (e := 35) (sz := 4) a (by kernel_rfl) (by kernel_rfl) (by omega) (by omega) rfl ?_
    dsimp only
    refine h_loadI (x := x.k) (by kernel_rfl) ?_ ?_
    · rw [Int.toNat_natCast]
      exact hcs (i * 4) _ (by have := itCs_get hb 0 _ rfl; simpa using this)
    dsimp only
    refine h_call0 (fun _ => { i := (numI x.k : Nat) }) ca_script_Numbers (fun hl => numbers_spec) rfl ?_
    dsimp only
    refine h_stop fun hl2 => ?_
    have e : (((l.take i).map fun x => numI x.k).sum + numI x.k : Nat) = ((l.take (i + 1)).map fun x => numI x.k).sum := by rw [hta]; simp
    rw [wrapS (by omega), wrap64 (by omega), ← Int.natCast_add, e]
    exact ih (i + 1) _ _ (by omega)
theorem lines_loop1 {I : Ctx} (hg : Glob I) {l : List It} (hl : l.length ≤ 1000) {t : List UInt8} (ht : showP l = (t, 0)) (htl : t.length ≤ 41000) {A : Option Addr} {c : Nat} (hr : RdC I [] A (itCs l)) : ∀ (q i : Nat) (u : Nat → Value) (h : Mem), i + q = t.length →
    Wp Tryd.prog 6 k_octroilaw23_ScriptLines_1 (t_octroilaw23_ScriptLines_1 A l.length c (bS t) (((t.take i).count 10 : Nat) : Int) (((t.take i).count 32 : Nat) : Int) (i : Nat) u) I h (cl_ fun v h' => v = .bool true ∧ h' = []) := by
  intro q
  induction q with
  | zero =>
    intro i u h hq
    obtain rfl : i = t.length := by omega
    obtain ⟨h1, h2⟩ := law_lines ht
    refine r_octroilaw23_ScriptLines_1 _ _ _ _ _ _ _ _ ?_
    refine h_no (by rw [bS_size]; simp) ?_
    refine h_stop fun hl2 => ?_
    rw [List.take_length, h1]
    exact lines_loop2 hg hl h2 hr l.length 0 _ _ (by omega)
  | succ q ih =>
    intro i u h hq
    have hi : i < t.length := by omega
    have hb : t[i]? = some t[i] := List.getElem?_eq_getElem hi
    have hta : t.take (i + 1) = t.take i ++ [t[i]] := by rw [List.take_add_one, hb]; rfl
    have c1 : (t.take i).count 10 ≤ i := Nat.le_trans List.count_le_length (by simp; omega)
    have c2 : (t.take i).count 32 ≤ i := Nat.le_trans List.count_le_length (by simp; omega)
    generalize t[i] = b at *
    have k1 : (t.take (i + 1)).count 10 = (t.take i).count 10 + (if b = 10 then 1 else 0) := by rw [hta, List.count_append, List.count_singleton]; simp
    have k2 : (t.take (i + 1)).count 32 = (t.take i).count 32 + (if b = 32 then 1 else 0) := by rw [hta, List.count_append, List.count_singleton]; simp
    have n10 : ∀ (e : (((b.toNat : Nat) : Int) == 10) = true), b = 10 := fun e => UInt8.toNat_inj.1 (by simp at e; show b.toNat = 10; omega)
    have n32 : ∀ (e : (((b.toNat : Nat) : Int) == 32) = true), b = 32 := fun e => UInt8.toNat_inj.1 (by simp at e; show b.toNat = 32; omega)
    have m10 : ∀ (e : (((b.toNat : Nat) : Int) == 10) = false), b ≠ 10 := fun e h => by rw [h] at e; simp at e
    have m32 : ∀ (e : (((b.toNat : Nat) : Int) == 32) = false), b ≠ 32 := fun e h => by rw [h] at e; simp at e
    have key := fun u' h' => ih (i + 1) u' h' (by omega)
    refine r_octroilaw23_ScriptLines_1 _ _ _ _ _ _ _ _ ?_
    refine h_yes (by rw [bS_size]; simp; omega) ?_
    refine h_byteS i hb rfl (by kernel_rfl) ?_
    dsimp only
    refine h_ite (fun t0 => ?_) (fun t0 => ?_)
    · refine h_byteS i hb rfl (by kernel_rfl) ?_
      dsimp only
      rw [if_pos (n10 t0)] at k1
      refine h_ite (fun t1 => ?_) (fun t1 => ?_)
      · rw [n10 t0] at t1
        simp at t1
      · rw [if_neg (m32 t1)] at k2
        refine h_stop fun hl2 => ?_
        rw [wrapS (by omega), wrapS (by omega), ← k1, show (t.take i).count 32 = (t.take (i + 1)).count 32 by omega]
        exact key _ _
    · refine h_byteS i hb rfl (by kernel_rfl) ?_
      dsimp only
      rw [if_neg (m10 t0)] at k1
      refine h_ite (fun t1 => ?_) (fun t1 => ?_)
      · rw [if_pos (n32 t1)] at k2
        refine h_stop fun hl2 => ?_
        rw [wrapS (by omega), wrapS (by omega), ← k2, show (t.take i).count 10 = (t.take (i + 1)).count 10 by omega]
        exact key _ _
      · rw [if_neg (m32 t1)] at k2
        refine h_stop fun hl2 => ?_
        rw [wrapS (by omega), show (t.take i).count 32 = (t.take (i + 1)).count 32 by omega, show (t.take i).count 10 = (t.take (i + 1)).count 10 by omega]
        exact key _ _
theorem law_ScriptLines {I : Ctx} (hg : Glob I) {l : List It} {A : Option Addr} {c : Nat} (hr : RdC I [] A (itCs l)) :
    Fn Tryd.prog 6 #[.slice A l.length c] I [] (fun v h' => v = .bool true ∧ h' = []) := by
  refine r_octroilaw23_ScriptLines _ _ _ ?_
  refine h_call0 (fun _ => { b := true }) ca_octroilaw23_awake (fun hl => awake_spec (hg.plus hl)) rfl ?_
  dsimp only
  refine h_no rfl ?_
  refine h_ite (fun _ => h_end0 ⟨rfl, rfl⟩) (fun t0 => ?_)
  have hl1 : l.length ≤ 1000 := by simp at t0; omega
  refine h_call0 (getL [{ s := bS (showP l).1 }, { i := (showP l).2 }]) ca_script_Show (fun hl => show_spec (hg.plus hl) (hr.up (Sub.self.up hl))) rfl ?_
  dsimp only [getL]
  refine h_ite (fun t1 => ?_) (fun t1 => ?_)
  · have h1 : (showP l).2 ≠ 0 := by simpa using t1
    refine h_end0 ⟨?_, rfl⟩
    rw [show_err (l := l) (t := (showP l).1) rfl h1]
    rfl
  have h1 : showP l = ((showP l).1, 0) := by
    have : (showP l).2 = 0 := by simpa using t1
    rw [← this]
  have hlen : (showP l).1.length ≤ 41000 := by
    obtain ⟨q1, q2, q3⟩ := show_ok h1
    rw [q3]
    have := lines_size q1
    omega
  refine h_stop fun hl2 => ?_
  exact lines_loop1 hg hl1 h1 hlen hr (showP l).1.length 0 _ _ (by omega)
end Go.Proofs.YtcafalcmfdnojaaDoorS
