import Derived.Test.YtcafalcmfdnojaaDoorN16
set_option linter.unusedVariables false
set_option maxRecDepth 20000
namespace Go.Proofs.YtcafalcmfdnojaaDoorS
theorem parse_len (s : List UInt8) : (parseP s).1.length ≤ 1000 := by
  by_cases h : (parseP s).2 = 0
  · exact (parse_out (show parseP s = ((parseP s).1, 0) by rw [← h])).2.1
  · rw [parse_err (l := (parseP s).1) (e := (parseP s).2) rfl h]; simp
theorem awake_spec {I : Ctx} (hg : Glob I) : Fn Tryd.prog 8 #[] I [] (fun v h' => v = .bool true ∧ h' = []) := by
  refine r_octroilaw23_awake ?_
  refine h_row (e := 35) ⟨itCs [⟨0, 3, 30, 0⟩, ⟨6, 1, 0, 5⟩]⟩ (by kernel_rfl) fun g hg1 hI1 => ?_
  dsimp only
  refine h_call0 (getL [{ s := bS [116, 105, 99, 107, 32, 51, 32, 51, 48, 10, 111, 119, 110, 32, 49, 32, 48, 32, 53, 10] }, { i := 0 }]) (v := showV [⟨0, 3, 30, 0⟩, ⟨6, 1, 0, 5⟩]) ca_script_Show (fun hl => ?_) ?_ ?_
  · exact show_spec (l := [⟨0, 3, 30, 0⟩, ⟨6, 1, 0, 5⟩]) (hg.plus hl) (RdC.all hl (fun _ => ⟨_, rfl, cellsM' (by repeat (first | exact mq0 | apply mq1 | apply mq2)) rfl⟩))
  · unfold showV; rw [law_awake1]; rfl
  dsimp only [getL]
  refine h_call [] _ ca_script_Parse (List.Perm.refl _) (fun hl => parse_spec (s := [116, 105, 99, 107, 32, 51, 10]) (hg.plus hl) (by decide)) ?_
  rintro v m ⟨A, c, rfl, ho⟩
  rw [law_awake2]
  refine ⟨getL [{ A := A, n := 0, c := c }, { i := 2 }], rfl, ?_⟩
  dsimp only [getL]
  refine h_yes (by decide) ?_
  refine h_yes (by rw [bS_toList]; exact beq_iff_eq.2 (bS_toList _).symm) ?_
  exact h_end0 ⟨rfl, rfl⟩
theorem law_ScriptShows {I : Ctx} (hg : Glob I) {l : List It} {A : Option Addr} {c : Nat} {k : Int} (hr : RdC I [] A (itCs l)) :
    Fn Tryd.prog 7 #[.slice A l.length c, .int .i64 k] I [] (fun v h' => v = .bool true ∧ h' = []) := by
  refine r_octroilaw23_ScriptShows _ _ _ _ ?_
  refine h_call0 (fun _ => { b := true }) ca_octroilaw23_awake (fun hl => awake_spec (hg.plus hl)) rfl ?_
  dsimp only
  refine h_ite (fun _ => h_end0 ⟨rfl, rfl⟩) (fun t0 => ?_)
  refine h_call0 (getL [{ s := bS (showP l).1 }, { i := (showP l).2 }]) ca_script_Show (fun hl => show_spec (hg.plus hl) (hr.up (Sub.self.up hl))) rfl ?_
  refine h_call0 (getL [{ s := bS (showP l).1 }, { i := (showP l).2 }]) ca_octroiref23_Show (fun hl => rshow_spec (hr.up (Sub.self.up hl))) rfl ?_
  dsimp only [getL]
  refine h_yes rfl ?_
  refine h_yes (by simp) ?_
  refine h_yes (by simp) ?_
  refine h_call0 (fun _ => { s := bS (wordI k) }) ca_script_Word (fun hl => word_spec) rfl ?_
  refine h_call0 (fun _ => { s := bS (wordI k) }) ca_octroiref23_Word (fun hl => rword_spec) rfl ?_
  dsimp only
  refine h_yes (by simp) ?_
  refine h_call0 (fun _ => { i := (numI k : Nat) }) ca_script_Numbers (fun hl => numbers_spec) rfl ?_
  refine h_call0 (fun _ => { i := (numI k : Nat) }) ca_octroiref23_Numbers (fun hl => rnumbers_spec) rfl ?_
  exact h_end0 ⟨by simp, rfl⟩
theorem law_ScriptParses {I : Ctx} (hg : Glob I) {s : List UInt8} :
    Fn Tryd.prog 3 #[.string (bS s)] I [] (fun v h' => v = .bool true ∧ h' = []) := by
  refine r_octroilaw23_ScriptParses _ ?_
  refine h_call0 (fun _ => { b := true }) ca_octroilaw23_awake (fun hl => awake_spec (hg.plus hl)) rfl ?_
  dsimp only
  rw [bS_size]
  refine h_ite (fun _ => h_end0 ⟨rfl, rfl⟩) (fun t0 => ?_)
  have hs : s.length ≤ 60000 := by simp at t0; omega
  have hpl := parse_len s
  refine h_call [] _ ca_script_Parse (List.Perm.refl _) (fun hl => parse_spec (hg.plus hl) hs) ?_
  rintro v m1 ⟨A1, c1, rfl, ho1⟩
  refine ⟨getL [{ A := A1, n := (parseP s).1.length, c := c1 }, { i := (parseP s).2 }], rfl, ?_⟩
  dsimp only [getL]
  refine h_call [] _ ca_octroiref23_Parse (List.Perm.refl _) (fun hl => rparse_spec hs) ?_
  rintro v m2 ⟨A2, c2, rfl, ho2⟩
  refine ⟨getL [{ A := A2, n := (parseP s).1.length, c := c2 }, { i := (parseP s).2 }], rfl, ?_⟩
  dsimp only [getL]
  refine h_call0 (fun _ => { b := decide ((parseP s).1 = (parseP s).1) }) ca_octroiref23_Same (fun hl => same_spec (RdC.all hl (ho1.rd (fun x hx => by first | (simp [hx]; done) | (rw [List.mem_singleton] at hx; subst hx; simp; done)))) (RdC.all hl (ho2.rd (fun x hx => by first | (simp [hx]; done) | (rw [List.mem_singleton] at hx; subst hx; simp; done)))) (by omega)) rfl ?_
  dsimp only
  refine h_yes rfl ?_
  refine h_yes (by simp) ?_
  exact h_end0 ⟨by simp, rfl⟩
theorem law_ScriptBack {I : Ctx} (hg : Glob I) {l : List It} {A : Option Addr} {c : Nat} {s : List UInt8} (hr : RdC I [] A (itCs l)) :
    Fn Tryd.prog 4 #[.slice A l.length c, .string (bS s)] I [] (fun v h' => v = .bool true ∧ h' = []) := by
  refine r_octroilaw23_ScriptBack _ _ _ _ ?_
  refine h_call0 (fun _ => { b := true }) ca_octroilaw23_awake (fun hl => awake_spec (hg.plus hl)) rfl ?_
  dsimp only
  refine h_no rfl ?_
  refine h_ite (fun _ => h_end0 ⟨rfl, rfl⟩) (fun t0 => ?_)
  rw [bS_size]
  refine h_ite (fun _ => h_end0 ⟨rfl, rfl⟩) (fun t1 => ?_)
  have hl1 : l.length ≤ 1000 := by simp at t0; omega
  have hs : s.length ≤ 5000 := by simp at t1; omega
  refine h_call0 (getL [{ s := bS (showP l).1 }, { i := (showP l).2 }]) ca_script_Show (fun hl => show_spec (hg.plus hl) (hr.up (Sub.self.up hl))) rfl ?_
  dsimp only [getL]
  refine h_ite (fun t2 => ?_) (fun t2 => ?_)
  · have h2 : showP l = ((showP l).1, 0) := by
      have : (showP l).2 = 0 := by simpa using t2
      rw [← this]
    have h3 := law_back1 h2
    have hlen : (showP l).1.length ≤ 41000 := by
      obtain ⟨q1, q2, q3⟩ := show_ok h2
      rw [q3]
      have := lines_size q1
      omega
    generalize (showP l).1 = t at *
    refine h_call [] _ ca_script_Parse (List.Perm.refl _) (fun hl => parse_spec (s := t) (hg.plus hl) (by omega)) ?_
    rintro v m1 ⟨A1, c1, rfl, ho1⟩
    rw [h3] at ho1 ⊢
    refine ⟨getL [{ A := A1, n := l.length, c := c1 }, { i := 0 }], rfl, ?_⟩
    dsimp only [getL]
    refine h_call0 (fun _ => { b := decide (l = l) }) ca_octroiref23_Same (fun hl => same_spec (hr.up (Sub.self.up hl)) (RdC.all hl (ho1.rd (fun x hx => by first | (simp [hx]; done) | (rw [List.mem_singleton] at hx; subst hx; simp; done)))) (by omega)) rfl ?_
    dsimp only
    refine h_no rfl ?_
    refine h_no (by simp) ?_
    have hpl_m5 := parse_len s
    refine h_call [] _ ca_script_Parse (List.Perm.refl _) (fun hl => parse_spec (s := s) (hg.plus hl) (by first | omega | (simp; omega))) ?_
    rintro v m5 ⟨A5, c5, rfl, ho5⟩
    refine ⟨getL [{ A := A5, n := (parseP s).1.length, c := c5 }, { i := (parseP s).2 }], rfl, ?_⟩
    dsimp only [getL]
    refine h_ite (fun t5 => ?_) (fun t5 => ?_)
    · have h5 : (parseP s).2 ≠ 0 := by simpa using t5
      refine h_end0 ⟨?_, rfl⟩
      rw [parse_err (l := (parseP s).1) rfl h5]
      rfl
    have h5 : parseP s = ((parseP s).1, 0) := by
      have : (parseP s).2 = 0 := by simpa using t5
      rw [← this]
    have h6 := law_back2 h5
    refine h_call0 (getL [{ s := bS s }, { i := 0 }]) ca_script_Show (fun hl => show_spec (hg.plus hl) (RdC.all hl (ho5.rd (fun x hx => by first | (simp [hx]; done) | (rw [List.mem_singleton] at hx; subst hx; simp; done))))) (by unfold showV; rw [h6]; rfl) ?_
    dsimp only [getL]
    refine h_yes rfl ?_
    exact h_end0 ⟨by simp, rfl⟩
  · have hpl_m5 := parse_len s
    refine h_call [] _ ca_script_Parse (List.Perm.refl _) (fun hl => parse_spec (s := s) (hg.plus hl) (by first | omega | (simp; omega))) ?_
    rintro v m5 ⟨A5, c5, rfl, ho5⟩
    refine ⟨getL [{ A := A5, n := (parseP s).1.length, c := c5 }, { i := (parseP s).2 }], rfl, ?_⟩
    dsimp only [getL]
    refine h_ite (fun t5 => ?_) (fun t5 => ?_)
    · have h5 : (parseP s).2 ≠ 0 := by simpa using t5
      refine h_end0 ⟨?_, rfl⟩
      rw [parse_err (l := (parseP s).1) rfl h5]
      rfl
    have h5 : parseP s = ((parseP s).1, 0) := by
      have : (parseP s).2 = 0 := by simpa using t5
      rw [← this]
    have h6 := law_back2 h5
    refine h_call0 (getL [{ s := bS s }, { i := 0 }]) ca_script_Show (fun hl => show_spec (hg.plus hl) (RdC.all hl (ho5.rd (fun x hx => by first | (simp [hx]; done) | (rw [List.mem_singleton] at hx; subst hx; simp; done))))) (by unfold showV; rw [h6]; rfl) ?_
    dsimp only [getL]
    refine h_yes rfl ?_
    exact h_end0 ⟨by simp, rfl⟩
end Go.Proofs.YtcafalcmfdnojaaDoorS
