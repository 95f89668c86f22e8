import Derived.Test.YtcafalcmfdnojaaDoorN8
import Derived.Test.YtcafalcmfdnojaaDoorTA
set_option linter.unusedVariables false
set_option maxRecDepth 20000
namespace Go.Proofs.YtcafalcmfdnojaaDoorS
open Go.RowKit
/-! The builder. -/
def bdB (b : Nat) (A0 A : Option Addr) (n c : Nat) : Nat × Obj := (b, .cells #[.pointer A0, .slice A n c] 49 (0, 0))
theorem check_spec {I : Ctx} {b : Nat} {A0 A : Option Addr} {n c : Nat} (hA : A0 = none ∨ A0 = some ⟨b, 0, none⟩) :
    Fn Tryd.prog 43 #[.pointer (some ⟨b, 0, none⟩)] I [bdB b A0 A n c] (fun v h' => v = .tuple #[] ∧ h' = [bdB b (some ⟨b, 0, none⟩) A n c]) := by
  refine ⟨ca_strings_Builder_copyCheck, fun w0 K0 w hi => ?_⟩
  have hb : w.heap[b]? = some (.cells #[.pointer A0, .slice A n c] 49 (0, 0)) := hi.own _ _ List.mem_cons_self
  rcases hA with rfl | rfl
  · refine (Any.Builder_copyCheck_fresh { Tryd.lays156 with } Tryd.Builder_Extra_156.toX72 b w (by simp [World.cell?, hb]) (by simp [World.shape?, hb]; rfl) (by simp [World.frozen?, hb])).mono fun e w' ⟨he, hw'⟩ => ?_
    refine ⟨.tuple #[], [bdB b (some ⟨b, 0, none⟩) A n c], he, ⟨rfl, rfl⟩, ?_⟩
    subst hw'
    have := hi.set (i := 0) (b := b) (o' := .cells #[.pointer (some ⟨b, 0, none⟩), .slice A n c] 49 (0, 0)) rfl (w' := w.setCell ⟨b, 0, none⟩ (.pointer (some ⟨b, 0, none⟩))) ⟨rfl, rfl, rfl, by simp [World.setCell]⟩
      (by simp [World.setCell, Array.getElem?_modify, hb]) (fun k hk => Go.RowKit.Below.heap_setCell w _ _ k hk)
    exact this
  · refine (Any.Builder_copyCheck_used { Tryd.lays156 with } Tryd.Builder_Extra_156.toX72 b w (by simp [World.cell?, hb])).mono fun e w' ⟨he, hw'⟩ => ?_
    subst hw'
    exact ⟨.tuple #[], [bdB b (some ⟨b, 0, none⟩) A n c], he, ⟨rfl, rfl⟩, hi⟩
abbrev OwnB (A : Option Addr) (c : Nat) (l : List UInt8) (m : Mem) : Prop := Own 5 1 A l.length c (bC l) m
theorem write_spec {I : Ctx} {b : Nat} {A0 A : Option Addr} {c : Nat} {l s : List UInt8} {m : Mem} (hA : A0 = none ∨ A0 = some ⟨b, 0, none⟩) (ho : OwnB A c l m) (hl : l.length + s.length ≤ 1000000000) :
    Fn Tryd.prog 23 #[.pointer (some ⟨b, 0, none⟩), .string (bS s)] I (bdB b A0 A l.length c :: m) (fun v h' => ∃ A' c' m', v = .tuple #[.int .i64 ((s.length : Nat) : Int), .nilIface] ∧ h' = bdB b (some ⟨b, 0, none⟩) A' (l ++ s).length c' :: m' ∧ OwnB A' c' (l ++ s) m') := by
  refine r_strings_Builder_WriteString _ _ ?_
  refine h_call [bdB b A0 A l.length c] m ca_strings_Builder_copyCheck (List.Perm.refl _) (fun hl => check_spec hA) ?_
  rintro v m1 ⟨rfl, rfl⟩
  refine ⟨fun _ => { }, rfl, ?_⟩
  simp only [add_plain, Nat.zero_add]
  unfold bdB
  refine ldL mq0 rfl (by kernel_rfl) ?_
  dsimp only
  refine h_appendS (cl_.aff _) eb_uint8 (by kernel_rfl) (m := m) (by repeat (first | exact Pick.here | exact Pick.one | exact Pick.all | apply Pick.two | apply Pick.cons | apply Pick.app)) ho (by omega) (by omega) ?_
  intro A' c' m' _ ho'
  dsimp only
  refine stU (by repeat (first | exact Upd.here | apply Upd.there | apply Upd.right)) (by kernel_rfl) (by rfl) (by simp [Value.cells]) ?_
  rw [bS_size]
  refine h_end (h1 := bdB b (some ⟨b, 0, none⟩) A' (l ++ s).length c' :: m') (g := []) ?_ ⟨A', c', m', rfl, rfl, ?_⟩
  · rw [List.length_append, List.append_nil]
    exact List.perm_append_comm (l₁ := m') (l₂ := [_])
  · unfold OwnB
    rw [List.length_append, show bC (l ++ s) = bC l ++ bC s by simp [bC]]
    exact ho'
theorem string_spec {I : Ctx} {b : Nat} {A0 A : Option Addr} {c : Nat} {l : List UInt8} {m : Mem} (ho : OwnB A c l m) (hn : l = [] → A = none) (hl : l.length ≤ 1000000000) :
    Fn Tryd.prog 24 #[.pointer (some ⟨b, 0, none⟩)] I (bdB b A0 A l.length c :: m) (fun v h' => v = .string (bS l) ∧ h' = []) := by
  refine r_strings_Builder_String _ ?_
  simp only [add_plain, Nat.zero_add]
  unfold bdB
  refine ldL mq0 rfl (by kernel_rfl) ?_
  dsimp only
  refine ldL mq0 rfl (by kernel_rfl) ?_
  dsimp only
  obtain ⟨ho1, ho2, ho3⟩ := ho
  rcases ho3 with ⟨rfl, rfl, rfl⟩ | ⟨g, arr, rfl, rfl, h3, h4⟩
  · have h0 : l = [] := List.eq_nil_of_length_eq_zero (by omega)
    subst h0
    refine h_sliceData (fun h => absurd rfl h) ?_
    dsimp only
    refine pn1 mq0 rfl (by kernel_rfl) ?_
    refine h_unsafeNil ?_
    exact h_end0 ⟨rfl, rfl⟩
  · have h0 : l ≠ [] := fun e => by have := hn e; cases this
    have h1 : l.length ≠ 0 := by simpa using h0
    refine h_sliceData (fun _ => by omega) ?_
    dsimp only
    refine pn1 mq0 rfl (by kernel_rfl) ?_
    refine h_unsafeString (cl_.aff _) (e := 5) (hr := [(b, .cells #[.pointer A0, .slice (some ⟨g, 0, none⟩) l.length c] 49 (0, 0))]) (by kernel_rfl) (by kernel_rfl) (List.Perm.swap _ _ _) h0 (by rw [← h4, Nat.mul_one]) (by omega) ?_
    exact h_end0 ⟨rfl, rfl⟩
theorem show_loop {I : Ctx} (hg : Glob I) {l : List It} (hl : l.length ≤ 1000) {A1 : Option Addr} {c1 : Nat} (hr : RdC I [] A1 (itCs l)) {b : Nat} : ∀ (q i : Nat) (A0 A : Option Addr) (c : Nat) (u : Nat → Value) (h m hr' : Mem), i + q = l.length → (l.take i).all may = true →
    (A0 = none ∨ A0 = some ⟨b, 0, none⟩) → OwnB A c ((l.take i).flatMap lineL) m → ((l.take i).flatMap lineL = [] → A = none) → Pick h (bdB b A0 A ((l.take i).flatMap lineL).length c :: m) hr' →
    Wp Tryd.prog 12 k_script_Show_1 (t_script_Show_1 A1 l.length c1 b (i : Nat) u) I h (cl_ fun v h' => v = showV l ∧ h' = []) := by
  intro q
  induction q with
  | zero =>
    intro i A0 A c u h m hr' hq ha hA ho hn hp
    obtain rfl : i = l.length := by omega
    rw [List.take_length] at ha ho hn hp
    have hs := lines_size ha
    refine r_script_Show_1 _ _ _ _ _ _ ?_
    refine holds_perm (cl_.aff _) hp ?_
    refine h_no (by simp) ?_
    refine h_call _ hr' ca_strings_Builder_String (List.Perm.refl _) (fun hl => string_spec ho hn (by omega)) ?_
    rintro v m1 ⟨rfl, rfl⟩
    refine ⟨fun _ => { s := bS (l.flatMap lineL) }, rfl, ?_⟩
    refine h_end0 ⟨?_, rfl⟩
    unfold showV
    rw [show_good hl ha]
  | succ q ih =>
    intro i A0 A c u h m hr' hq ha hA ho hn hp
    have hi : i < l.length := by omega
    have hb : l[i]? = some l[i] := List.getElem?_eq_getElem hi
    have hs := all_take ha hb
    generalize l[i] = x at *
    refine r_script_Show_1 _ _ _ _ _ _ ?_
    refine holds_perm (cl_.aff _) hp ?_
    refine h_yes (by simp; omega) ?_
    refine h_itemAt i (hr.sub Sub.self) hb rfl rfl fun _ => ?_
    dsimp only [getL]
    (repeat ((first | ((with_reducible show holds _ _ _ _ (.sem (Instr.alloc 35 _ _) _ _) _); refine h_alloc zb_Item_35 fun _ _ _ => ?_) | ((with_reducible show holds _ _ _ _ (.sem (Instr.alloc 49 _ _) _ _) _); refine h_alloc zb_Builder_49 fun _ _ _ => ?_) | ((with_reducible show holds _ _ _ _ (.rd (Instr.loadAt _ (.pointer _)) _ _) _); first | refine ldL (by repeat (first | exact mq0 | apply mq1 | apply mq2)) (by rfl) (by kernel_rfl) ?_ | refine la0 (by repeat (first | exact mq0 | apply mq1 | apply mq2)) (by rfl) (by kernel_rfl) ?_) | ((with_reducible show holds _ _ _ _ (.unit (Instr.storeAt _ _ _) _) _); refine stU (by repeat (first | exact Upd.here | apply Upd.there | apply Upd.right)) (by kernel_rfl) (by rfl) (by simp [Value.cells]) ?_) | ((with_reducible show holds _ _ _ _ (.pin (vN (Instr.loadAt _ _)) _ _) _); first | refine pnA (by repeat (first | exact mq0 | apply mq1 | apply mq2)) (by rfl) (by kernel_rfl) ?_ | refine pn1 (by repeat (first | exact mq0 | apply mq1 | apply mq2)) (by rfl) (by kernel_rfl) ?_)); try dsimp only [getL]))
    refine h_call [] _ ca_script_line (List.Perm.refl _) (fun hl => line_spec (hg.plus hl)) ?_
    rintro v m1 ⟨⟨s, rfl, hs2⟩, rfl⟩
    refine ⟨getL [{ s := bS s }, { b := may x }], rfl, ?_⟩
    dsimp only [getL]
    refine h_ite (fun t0 => ?_) (fun t0 => ?_)
    · refine h_end0 ⟨?_, rfl⟩
      unfold showV
      rw [show_bad hl hb (by simpa using t0)]
      rfl
    have h0 : may x = true := by simpa using t0
    obtain rfl := hs2 h0
    have h1 := lines_size ha
    have h2 := bare_len (may_ok h0)
    have h3 : (lineL x).length = (bare x).length + 1 := by unfold lineL; simp
    rw [List.length_take] at h1
    refine h_call (bdB b A0 A ((l.take i).flatMap lineL).length c :: m) _ ca_strings_Builder_WriteString (by repeat (first | exact Pick.here | exact Pick.one | exact Pick.all | apply Pick.two | apply Pick.cons | apply Pick.app)) (fun hl => write_spec hA ho (by omega)) ?_
    rintro v m1 ⟨A', c', m', rfl, rfl, ho'⟩
    refine ⟨getL [{ i := (((lineL x).length : Nat) : Int) }, { v := .nilIface }], rfl, ?_⟩
    have e : (l.take i).flatMap lineL ++ lineL x = (l.take (i + 1)).flatMap lineL := by rw [hs, List.flatMap_append]; simp
    rw [e] at ho' ⊢
    refine h_stop fun hl2 => ?_
    rw [wrapS (by omega)]
    refine ih (i + 1) (some ⟨b, 0, none⟩) A' c' _ _ m' _ (by omega) (by rw [hs, List.all_append, ha]; simp [h0]) (.inr rfl) ho' (fun h => ?_) (Pick.here)
    rw [← e] at h
    have := congrArg List.length h
    rw [List.length_append, h3] at this
    simp at this
theorem show_spec {I : Ctx} (hg : Glob I) {l : List It} {A : Option Addr} {c : Nat} (hr : RdC I [] A (itCs l)) :
    Fn Tryd.prog 12 #[.slice A l.length c] I [] (fun v h' => v = showV l ∧ h' = []) := by
  refine r_script_Show _ _ _ ?_
  ((first | ((with_reducible show holds _ _ _ _ (.sem (Instr.alloc 35 _ _) _ _) _); refine h_alloc zb_Item_35 fun _ _ _ => ?_) | ((with_reducible show holds _ _ _ _ (.sem (Instr.alloc 49 _ _) _ _) _); refine h_alloc zb_Builder_49 fun _ _ _ => ?_) | ((with_reducible show holds _ _ _ _ (.rd (Instr.loadAt _ (.pointer _)) _ _) _); first | refine ldL (by repeat (first | exact mq0 | apply mq1 | apply mq2)) (by rfl) (by kernel_rfl) ?_ | refine la0 (by repeat (first | exact mq0 | apply mq1 | apply mq2)) (by rfl) (by kernel_rfl) ?_) | ((with_reducible show holds _ _ _ _ (.unit (Instr.storeAt _ _ _) _) _); refine stU (by repeat (first | exact Upd.here | apply Upd.there | apply Upd.right)) (by kernel_rfl) (by rfl) (by simp [Value.cells]) ?_) | ((with_reducible show holds _ _ _ _ (.pin (vN (Instr.loadAt _ _)) _ _) _); first | refine pnA (by repeat (first | exact mq0 | apply mq1 | apply mq2)) (by rfl) (by kernel_rfl) ?_ | refine pn1 (by repeat (first | exact mq0 | apply mq1 | apply mq2)) (by rfl) (by kernel_rfl) ?_)); try dsimp only [getL])
  refine h_ite (fun t0 => ?_) (fun t0 => ?_)
  · refine h_end0 ⟨?_, rfl⟩
    unfold showV showP
    rw [if_pos (by simp at t0; omega)]
    rfl
  have h0 : l.length ≤ 1000 := by simp at t0; omega
  refine h_stop fun hl2 => ?_
  exact show_loop hg h0 hr l.length 0 none none 0 _ _ [] _ (by omega) rfl (.inl rfl) (Own.nil _ _) (fun _ => rfl) (by repeat (first | exact Pick.here | exact Pick.one | exact Pick.all | apply Pick.two | apply Pick.cons | apply Pick.app))
end Go.Proofs.YtcafalcmfdnojaaDoorS
