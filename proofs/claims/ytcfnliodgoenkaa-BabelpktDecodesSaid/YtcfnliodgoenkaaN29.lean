import Derived.Test.YtcfnliodgoenkaaN28
import Derived.Test.YtcfnliodgoenkaaTA
set_option linter.unusedVariables false
namespace Go.Proofs.YtcfnliodgoenkaaS
theorem qtake_spec {I : Ctx} {w : Nat} {A B : Option Addr} {c n d : Nat} {s : Dst} {m : Mem} {k : UInt8} {b : List UInt8} (ho : OwnT A c s.l m) (hs : s.ok) (hb : s.l.length ≤ 100000) (hr : RdB I B n b) (hn : n ≤ d) (hn2 : n ≤ 255) :
    Fn Try.prog 36 #[.pointer (some ⟨w, 0, none⟩), .int .u8 ((k.toNat : Nat) : Int), .slice B n d] I ((w, .cells (rqs A c s) 65 (0, 0)) :: m) (GivesQ w (takeD s k b)) := by
  have ne : ∀ j : UInt8, k ≠ j → ((((k.toNat : Nat) : Int) == ((j.toNat : Nat) : Int)) = false) := fun j hj => by
    rw [beq_eq_false_iff_ne]
    intro e
    exact hj (UInt8.toNat_inj.1 (by omega))
  refine r_octroiref06_Reader_take _ _ _ _ _ ?_
  by_cases hk : k = 4
  · rw [show ((k.toNat : Nat) : Int) = 4 by rw [hk]; rfl]
    refine h_yes (by decide) ?_
    refine h_yes (by decide) ?_
    refine h_call ([(w, .cells (rqs A c s) 65 (0, 0))] ++ m) [] ca_octroiref06_Reader_short (by simp) (fun hl => by have := qshort_spec (I := plus I []) (w := w) (k := 4) ho hs hb hr hn hn2 (by decide); exact this) ?_
    intro v h1 hg
    rw [show takeD s k b = shortD s 4 b by rw [hk]; unfold takeD; simp]
    subst hk
    generalize shortD s 4 b = o at hg ⊢
    cases o with
    | none =>
      obtain rfl := (show v = .bool false from hg)
      exact ⟨fun _ => { b := false }, rfl, h_end0 rfl⟩
    | some s' =>
      obtain ⟨rfl, hok, A', c', m', rfl, ho'⟩ := hg
      exact ⟨fun _ => { b := true }, rfl, h_end (h1 := [(w, .cells (rqs A' c' s') 65 (0, 0))] ++ m') (by repeat (first | exact Pick.here | exact Pick.one | exact Pick.all | apply Pick.two | apply Pick.cons | apply Pick.app)) ⟨rfl, hok, A', c', m', rfl, ho'⟩⟩
  by_cases hk : k = 5
  · rw [show ((k.toNat : Nat) : Int) = 5 by rw [hk]; rfl]
    refine h_no (by decide) ?_
    refine h_yes (by decide) ?_
    refine h_yes (by decide) ?_
    refine h_call ([(w, .cells (rqs A c s) 65 (0, 0))] ++ m) [] ca_octroiref06_Reader_short (by simp) (fun hl => by have := qshort_spec (I := plus I []) (w := w) (k := 5) ho hs hb hr hn hn2 (by decide); exact this) ?_
    intro v h1 hg
    rw [show takeD s k b = shortD s 5 b by rw [hk]; unfold takeD; simp]
    subst hk
    generalize shortD s 5 b = o at hg ⊢
    cases o with
    | none =>
      obtain rfl := (show v = .bool false from hg)
      exact ⟨fun _ => { b := false }, rfl, h_end0 rfl⟩
    | some s' =>
      obtain ⟨rfl, hok, A', c', m', rfl, ho'⟩ := hg
      exact ⟨fun _ => { b := true }, rfl, h_end (h1 := [(w, .cells (rqs A' c' s') 65 (0, 0))] ++ m') (by repeat (first | exact Pick.here | exact Pick.one | exact Pick.all | apply Pick.two | apply Pick.cons | apply Pick.app)) ⟨rfl, hok, A', c', m', rfl, ho'⟩⟩
  by_cases hk : k = 6
  · rw [show ((k.toNat : Nat) : Int) = 6 by rw [hk]; rfl]
    refine h_no (by decide) ?_
    refine h_no (by decide) ?_
    refine h_yes (by decide) ?_
    refine h_call ([(w, .cells (rqs A c s) 65 (0, 0))] ++ m) [] ca_octroiref06_Reader_short (by simp) (fun hl => by have := qshort_spec (I := plus I []) (w := w) (k := 6) ho hs hb hr hn hn2 (by decide); exact this) ?_
    intro v h1 hg
    rw [show takeD s k b = shortD s 6 b by rw [hk]; unfold takeD; simp]
    subst hk
    generalize shortD s 6 b = o at hg ⊢
    cases o with
    | none =>
      obtain rfl := (show v = .bool false from hg)
      exact ⟨fun _ => { b := false }, rfl, h_end0 rfl⟩
    | some s' =>
      obtain ⟨rfl, hok, A', c', m', rfl, ho'⟩ := hg
      exact ⟨fun _ => { b := true }, rfl, h_end (h1 := [(w, .cells (rqs A' c' s') 65 (0, 0))] ++ m') (by repeat (first | exact Pick.here | exact Pick.one | exact Pick.all | apply Pick.two | apply Pick.cons | apply Pick.app)) ⟨rfl, hok, A', c', m', rfl, ho'⟩⟩
  by_cases hk : k = 8
  · rw [show ((k.toNat : Nat) : Int) = 8 by rw [hk]; rfl]
    refine h_no (by decide) ?_
    refine h_no (by decide) ?_
    refine h_no (by decide) ?_
    refine h_yes (by decide) ?_
    refine h_call ([(w, .cells (rqs A c s) 65 (0, 0))] ++ m) [] ca_octroiref06_Reader_update (by simp) (fun hl => by have := qupd_spec (I := plus I []) (w := w) ho hs hb hr hn hn2; exact this) ?_
    intro v h1 hg
    rw [show takeD s k b = updD s b by rw [hk]; unfold takeD; simp]
    subst hk
    generalize updD s b = o at hg ⊢
    cases o with
    | none =>
      obtain rfl := (show v = .bool false from hg)
      exact ⟨fun _ => { b := false }, rfl, h_end0 rfl⟩
    | some s' =>
      obtain ⟨rfl, hok, A', c', m', rfl, ho'⟩ := hg
      exact ⟨fun _ => { b := true }, rfl, h_end (h1 := [(w, .cells (rqs A' c' s') 65 (0, 0))] ++ m') (by repeat (first | exact Pick.here | exact Pick.one | exact Pick.all | apply Pick.two | apply Pick.cons | apply Pick.app)) ⟨rfl, hok, A', c', m', rfl, ho'⟩⟩
  by_cases hk : k = 9
  · rw [show ((k.toNat : Nat) : Int) = 9 by rw [hk]; rfl]
    refine h_no (by decide) ?_
    refine h_no (by decide) ?_
    refine h_no (by decide) ?_
    refine h_no (by decide) ?_
    refine h_yes (by decide) ?_
    refine h_yes (by decide) ?_
    refine h_call ([(w, .cells (rqs A c s) 65 (0, 0))] ++ m) [] ca_octroiref06_Reader_ask (by simp) (fun hl => by have := qask_spec (I := plus I []) (w := w) (k := 9) ho hs hb hr hn hn2 (by decide); exact this) ?_
    intro v h1 hg
    rw [show takeD s k b = askD s 9 b by rw [hk]; unfold takeD; simp]
    subst hk
    generalize askD s 9 b = o at hg ⊢
    cases o with
    | none =>
      obtain rfl := (show v = .bool false from hg)
      exact ⟨fun _ => { b := false }, rfl, h_end0 rfl⟩
    | some s' =>
      obtain ⟨rfl, hok, A', c', m', rfl, ho'⟩ := hg
      exact ⟨fun _ => { b := true }, rfl, h_end (h1 := [(w, .cells (rqs A' c' s') 65 (0, 0))] ++ m') (by repeat (first | exact Pick.here | exact Pick.one | exact Pick.all | apply Pick.two | apply Pick.cons | apply Pick.app)) ⟨rfl, hok, A', c', m', rfl, ho'⟩⟩
  by_cases hk : k = 10
  · rw [show ((k.toNat : Nat) : Int) = 10 by rw [hk]; rfl]
    refine h_no (by decide) ?_
    refine h_no (by decide) ?_
    refine h_no (by decide) ?_
    refine h_no (by decide) ?_
    refine h_no (by decide) ?_
    refine h_yes (by decide) ?_
    refine h_call ([(w, .cells (rqs A c s) 65 (0, 0))] ++ m) [] ca_octroiref06_Reader_ask (by simp) (fun hl => by have := qask_spec (I := plus I []) (w := w) (k := 10) ho hs hb hr hn hn2 (by decide); exact this) ?_
    intro v h1 hg
    rw [show takeD s k b = askD s 10 b by rw [hk]; unfold takeD; simp]
    subst hk
    generalize askD s 10 b = o at hg ⊢
    cases o with
    | none =>
      obtain rfl := (show v = .bool false from hg)
      exact ⟨fun _ => { b := false }, rfl, h_end0 rfl⟩
    | some s' =>
      obtain ⟨rfl, hok, A', c', m', rfl, ho'⟩ := hg
      exact ⟨fun _ => { b := true }, rfl, h_end (h1 := [(w, .cells (rqs A' c' s') 65 (0, 0))] ++ m') (by repeat (first | exact Pick.here | exact Pick.one | exact Pick.all | apply Pick.two | apply Pick.cons | apply Pick.app)) ⟨rfl, hok, A', c', m', rfl, ho'⟩⟩
  rename_i k4 k5 k6 k8 k9
  refine h_no (ne 4 k4) ?_
  refine h_no (ne 5 k5) ?_
  refine h_no (ne 6 k6) ?_
  refine h_no (ne 8 k8) ?_
  refine h_no (ne 9 k9) ?_
  refine h_no (ne 10 hk) ?_
  rw [show takeD s k b = some s by unfold takeD; rw [if_neg (by simp [k4, k5, k6]), if_neg k8, if_neg (by simp [k9, hk])]]
  exact h_end (h1 := [(w, .cells (rqs A c s) 65 (0, 0))] ++ m) (by repeat (first | exact Pick.here | exact Pick.one | exact Pick.all | apply Pick.two | apply Pick.cons | apply Pick.app)) ⟨rfl, hs, A, c, m, rfl, ho⟩
theorem qdec_loop {I : Ctx} {a0 : Addr} {n0 c0 : Nat} {b : List UInt8} (hr0 : RdB I (some a0) n0 b) (hn0 : n0 ≤ c0) (hbig : n0 ≤ 90000) : ∀ (q i : Nat) (s : Dst) (y4 : Nat) (u : Nat → Value) (A : Option Addr) (c : Nat) (h m hr' : Mem),
    n0 - i ≤ q → i ≤ n0 → s.l.length ≤ i → s.ok → OwnT A c s.l m →
    Pick h ([(y4, .cells (rqs A c s) 65 (0, 0))] ++ m) hr' →
    Wp Try.prog 17 k_octroiref06_Decode_1 (t_octroiref06_Decode_1 (some a0) n0 c0 y4 i u) I h (cl_ (GivesT (finR (decD s (b.drop i))))) := by
  have hlen := hr0.len
  intro q
  induction q with
  | zero =>
    intro i s y4 u A c h m hr' hq hi hsl hs ho hp
    refine r_octroiref06_Decode_1 _ _ _ _ _ _ ?_
    refine holds_perm (cl_.aff _) (g := (y4, .cells (rqs A c s) 65 (0, 0)) :: (m ++ hr')) hp ?_
    rw [List.drop_of_length_le (by omega), decD_nil]
    refine h_no (by simp; omega) ?_
    (repeat ((first | refine h_box fun _ _ _ => ?_ | ((with_reducible show holds _ _ _ _ (.rd (Instr.loadAt _ (.pointer _)) _ _) _); first | refine ldI (by repeat (first | exact mq0 | apply mq1 | apply mq2)) (by rfl) (by kernel_rfl) ?_ | refine ldL (by repeat (first | exact mq0 | apply mq1 | apply mq2)) (by rfl) (by kernel_rfl) ?_)); try dsimp only [getL]))
    refine h_ite (fun t => ?_) (fun t => ?_)
    · rw [show finR (some s) = ([], 9) by unfold finR; simp only; rw [if_pos (by simp at t; omega)]]
      exact h_end0 ⟨none, 0, rfl, OwnT.nil⟩
    · rw [show finR (some s) = (s.l, 0) by unfold finR; simp only; rw [if_neg (by simp at t; omega)]]
      (repeat ((first | refine h_box fun _ _ _ => ?_ | ((with_reducible show holds _ _ _ _ (.rd (Instr.loadAt _ (.pointer _)) _ _) _); first | refine ldI (by repeat (first | exact mq0 | apply mq1 | apply mq2)) (by rfl) (by kernel_rfl) ?_ | refine ldL (by repeat (first | exact mq0 | apply mq1 | apply mq2)) (by rfl) (by kernel_rfl) ?_)); try dsimp only [getL]))
      exact h_end (h1 := m) (by repeat (first | exact Pick.here | exact Pick.one | exact Pick.all | apply Pick.two | apply Pick.cons | apply Pick.app)) ⟨A, c, rfl, ho⟩
  | succ q ih =>
    intro i s y4 u A c h m hr' hq hi hsl hs ho hp
    refine r_octroiref06_Decode_1 _ _ _ _ _ _ ?_
    refine holds_perm (cl_.aff _) (g := (y4, .cells (rqs A c s) 65 (0, 0)) :: (m ++ hr')) hp ?_
    refine h_ite (fun t0 => ?_) (fun t0 => ?_)
    rotate_left
    · rw [List.drop_of_length_le (by simp at t0; omega), decD_nil]
      (repeat ((first | refine h_box fun _ _ _ => ?_ | ((with_reducible show holds _ _ _ _ (.rd (Instr.loadAt _ (.pointer _)) _ _) _); first | refine ldI (by repeat (first | exact mq0 | apply mq1 | apply mq2)) (by rfl) (by kernel_rfl) ?_ | refine ldL (by repeat (first | exact mq0 | apply mq1 | apply mq2)) (by rfl) (by kernel_rfl) ?_)); try dsimp only [getL]))
      refine h_ite (fun t => ?_) (fun t => ?_)
      · rw [show finR (some s) = ([], 9) by unfold finR; simp only; rw [if_pos (by simp at t; omega)]]
        exact h_end0 ⟨none, 0, rfl, OwnT.nil⟩
      · rw [show finR (some s) = (s.l, 0) by unfold finR; simp only; rw [if_neg (by simp at t; omega)]]
        (repeat ((first | refine h_box fun _ _ _ => ?_ | ((with_reducible show holds _ _ _ _ (.rd (Instr.loadAt _ (.pointer _)) _ _) _); first | refine ldI (by repeat (first | exact mq0 | apply mq1 | apply mq2)) (by rfl) (by kernel_rfl) ?_ | refine ldL (by repeat (first | exact mq0 | apply mq1 | apply mq2)) (by rfl) (by kernel_rfl) ?_)); try dsimp only [getL]))
        exact h_end (h1 := m) (by repeat (first | exact Pick.here | exact Pick.one | exact Pick.all | apply Pick.two | apply Pick.cons | apply Pick.app)) ⟨A, c, rfl, ho⟩
    have hin : i < n0 := by simp at t0; omega
    have hw0 : IntKind.wrap .i64 (((n0 : Nat) : Int) - ((i : Nat) : Int)) = ((n0 - i : Nat) : Int) := by rw [wrap64 (by omega)]; omega
    simp only [hw0]
    refine h_ite (fun t1 => ?_) (fun t1 => ?_)
    · have h1 : (b.drop i).length = 1 := by rw [List.length_drop]; simp at t1; omega
      obtain ⟨k, hk⟩ := List.length_eq_one_iff.1 h1
      rw [hk, decD_one]
      exact h_end0 ⟨none, 0, rfl, OwnT.nil⟩
    have h2 : i + 2 ≤ n0 := by simp at t1; omega
    have hcell : ∀ j x, b[j]? = some x → CellIs I [] (a0.add j) (.int .u8 (x.toNat : Int)) := by
      obtain ⟨a, e, hc⟩ := hr0.cells (by omega)
      injection e with e; subst e; exact hc
    have hbi := byteAt_in (l := b) (i := i) (by omega)
    have hbj := byteAt_in (l := b) (i := i + 1) (by omega)
    have hsplit : b.drop i = byteAt b i :: byteAt b (i + 1) :: b.drop (i + 2) := by
      rw [List.drop_eq_getElem_cons (by omega), List.drop_eq_getElem_cons (by omega)]
      rw [List.getElem?_eq_getElem (by omega)] at hbi hbj
      injection hbi with e1; injection hbj with e2
      rw [e1, e2]
    generalize hgk : byteAt b i = k at hbi hsplit
    generalize hgn : byteAt b (i + 1) = nb at hbj hsplit
    have hnb := nb.toNat_lt
    rw [hsplit, decD_cons]
    have hrl : (b.drop (i + 2)).length = n0 - i - 2 := by rw [List.length_drop]; omega
    have hw1 : IntKind.wrap .i64 (((i : Nat) : Int) + 1) = ((i + 1 : Nat) : Int) := by rw [wrap64 (by omega)]; omega
    have hw2 : IntKind.wrap .i64 (((i : Nat) : Int) + 2) = ((i + 2 : Nat) : Int) := by rw [wrap64 (by omega)]; omega
    have hw3 : IntKind.wrap .i64 (((n0 - i : Nat) : Int) - 2) = ((n0 - i - 2 : Nat) : Int) := by rw [wrap64 (by omega)]; omega
    have hw4 : IntKind.wrap .i64 ((nb.toNat : Nat) : Int) = ((nb.toNat : Nat) : Int) := wrap64 (by omega)
    have hw5 : IntKind.wrap .i64 (((i + 2 : Nat) : Int) + ((nb.toNat : Nat) : Int)) = ((i + 2 + nb.toNat : Nat) : Int) := by rw [wrap64 (by omega)]; omega
    simp only [hw1, hw2, hw3]
    refine h_byteI (e := 5) (i + 1) ((hcell (i + 1) nb hbj).sub Sub.self) (by omega) rfl (by kernel_rfl) (by kernel_rfl) (by kernel_rfl) ?_
    dsimp only
    simp only [hw4]
    refine h_ite (fun t2 => ?_) (fun t2 => ?_)
    · rw [if_pos (by simp at t2; omega)]
      exact h_end0 ⟨none, 0, rfl, OwnT.nil⟩
    have hle : nb.toNat ≤ n0 - i - 2 := by simp at t2; omega
    rw [if_neg (by omega)]
    refine h_byteI (e := 5) (i + 1) ((hcell (i + 1) nb hbj).sub Sub.self) (by omega) rfl (by kernel_rfl) (by kernel_rfl) (by kernel_rfl) ?_
    dsimp only
    simp only [hw4, hw5]
    refine h_byteI (e := 5) i ((hcell i k hbi).sub Sub.self) (by omega) rfl (by kernel_rfl) (by kernel_rfl) (by kernel_rfl) ?_
    dsimp only
    refine h_cut (e := 5) (sz := 1) (i + 2) (i + 2 + nb.toNat) c0 (by kernel_rfl) (by kernel_rfl) rfl rfl rfl (by simp) (by omega) (by omega) (by omega) ?_
    dsimp only
    rw [show i + 2 + nb.toNat - (i + 2) = nb.toNat by omega]
    have hseg : RdB I (cutA (some a0) (i + 2) c0 1) nb.toNat ((b.drop (i + 2)).take nb.toNat) := hr0.seg (i := i + 2) (k := nb.toNat) (by omega) hn0
    refine h_call ([(y4, .cells (rqs A c s) 65 (0, 0))] ++ m) hr' ca_octroiref06_Reader_take (by simp) (fun hl => qtake_spec (w := y4) (k := k) ho hs (by omega) (hseg.up (upR hl (hc := [(y4, .cells (rqs A c s) 65 (0, 0))] ++ m) (by simp))) (by omega) (by omega)) ?_
    intro v h1 hg
    have htl : ∀ s', takeD s k ((b.drop (i + 2)).take nb.toNat) = some s' → s'.l.length ≤ s.l.length + 1 := fun s' h => takeD_len h
    generalize takeD s k ((b.drop (i + 2)).take nb.toNat) = o at hg htl ⊢
    cases o with
    | none =>
      obtain rfl := (show v = .bool false from hg)
      refine ⟨fun _ => { b := false }, rfl, ?_⟩
      dsimp only
      refine h_yes rfl ?_
      exact h_end0 ⟨none, 0, rfl, OwnT.nil⟩
    | some s' =>
      obtain ⟨rfl, hok, A', c', m', rfl, ho'⟩ := hg
      have hs' := htl s' rfl
      refine ⟨fun _ => { b := true }, rfl, ?_⟩
      dsimp only
      refine h_no rfl ?_
      refine h_stop fun hl2 => ?_
      show Wp _ _ _ _ _ _ (cl_ (GivesT (finR (decD s' ((b.drop (i + 2)).drop nb.toNat)))))
      rw [List.drop_drop]
      exact ih (i + 2 + nb.toNat) s' y4 _ A' c' _ m' _ (by omega) (by omega) (by omega) hok ho' (by repeat (first | exact Pick.here | exact Pick.one | exact Pick.all | apply Pick.two | apply Pick.cons | apply Pick.app))
theorem qdecode_spec {I : Ctx} {A : Option Addr} {n c : Nat} {b : List UInt8} (hr : RdB I A n b) (hn : n ≤ c) (hbig : n ≤ 90000) : Fn Try.prog 17 #[.slice A n c] I [] (GivesT (decR b)) := by
  have hlen := hr.len
  refine r_octroiref06_Decode _ _ _ ?_
  refine h_ite (fun t0 => ?_) (fun t0 => ?_)
  · rw [show decR b = ([], 2) by unfold decR; rw [if_pos (by simp at t0; omega)]]
    exact h_end0 ⟨none, 0, rfl, OwnT.nil⟩
  have b0 : ¬ b.length < 4 := by simp at t0; omega
  obtain ⟨a, rfl, hcell⟩ := hr.cells (by omega)
  refine h_byteI (e := 5) 0 ((hcell 0 _ (byteAt_in (by omega))).sub Sub.self) (by omega) rfl (by kernel_rfl) (by kernel_rfl) (by kernel_rfl) ?_
  dsimp only
  refine h_ite (fun t1 => ?_) (fun t1 => ?_)
  · rw [show decR b = ([], 2) by unfold decR; rw [if_neg b0, if_pos (by intro e; rw [e] at t1; simp at t1)]]
    exact h_end0 ⟨none, 0, rfl, OwnT.nil⟩
  have b1 : byteAt b 0 = 42 := by rw [← UInt8.toNat_inj]; show _ = 42; simp at t1; omega
  refine h_byteI (e := 5) 1 ((hcell 1 _ (byteAt_in (by omega))).sub Sub.self) (by omega) rfl (by kernel_rfl) (by kernel_rfl) (by kernel_rfl) ?_
  dsimp only
  refine h_ite (fun t2 => ?_) (fun t2 => ?_)
  · rw [show decR b = ([], 2) by unfold decR; rw [if_neg b0, if_neg (by simp [b1]), if_pos (by intro e; rw [e] at t2; simp at t2)]]
    exact h_end0 ⟨none, 0, rfl, OwnT.nil⟩
  have b2 : byteAt b 1 = 2 := by rw [← UInt8.toNat_inj]; show _ = 2; simp at t2; omega
  refine h_call0 (fun _ => { i := (num b 2 2 : Nat) }) ca_octroiref06_num2 (fun hl => rnum2_in (i := 2) (hr.up (Sub.self.up hl)) hn (by unfold maxLen; omega) (by omega)) rfl ?_
  dsimp only
  have hw : IntKind.wrap .i64 (((n : Nat) : Int) - 4) = ((b.length - 4 : Nat) : Int) := by rw [wrap64 (by omega)]; omega
  rw [hw]
  refine h_ite (fun t3 => ?_) (fun t3 => ?_)
  · rw [show decR b = ([], 2) by unfold decR; rw [if_neg b0, if_neg (by simp [b1]), if_neg (by simp [b2]), if_pos (by simp at t3; omega)]]
    exact h_end0 ⟨none, 0, rfl, OwnT.nil⟩
  have b3 : num b 2 2 = b.length - 4 := by simp at t3; omega
  rw [decR_fin b0 b1 b2 b3]
  (repeat ((first | refine h_box fun _ _ _ => ?_ | ((with_reducible show holds _ _ _ _ (.rd (Instr.loadAt _ (.pointer _)) _ _) _); first | refine ldI (by repeat (first | exact mq0 | apply mq1 | apply mq2)) (by rfl) (by kernel_rfl) ?_ | refine ldL (by repeat (first | exact mq0 | apply mq1 | apply mq2)) (by rfl) (by kernel_rfl) ?_)); try dsimp only [getL]))
  refine h_stop fun hl2 => ?_
  exact qdec_loop hr hn hbig n 4 zeroD _ _ none 0 _ [] _ (by omega) (by omega) (by simp [zeroD]) ⟨by decide, by decide⟩ OwnT.nil (by repeat (first | exact Pick.here | exact Pick.one | exact Pick.all | apply Pick.two | apply Pick.cons | apply Pick.app))
theorem law_BabelpktDecodes {J : Ctx} {A : Option Addr} {c : Nat} {b : List UInt8} (hr : RdB J A b.length b) (hn : b.length ≤ c) :
    Fn Try.prog 6 #[.slice A b.length c] J [] (fun v h' => v = .bool true ∧ h' = []) := by
  refine r_octroilaw06_BabelpktDecodes _ _ _ ?_
  refine h_call0 (fun _ => { b := true }) ca_octroilaw06_awake (fun hl => bawake_spec) rfl ?_
  refine h_ite (fun h0 => h_end0 ⟨rfl, rfl⟩) (fun b1 => ?_)
  have b1 : b.length ≤ 3000 := by simp at b1; omega
  refine h_call [] _ ca_babelpkt_Decode (List.Perm.refl _) (fun hl => bdecode_spec (hr.up (Sub.self.up hl)) hn (by unfold maxLen; omega)) ?_
  rintro v m2 ⟨X2, x2, rfl, ho2⟩
  refine ⟨getL [{ A := X2, n := (decR b).1.length, c := x2 }, { i := (decR b).2 }], rfl, ?_⟩
  dsimp only [getL]
  refine h_call [] _ ca_octroiref06_Decode (List.Perm.refl _) (fun hl => qdecode_spec (hr.up (Sub.self.up hl)) hn (by omega)) ?_
  rintro v m3 ⟨X3, x3, rfl, ho3⟩
  refine ⟨getL [{ A := X3, n := (decR b).1.length, c := x3 }, { i := (decR b).2 }], rfl, ?_⟩
  dsimp only [getL]
  have hdl : (decR b).1.length ≤ 100 := by
    by_cases h : (decR b).2 = 0
    · have := (decR_ok h).1; omega
    · rw [decR_err h]; simp
  refine h_call [] _ ca_octroiref06_Same (List.Perm.refl _) (fun hl => tsame_spec (ho2.tlvs hl (fun x hx => by first | (simp [hx]; done) | (rw [List.mem_singleton] at hx; subst hx; simp; done))) (ho3.tlvs hl (fun x hx => by first | (simp [hx]; done) | (rw [List.mem_singleton] at hx; subst hx; simp; done))) (by omega)) ?_
  rintro v m9 ⟨⟨b9, rfl, hb9⟩, rfl⟩
  refine ⟨fun _ => { b := b9 }, rfl, ?_⟩
  dsimp only
  rw [hb9.2 rfl]
  refine h_yes rfl ?_
  refine h_yes rfl ?_
  exact h_end0 ⟨by simp, rfl⟩
theorem row_BabelpktDecodes {J : Ctx} {v : Value} {l : List UInt8} (s : ∃ a n c, v = .slice a n c) (h : elBy J l v.cells.toList) :
    Fn Try.prog 6 #[v] J [] (fun v h' => v = .bool true ∧ h' = []) := by
  obtain ⟨A, c, rfl, hr, hn, _⟩ := by_form s h
  exact law_BabelpktDecodes hr hn
end Go.Proofs.YtcfnliodgoenkaaS
