import Derived.Test.YtcfnliodgoenkaaN18
import Derived.Test.YtcfnliodgoenkaaTA
set_option linter.unusedVariables false
namespace Go.Proofs.YtcfnliodgoenkaaS
theorem upR {I : Ctx} {h hc hr : Mem} (hl : Live I h) (hp : h.Perm (hc ++ hr)) : ∀ b o, I b = some o → plus I hr b = some o := fun b o hb => by
  rw [plus_of (fun hk => hl.ctx hb ((keys_perm hp).mem_iff.2 (by rw [keys_append]; exact List.mem_append_right _ hk)))]; exact hb
theorem rtake_spec {I : Ctx} {w : Nat} {A B : Option Addr} {c n d : Nat} {s : Dst} {m : Mem} {k : UInt8} {b : List UInt8} (ho : OwnT A c s.l m) (hs : s.ok) (hb : s.l.length ≤ 100000) (hr : RdB I B n b) (hn : n ≤ d) (hn2 : n ≤ 255) :
    Fn Try.prog 34 #[.pointer (some ⟨w, 0, none⟩), .int .u8 ((k.toNat : Nat) : Int), .slice B n d] I ((w, .cells (rcs A c s) 61 (0, 0)) :: m) (GivesR w (takeD s k b)) := by
  have ne : ∀ j : UInt8, k ≠ j → ((((k.toNat : Nat) : Int) == ((j.toNat : Nat) : Int)) = false) := fun j hj => by
    rw [beq_eq_false_iff_ne]
    intro e
    exact hj (UInt8.toNat_inj.1 (by omega))
  refine r_babelpkt_reader_take _ _ _ _ _ ?_
  by_cases hk : k = 4
  · rw [show ((k.toNat : Nat) : Int) = 4 by rw [hk]; rfl]
    refine h_yes (by decide) ?_
    refine h_yes (by decide) ?_
    refine h_call ([(w, .cells (rcs A c s) 61 (0, 0))] ++ m) [] ca_babelpkt_reader_short (by simp) (fun hl => by have := rshort_spec (I := plus I []) (w := w) (k := 4) ho hs hb hr hn hn2 (by decide); exact this) ?_
    intro v h1 hg
    rw [show takeD s k b = shortD s 4 b by rw [hk]; unfold takeD; simp]
    subst hk
    generalize shortD s 4 b = o at hg ⊢
    cases o with
    | none =>
      obtain rfl := (show v = .bool false from hg)
      exact ⟨fun _ => { b := false }, rfl, h_end0 rfl⟩
    | some s' =>
      obtain ⟨rfl, hok, A', c', m', rfl, ho'⟩ := hg
      exact ⟨fun _ => { b := true }, rfl, h_end (h1 := [(w, .cells (rcs A' c' s') 61 (0, 0))] ++ m') (by repeat (first | exact Pick.here | exact Pick.one | exact Pick.all | apply Pick.two | apply Pick.cons | apply Pick.app)) ⟨rfl, hok, A', c', m', rfl, ho'⟩⟩
  by_cases hk : k = 5
  · rw [show ((k.toNat : Nat) : Int) = 5 by rw [hk]; rfl]
    refine h_no (by decide) ?_
    refine h_yes (by decide) ?_
    refine h_yes (by decide) ?_
    refine h_call ([(w, .cells (rcs A c s) 61 (0, 0))] ++ m) [] ca_babelpkt_reader_short (by simp) (fun hl => by have := rshort_spec (I := plus I []) (w := w) (k := 5) ho hs hb hr hn hn2 (by decide); exact this) ?_
    intro v h1 hg
    rw [show takeD s k b = shortD s 5 b by rw [hk]; unfold takeD; simp]
    subst hk
    generalize shortD s 5 b = o at hg ⊢
    cases o with
    | none =>
      obtain rfl := (show v = .bool false from hg)
      exact ⟨fun _ => { b := false }, rfl, h_end0 rfl⟩
    | some s' =>
      obtain ⟨rfl, hok, A', c', m', rfl, ho'⟩ := hg
      exact ⟨fun _ => { b := true }, rfl, h_end (h1 := [(w, .cells (rcs A' c' s') 61 (0, 0))] ++ m') (by repeat (first | exact Pick.here | exact Pick.one | exact Pick.all | apply Pick.two | apply Pick.cons | apply Pick.app)) ⟨rfl, hok, A', c', m', rfl, ho'⟩⟩
  by_cases hk : k = 6
  · rw [show ((k.toNat : Nat) : Int) = 6 by rw [hk]; rfl]
    refine h_no (by decide) ?_
    refine h_no (by decide) ?_
    refine h_yes (by decide) ?_
    refine h_call ([(w, .cells (rcs A c s) 61 (0, 0))] ++ m) [] ca_babelpkt_reader_short (by simp) (fun hl => by have := rshort_spec (I := plus I []) (w := w) (k := 6) ho hs hb hr hn hn2 (by decide); exact this) ?_
    intro v h1 hg
    rw [show takeD s k b = shortD s 6 b by rw [hk]; unfold takeD; simp]
    subst hk
    generalize shortD s 6 b = o at hg ⊢
    cases o with
    | none =>
      obtain rfl := (show v = .bool false from hg)
      exact ⟨fun _ => { b := false }, rfl, h_end0 rfl⟩
    | some s' =>
      obtain ⟨rfl, hok, A', c', m', rfl, ho'⟩ := hg
      exact ⟨fun _ => { b := true }, rfl, h_end (h1 := [(w, .cells (rcs A' c' s') 61 (0, 0))] ++ m') (by repeat (first | exact Pick.here | exact Pick.one | exact Pick.all | apply Pick.two | apply Pick.cons | apply Pick.app)) ⟨rfl, hok, A', c', m', rfl, ho'⟩⟩
  by_cases hk : k = 8
  · rw [show ((k.toNat : Nat) : Int) = 8 by rw [hk]; rfl]
    refine h_no (by decide) ?_
    refine h_no (by decide) ?_
    refine h_no (by decide) ?_
    refine h_yes (by decide) ?_
    refine h_call ([(w, .cells (rcs A c s) 61 (0, 0))] ++ m) [] ca_babelpkt_reader_update (by simp) (fun hl => by have := rupd_spec (I := plus I []) (w := w) ho hs hb hr hn hn2; exact this) ?_
    intro v h1 hg
    rw [show takeD s k b = updD s b by rw [hk]; unfold takeD; simp]
    subst hk
    generalize updD s b = o at hg ⊢
    cases o with
    | none =>
      obtain rfl := (show v = .bool false from hg)
      exact ⟨fun _ => { b := false }, rfl, h_end0 rfl⟩
    | some s' =>
      obtain ⟨rfl, hok, A', c', m', rfl, ho'⟩ := hg
      exact ⟨fun _ => { b := true }, rfl, h_end (h1 := [(w, .cells (rcs A' c' s') 61 (0, 0))] ++ m') (by repeat (first | exact Pick.here | exact Pick.one | exact Pick.all | apply Pick.two | apply Pick.cons | apply Pick.app)) ⟨rfl, hok, A', c', m', rfl, ho'⟩⟩
  by_cases hk : k = 9
  · rw [show ((k.toNat : Nat) : Int) = 9 by rw [hk]; rfl]
    refine h_no (by decide) ?_
    refine h_no (by decide) ?_
    refine h_no (by decide) ?_
    refine h_no (by decide) ?_
    refine h_yes (by decide) ?_
    refine h_yes (by decide) ?_
    refine h_call ([(w, .cells (rcs A c s) 61 (0, 0))] ++ m) [] ca_babelpkt_reader_asks (by simp) (fun hl => by have := rasks_spec (I := plus I []) (w := w) (k := 9) ho hs hb hr hn hn2 (by decide); exact this) ?_
    intro v h1 hg
    rw [show takeD s k b = askD s 9 b by rw [hk]; unfold takeD; simp]
    subst hk
    generalize askD s 9 b = o at hg ⊢
    cases o with
    | none =>
      obtain rfl := (show v = .bool false from hg)
      exact ⟨fun _ => { b := false }, rfl, h_end0 rfl⟩
    | some s' =>
      obtain ⟨rfl, hok, A', c', m', rfl, ho'⟩ := hg
      exact ⟨fun _ => { b := true }, rfl, h_end (h1 := [(w, .cells (rcs A' c' s') 61 (0, 0))] ++ m') (by repeat (first | exact Pick.here | exact Pick.one | exact Pick.all | apply Pick.two | apply Pick.cons | apply Pick.app)) ⟨rfl, hok, A', c', m', rfl, ho'⟩⟩
  by_cases hk : k = 10
  · rw [show ((k.toNat : Nat) : Int) = 10 by rw [hk]; rfl]
    refine h_no (by decide) ?_
    refine h_no (by decide) ?_
    refine h_no (by decide) ?_
    refine h_no (by decide) ?_
    refine h_no (by decide) ?_
    refine h_yes (by decide) ?_
    refine h_call ([(w, .cells (rcs A c s) 61 (0, 0))] ++ m) [] ca_babelpkt_reader_asks (by simp) (fun hl => by have := rasks_spec (I := plus I []) (w := w) (k := 10) ho hs hb hr hn hn2 (by decide); exact this) ?_
    intro v h1 hg
    rw [show takeD s k b = askD s 10 b by rw [hk]; unfold takeD; simp]
    subst hk
    generalize askD s 10 b = o at hg ⊢
    cases o with
    | none =>
      obtain rfl := (show v = .bool false from hg)
      exact ⟨fun _ => { b := false }, rfl, h_end0 rfl⟩
    | some s' =>
      obtain ⟨rfl, hok, A', c', m', rfl, ho'⟩ := hg
      exact ⟨fun _ => { b := true }, rfl, h_end (h1 := [(w, .cells (rcs A' c' s') 61 (0, 0))] ++ m') (by repeat (first | exact Pick.here | exact Pick.one | exact Pick.all | apply Pick.two | apply Pick.cons | apply Pick.app)) ⟨rfl, hok, A', c', m', rfl, ho'⟩⟩
  rename_i k4 k5 k6 k8 k9
  refine h_no (ne 4 k4) ?_
  refine h_no (ne 5 k5) ?_
  refine h_no (ne 6 k6) ?_
  refine h_no (ne 8 k8) ?_
  refine h_no (ne 9 k9) ?_
  refine h_no (ne 10 hk) ?_
  rw [show takeD s k b = some s by unfold takeD; rw [if_neg (by simp [k4, k5, k6]), if_neg k8, if_neg (by simp [k9, hk])]]
  exact h_end (h1 := [(w, .cells (rcs A c s) 61 (0, 0))] ++ m) (by repeat (first | exact Pick.here | exact Pick.one | exact Pick.all | apply Pick.two | apply Pick.cons | apply Pick.app)) ⟨rfl, hs, A, c, m, rfl, ho⟩
theorem shortD_len {s s' : Dst} {k : UInt8} {b : List UInt8} (h : shortD s k b = some s') : s'.l.length ≤ s.l.length + 1 := by
  unfold shortD at h
  repeat' (split at h)
  all_goals first
    | (cases h; done)
    | (injection h with h; subst h; simp [Dst.add]; done)
theorem askD_len {s s' : Dst} {k : UInt8} {b : List UInt8} (h : askD s k b = some s') : s'.l.length ≤ s.l.length + 1 := by
  unfold askD at h
  repeat' (split at h)
  all_goals first
    | (cases h; done)
    | (injection h with h; subst h; simp [Dst.add]; done)
theorem no_if {c : Prop} [Decidable c] {x : Option Dst} {s' : Dst} (h : (if c then none else x) = some s') : ¬ c ∧ x = some s' := by
  by_cases hc : c
  · rw [if_pos hc] at h; cases h
  · rw [if_neg hc] at h; exact ⟨hc, h⟩
theorem updD_len {s s' : Dst} {b : List UInt8} (h : updD s b = some s') : s'.l.length ≤ s.l.length + 1 := by
  unfold updD at h
  have h := (no_if (no_if (no_if (no_if (no_if (no_if (no_if (no_if h).2).2).2).2).2).2).2).2
  by_cases h1 : b.length = 10 + newD b
  · rw [if_pos h1] at h; injection h with h; subst h; simp [updN]
  · rw [if_neg h1] at h
    have h := (no_if (no_if (no_if (no_if h).2).2).2).2
    injection h with h; subst h; simp [updN]
theorem takeD_len {s s' : Dst} {k : UInt8} {b : List UInt8} (h : takeD s k b = some s') : s'.l.length ≤ s.l.length + 1 := by
  unfold takeD at h
  by_cases h1 : k = 4 ∨ k = 5 ∨ k = 6
  · rw [if_pos h1] at h; exact shortD_len h
  rw [if_neg h1] at h
  by_cases h2 : k = 8
  · rw [if_pos h2] at h; exact updD_len h
  rw [if_neg h2] at h
  by_cases h3 : k = 9 ∨ k = 10
  · rw [if_pos h3] at h; exact askD_len h
  rw [if_neg h3] at h
  injection h with h; subst h; omega
def finR (o : Option Dst) : List Tlv × Int :=
  match o with
  | none => ([], 2)
  | some s => if 40 < s.l.length then ([], 9) else (s.l, 0)
abbrev GivesT (r : List Tlv × Int) (v : Value) (h' : Mem) : Prop := ∃ A c, v = .tuple #[.slice A r.1.length c, .int .i64 r.2] ∧ OwnT A c r.1 h'
theorem bdec_loop {I : Ctx} : ∀ (q : Nat) (l : List UInt8) (s : Dst) (y4 : Nat) (A0 : Option Addr) (n0 c0 : Nat) (u : Nat → Value) (A : Option Addr) (c : Nat) (h m hr' : Mem),
    l.length ≤ q → RdB I A0 n0 l → n0 ≤ c0 → s.l.length + l.length ≤ 100000 → s.ok → OwnT A c s.l m →
    Pick h ([(y4, .cells (rcs A c s) 61 (0, 0))] ++ m) hr' →
    Wp Try.prog 16 k_babelpkt_Decode_2 (t_babelpkt_Decode_2 y4 A0 n0 c0 u) I h (cl_ (GivesT (finR (decD s l)))) := by
  intro q
  induction q with
  | zero =>
    intro l s y4 A0 n0 c0 u A c h m hr' hlq hr0 hn0 hbig hs ho hp
    obtain rfl : l = [] := List.length_eq_zero_iff.1 (by omega)
    refine r_babelpkt_Decode_2 _ _ _ _ _ ?_
    refine holds_perm (cl_.aff _) (g := (y4, .cells (rcs A c s) 61 (0, 0)) :: (m ++ hr')) hp ?_
    have hl0 := hr0.len
    have h0 : n0 = 0 := by simpa using hl0.symm
    rw [decD_nil]
    refine h_yes (by simp [h0]) ?_
    (repeat ((first | ((with_reducible show holds _ _ _ _ (.rd (Instr.loadAt _ (.pointer _)) _ _) _); first | refine ldI (by repeat (first | exact mq0 | apply mq1 | apply mq2)) (by rfl) (by kernel_rfl) ?_ | refine ldL (by repeat (first | exact mq0 | apply mq1 | apply mq2)) (by rfl) (by kernel_rfl) ?_)); try dsimp only [getL]))
    refine h_ite (fun t => ?_) (fun t => ?_)
    · rw [show finR (some s) = ([], 9) by unfold finR; simp only; rw [if_pos (by simp at t; omega)]]
      exact h_end0 ⟨none, 0, rfl, OwnT.nil⟩
    · rw [show finR (some s) = (s.l, 0) by unfold finR; simp only; rw [if_neg (by simp at t; omega)]]
      refine h_yes (by simp [h0]) ?_
      (repeat ((first | ((with_reducible show holds _ _ _ _ (.rd (Instr.loadAt _ (.pointer _)) _ _) _); first | refine ldI (by repeat (first | exact mq0 | apply mq1 | apply mq2)) (by rfl) (by kernel_rfl) ?_ | refine ldL (by repeat (first | exact mq0 | apply mq1 | apply mq2)) (by rfl) (by kernel_rfl) ?_)); try dsimp only [getL]))
      exact h_end (h1 := m) (by repeat (first | exact Pick.here | exact Pick.one | exact Pick.all | apply Pick.two | apply Pick.cons | apply Pick.app)) ⟨A, c, rfl, ho⟩
  | succ q ih =>
    intro l s y4 A0 n0 c0 u A c h m hr' hlq hr0 hn0 hbig hs ho hp
    refine r_babelpkt_Decode_2 _ _ _ _ _ ?_
    refine holds_perm (cl_.aff _) (g := (y4, .cells (rcs A c s) 61 (0, 0)) :: (m ++ hr')) hp ?_
    have hl0 := hr0.len
    cases l with
    | nil =>
      have h0 : n0 = 0 := by simpa using hl0.symm
      rw [decD_nil]
      refine h_yes (by simp [h0]) ?_
      (repeat ((first | ((with_reducible show holds _ _ _ _ (.rd (Instr.loadAt _ (.pointer _)) _ _) _); first | refine ldI (by repeat (first | exact mq0 | apply mq1 | apply mq2)) (by rfl) (by kernel_rfl) ?_ | refine ldL (by repeat (first | exact mq0 | apply mq1 | apply mq2)) (by rfl) (by kernel_rfl) ?_)); try dsimp only [getL]))
      refine h_ite (fun t => ?_) (fun t => ?_)
      · rw [show finR (some s) = ([], 9) by unfold finR; simp only; rw [if_pos (by simp at t; omega)]]
        exact h_end0 ⟨none, 0, rfl, OwnT.nil⟩
      · rw [show finR (some s) = (s.l, 0) by unfold finR; simp only; rw [if_neg (by simp at t; omega)]]
        refine h_yes (by simp [h0]) ?_
        (repeat ((first | ((with_reducible show holds _ _ _ _ (.rd (Instr.loadAt _ (.pointer _)) _ _) _); first | refine ldI (by repeat (first | exact mq0 | apply mq1 | apply mq2)) (by rfl) (by kernel_rfl) ?_ | refine ldL (by repeat (first | exact mq0 | apply mq1 | apply mq2)) (by rfl) (by kernel_rfl) ?_)); try dsimp only [getL]))
        exact h_end (h1 := m) (by repeat (first | exact Pick.here | exact Pick.one | exact Pick.all | apply Pick.two | apply Pick.cons | apply Pick.app)) ⟨A, c, rfl, ho⟩
    | cons k l1 =>
      cases l1 with
      | nil =>
        have h0 : n0 = 1 := by simpa using hl0.symm
        rw [decD_one]
        refine h_no (by simp [h0]) ?_
        refine h_no (by simp [h0]) ?_
        refine h_yes (by simp [h0]) ?_
        exact h_end0 ⟨none, 0, rfl, OwnT.nil⟩
      | cons nb r =>
        have h0 : n0 = r.length + 2 := by simpa using hl0.symm
        have hnb := nb.toNat_lt
        have hbig2 : s.l.length + (r.length + 2) ≤ 100000 := by simpa using hbig
        refine h_no (by simp; omega) ?_
        refine h_no (by simp; omega) ?_
        refine h_no (by simp; omega) ?_
        obtain ⟨a, rfl, hcell⟩ := hr0.cells (by omega)
        rw [decD_cons]
        refine h_byteI (e := 5) 1 ((hcell 1 nb rfl).sub Sub.self) (by omega) rfl (by kernel_rfl) (by kernel_rfl) (by kernel_rfl) ?_
        dsimp only
        have hw1 : IntKind.wrap .i64 ((nb.toNat : Nat) : Int) = ((nb.toNat : Nat) : Int) := wrap64 (by omega)
        have hw2 : IntKind.wrap .i64 (((n0 : Nat) : Int) - 2) = ((r.length : Nat) : Int) := by rw [wrap64 (by omega)]; omega
        have hw3 : IntKind.wrap .i64 (2 + ((nb.toNat : Nat) : Int)) = ((2 + nb.toNat : Nat) : Int) := by rw [wrap64 (by omega)]; omega
        simp only [hw1, hw2, hw3]
        refine h_ite (fun t => ?_) (fun t => ?_)
        · rw [if_pos (by simp at t; omega)]
          exact h_end0 ⟨none, 0, rfl, OwnT.nil⟩
        have hle : nb.toNat ≤ r.length := by simp at t; omega
        rw [if_neg (by omega)]
        refine h_byteI (e := 5) 0 ((hcell 0 k rfl).sub Sub.self) (by omega) rfl (by kernel_rfl) (by kernel_rfl) (by kernel_rfl) ?_
        dsimp only
        refine h_byteI (e := 5) 1 ((hcell 1 nb rfl).sub Sub.self) (by omega) rfl (by kernel_rfl) (by kernel_rfl) (by kernel_rfl) ?_
        dsimp only
        simp only [hw1, hw3]
        refine h_cut (e := 5) (sz := 1) 2 (2 + nb.toNat) c0 (by kernel_rfl) (by kernel_rfl) rfl rfl rfl (by simp) (by omega) (by omega) (by omega) ?_
        dsimp only
        rw [show 2 + nb.toNat - 2 = nb.toNat by omega]
        have hseg : RdB I (cutA (some a) 2 c0 1) nb.toNat (r.take nb.toNat) := hr0.seg (i := 2) (k := nb.toNat) (by omega) hn0
        refine h_call ([(y4, .cells (rcs A c s) 61 (0, 0))] ++ m) hr' ca_babelpkt_reader_take (by simp) (fun hl => rtake_spec (w := y4) (k := k) ho hs (by omega) (hseg.up (upR hl (hc := [(y4, .cells (rcs A c s) 61 (0, 0))] ++ m) (by simp))) (by omega) (by omega)) ?_
        intro v h1 hg
        have htl : ∀ s', takeD s k (r.take nb.toNat) = some s' → s'.l.length ≤ s.l.length + 1 := fun s' h => takeD_len h
        generalize takeD s k (r.take nb.toNat) = o at hg htl ⊢
        cases o with
        | none =>
          obtain rfl := (show v = .bool false from hg)
          refine ⟨fun _ => { b := false }, rfl, ?_⟩
          dsimp only
          refine h_yes rfl ?_
          exact h_end0 ⟨none, 0, rfl, OwnT.nil⟩
        | some s' =>
          obtain ⟨rfl, hok, A', c', m', rfl, ho'⟩ := hg
          have hs' := htl s' rfl
          refine ⟨fun _ => { b := true }, rfl, ?_⟩
          dsimp only
          refine h_no rfl ?_
          refine h_byteI (e := 5) 1 ((hcell 1 nb rfl).sub Sub.self) (by omega) rfl (by kernel_rfl) (by kernel_rfl) (by kernel_rfl) ?_
          dsimp only
          simp only [hw1, hw3]
          refine h_cut (e := 5) (sz := 1) (2 + nb.toNat) n0 c0 (by kernel_rfl) (by kernel_rfl) rfl rfl rfl (by simp) (by omega) (by omega) (by omega) ?_
          dsimp only
          refine h_stop fun hl2 => ?_
          have hrest := hr0.rest (i := 2 + nb.toNat) (by omega) hn0
          rw [show (k :: nb :: r).drop (2 + nb.toNat) = r.drop nb.toNat by rw [Nat.add_comm]; rfl] at hrest
          show Wp _ _ _ _ _ _ (cl_ (GivesT (finR (decD s' (r.drop nb.toNat)))))
          exact ih (r.drop nb.toNat) s' y4 _ _ _ _ A' c' _ m' _ (by simp at hlq ⊢; omega) hrest (by omega) (by simp; omega) hok ho' (by repeat (first | exact Pick.here | exact Pick.one | exact Pick.all | apply Pick.two | apply Pick.cons | apply Pick.app))
theorem bdec_one {I : Ctx} (l : List UInt8) (s : Dst) (y4 : Nat) (A0 : Option Addr) (n0 c0 : Nat) (u : Nat → Value) (A : Option Addr) (c : Nat) (h m hr' : Mem)
    (hr0 : RdB I A0 n0 l) (hn0 : n0 ≤ c0) (hbig : s.l.length + l.length ≤ 100000) (hs : s.ok) (ho : OwnT A c s.l m)
    (hp : Pick h ([(y4, .cells (rcs A c s) 61 (0, 0))] ++ m) hr') :
    Wp Try.prog 16 k_babelpkt_Decode_1 (t_babelpkt_Decode_1 y4 A0 n0 c0 u) I h (cl_ (GivesT (finR (decD s l)))) := by
  refine r_babelpkt_Decode_1 _ _ _ _ _ ?_
  refine holds_perm (cl_.aff _) (g := (y4, .cells (rcs A c s) 61 (0, 0)) :: (m ++ hr')) hp ?_
  have hl0 := hr0.len
  cases l with
  | nil =>
    have h0 : n0 = 0 := by simpa using hl0.symm
    rw [decD_nil]
    refine h_yes (by simp [h0]) ?_
    (repeat ((first | ((with_reducible show holds _ _ _ _ (.rd (Instr.loadAt _ (.pointer _)) _ _) _); first | refine ldI (by repeat (first | exact mq0 | apply mq1 | apply mq2)) (by rfl) (by kernel_rfl) ?_ | refine ldL (by repeat (first | exact mq0 | apply mq1 | apply mq2)) (by rfl) (by kernel_rfl) ?_)); try dsimp only [getL]))
    refine h_ite (fun t => ?_) (fun t => ?_)
    · rw [show finR (some s) = ([], 9) by unfold finR; simp only; rw [if_pos (by simp at t; omega)]]
      exact h_end0 ⟨none, 0, rfl, OwnT.nil⟩
    · rw [show finR (some s) = (s.l, 0) by unfold finR; simp only; rw [if_neg (by simp at t; omega)]]
      refine h_yes (by simp [h0]) ?_
      (repeat ((first | ((with_reducible show holds _ _ _ _ (.rd (Instr.loadAt _ (.pointer _)) _ _) _); first | refine ldI (by repeat (first | exact mq0 | apply mq1 | apply mq2)) (by rfl) (by kernel_rfl) ?_ | refine ldL (by repeat (first | exact mq0 | apply mq1 | apply mq2)) (by rfl) (by kernel_rfl) ?_)); try dsimp only [getL]))
      exact h_end (h1 := m) (by repeat (first | exact Pick.here | exact Pick.one | exact Pick.all | apply Pick.two | apply Pick.cons | apply Pick.app)) ⟨A, c, rfl, ho⟩
  | cons k l1 =>
    cases l1 with
    | nil =>
      have h0 : n0 = 1 := by simpa using hl0.symm
      rw [decD_one]
      refine h_no (by simp [h0]) ?_
      refine h_no (by simp [h0]) ?_
      refine h_yes (by simp [h0]) ?_
      exact h_end0 ⟨none, 0, rfl, OwnT.nil⟩
    | cons nb r =>
      have h0 : n0 = r.length + 2 := by simpa using hl0.symm
      have hnb := nb.toNat_lt
      have hbig2 : s.l.length + (r.length + 2) ≤ 100000 := by simpa using hbig
      refine h_no (by simp; omega) ?_
      refine h_no (by simp; omega) ?_
      refine h_no (by simp; omega) ?_
      obtain ⟨a, rfl, hcell⟩ := hr0.cells (by omega)
      rw [decD_cons]
      refine h_byteI (e := 5) 1 ((hcell 1 nb rfl).sub Sub.self) (by omega) rfl (by kernel_rfl) (by kernel_rfl) (by kernel_rfl) ?_
      dsimp only
      have hw1 : IntKind.wrap .i64 ((nb.toNat : Nat) : Int) = ((nb.toNat : Nat) : Int) := wrap64 (by omega)
      have hw2 : IntKind.wrap .i64 (((n0 : Nat) : Int) - 2) = ((r.length : Nat) : Int) := by rw [wrap64 (by omega)]; omega
      have hw3 : IntKind.wrap .i64 (2 + ((nb.toNat : Nat) : Int)) = ((2 + nb.toNat : Nat) : Int) := by rw [wrap64 (by omega)]; omega
      simp only [hw1, hw2, hw3]
      refine h_ite (fun t => ?_) (fun t => ?_)
      · rw [if_pos (by simp at t; omega)]
        exact h_end0 ⟨none, 0, rfl, OwnT.nil⟩
      have hle : nb.toNat ≤ r.length := by simp at t; omega
      rw [if_neg (by omega)]
      refine h_byteI (e := 5) 0 ((hcell 0 k rfl).sub Sub.self) (by omega) rfl (by kernel_rfl) (by kernel_rfl) (by kernel_rfl) ?_
      dsimp only
      refine h_byteI (e := 5) 1 ((hcell 1 nb rfl).sub Sub.self) (by omega) rfl (by kernel_rfl) (by kernel_rfl) (by kernel_rfl) ?_
      dsimp only
      simp only [hw1, hw3]
      refine h_cut (e := 5) (sz := 1) 2 (2 + nb.toNat) c0 (by kernel_rfl) (by kernel_rfl) rfl rfl rfl (by simp) (by omega) (by omega) (by omega) ?_
      dsimp only
      rw [show 2 + nb.toNat - 2 = nb.toNat by omega]
      have hseg : RdB I (cutA (some a) 2 c0 1) nb.toNat (r.take nb.toNat) := hr0.seg (i := 2) (k := nb.toNat) (by omega) hn0
      refine h_call ([(y4, .cells (rcs A c s) 61 (0, 0))] ++ m) hr' ca_babelpkt_reader_take (by simp) (fun hl => rtake_spec (w := y4) (k := k) ho hs (by omega) (hseg.up (upR hl (hc := [(y4, .cells (rcs A c s) 61 (0, 0))] ++ m) (by simp))) (by omega) (by omega)) ?_
      intro v h1 hg
      have htl : ∀ s', takeD s k (r.take nb.toNat) = some s' → s'.l.length ≤ s.l.length + 1 := fun s' h => takeD_len h
      generalize takeD s k (r.take nb.toNat) = o at hg htl ⊢
      cases o with
      | none =>
        obtain rfl := (show v = .bool false from hg)
        refine ⟨fun _ => { b := false }, rfl, ?_⟩
        dsimp only
        refine h_yes rfl ?_
        exact h_end0 ⟨none, 0, rfl, OwnT.nil⟩
      | some s' =>
        obtain ⟨rfl, hok, A', c', m', rfl, ho'⟩ := hg
        have hs' := htl s' rfl
        refine ⟨fun _ => { b := true }, rfl, ?_⟩
        dsimp only
        refine h_no rfl ?_
        refine h_byteI (e := 5) 1 ((hcell 1 nb rfl).sub Sub.self) (by omega) rfl (by kernel_rfl) (by kernel_rfl) (by kernel_rfl) ?_
        dsimp only
        simp only [hw1, hw3]
        refine h_cut (e := 5) (sz := 1) (2 + nb.toNat) n0 c0 (by kernel_rfl) (by kernel_rfl) rfl rfl rfl (by simp) (by omega) (by omega) (by omega) ?_
        dsimp only
        refine h_stop fun hl2 => ?_
        have hrest := hr0.rest (i := 2 + nb.toNat) (by omega) hn0
        rw [show (k :: nb :: r).drop (2 + nb.toNat) = r.drop nb.toNat by rw [Nat.add_comm]; rfl] at hrest
        show Wp _ _ _ _ _ _ (cl_ (GivesT (finR (decD s' (r.drop nb.toNat)))))
        exact bdec_loop (r.drop nb.toNat).length (r.drop nb.toNat) s' y4 _ _ _ _ A' c' _ m' _ (by omega) hrest (by omega) (by simp; omega) hok ho' (by repeat (first | exact Pick.here | exact Pick.one | exact Pick.all | apply Pick.two | apply Pick.cons | apply Pick.app))
end Go.Proofs.YtcfnliodgoenkaaS
