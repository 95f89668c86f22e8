import Derived.Test.YtcfnliodgoenkaaN8
import Derived.Test.YtcfnliodgoenkaaTA
set_option linter.unusedVariables false
namespace Go.Proofs.YtcfnliodgoenkaaS
/-- A part's cells. -/
def tlvC (J : Ctx) (e : Tlv) (cs : List Value) : Prop := cs = e.cs ∧ e.ok
theorem tlvC.len (J : Ctx) (e : Tlv) (cs : List Value) (h : tlvC J e cs) : cs.length = 9 := by rw [h.1]; rfl
def TlvsIn (J : Ctx) (A : Option Addr) (es : List Tlv) : Prop := ∃ cs, RdC J [] A cs ∧ rowC (tlvC J) es cs
theorem TlvsIn.up {J J' : Ctx} {A : Option Addr} {es : List Tlv} (h : TlvsIn J A es) (hs : ∀ b o, J b = some o → J' b = some o) : TlvsIn J' A es := by
  obtain ⟨cs, h1, h2⟩ := h
  exact ⟨cs, h1.up hs, h2.mono fun o c h => h⟩
theorem TlvsIn.get {J : Ctx} {A : Option Addr} {es : List Tlv} (h : TlvsIn J A es) {i : Nat} (hi : i < es.length) : ∃ a, A = some a ∧ es[i].ok ∧ Cells J [] (a.add (i * 9)) es[i].cs := by
  obtain ⟨cs, h1, h2⟩ := h
  obtain ⟨a, c, rfl, ⟨rfl, hok⟩, hc⟩ := h2.at (tlvC.len J) h1 (by omega) (List.getElem?_eq_getElem hi)
  exact ⟨a, rfl, hok, hc⟩
theorem TlvsIn.oks {J : Ctx} {A : Option Addr} {es : List Tlv} (h : TlvsIn J A es) : ∀ e ∈ es, e.ok := by
  intro e he
  obtain ⟨i, hi⟩ := List.getElem?_of_mem he
  obtain ⟨hi2, rfl⟩ := List.getElem?_eq_some_iff.1 hi
  exact (h.get hi2).choose_spec.2.1
theorem boddIx_loop {J : Ctx} {A : Option Addr} {c : Nat} {es : List Tlv} (hin : TlvsIn J A es) (hbd : es.length ≤ 1000000) :
    ∀ (k i : Nat) (u : Nat → Value) (h : Mem), i + k = es.length → (es.take i).all mayT = true →
    Wp Try.prog 39 k_slices_IndexFunc_BabelTlv_1 (t_slices_IndexFunc_BabelTlv_1 A es.length c i u) J h (cl_ fun v h' => (∃ x : Int, v = .int .i64 x ∧ (0 ≤ x ↔ es.all mayT = false)) ∧ h' = []) := by
  intro k
  induction k with
  | zero =>
    intro i u h hik hno
    refine r_slices_IndexFunc_BabelTlv_1 _ _ _ _ _ ?_
    refine h_no (by simp; omega) ?_
    refine h_end0 ⟨⟨-1, rfl, ?_⟩, rfl⟩
    rw [List.take_of_length_le (by omega)] at hno
    rw [hno]
    simp
  | succ k ih =>
    intro i u h hik hno
    have hi : i < es.length := by omega
    obtain ⟨a, rfl, hok, hc⟩ := hin.get hi
    refine r_slices_IndexFunc_BabelTlv_1 _ _ _ _ _ ?_
    refine h_yes (by simp; omega) ?_
    refine h_index a rfl (sz := 9) (by kernel_rfl) (by omega) (by omega) rfl ?_
    dsimp only
    rw [Int.toNat_natCast]
    refine h_loadA (cs := es[i].cs) es[i].ls (by kernel_rfl) (by kernel_rfl) (hc.sub Sub.self) rfl ?_
    dsimp only [getL, Tlv.ls]
    refine h_call0 (v := .bool (!mayT es[i])) (fun _ => { b := !mayT es[i] }) ca_babelpkt_Encode_fn1 (fun hl => bodd_spec hok) rfl ?_
    refine h_ite (fun hb => ?_) (fun hb => ?_)
    · refine h_end0 ⟨⟨i, rfl, ?_⟩, rfl⟩
      have : es.all mayT = false := by
        rw [List.all_eq_false]
        exact ⟨es[i], List.getElem_mem hi, by simpa using hb⟩
      rw [this]
      simp
    · refine h_stop fun hl => ?_
      rw [wrapS (by omega)]
      refine ih (i + 1) _ h (by omega) ?_
      rw [List.take_succ_eq_append_getElem hi, List.all_append, hno]
      simpa using hb
theorem bodds_spec {J : Ctx} {A : Option Addr} {c : Nat} {es : List Tlv} (hin : TlvsIn J A es) (hbd : es.length ≤ 1000000) :
    Fn Try.prog 21 #[.slice A es.length c, .func (.func 19) #[] #[]] J [] (fun v h' => v = .bool (!es.all mayT) ∧ h' = []) := by
  refine r_slices_ContainsFunc_BabelTlv _ _ _ ?_
  refine h_call [] _ ca_slices_IndexFunc_BabelTlv (List.Perm.refl _) (fun hl => ?_) (Qc := fun v h' => (∃ x : Int, v = .int .i64 x ∧ (0 ≤ x ↔ es.all mayT = false)) ∧ h' = []) ?_
  · refine r_slices_IndexFunc_BabelTlv _ _ _ ?_
    refine h_stop fun hl2 => ?_
    exact boddIx_loop (hin.up (Sub.self.up hl)) hbd es.length 0 _ _ (by omega) (by simp)
  · rintro v h1 ⟨⟨x, rfl, hx⟩, rfl⟩
    refine ⟨fun _ => { i := x }, rfl, ?_⟩
    refine h_end0 ⟨?_, rfl⟩
    dsimp only
    cases ha : es.all mayT with
    | true =>
      rw [decide_eq_false (p := x ≥ 0) (fun h => by have := hx.1 h; rw [ha] at this; cases this)]
      rfl
    | false =>
      rw [decide_eq_true (p := x ≥ 0) (hx.2 ha)]
      rfl
def encW : Wst → List Tlv → List UInt8
  | _, [] => []
  | st, t :: ts => partB st t ++ encW (partS st t) ts
theorem encW_snoc : ∀ (st : Wst) (ts : List Tlv) (t : Tlv), encW st (ts ++ [t]) = encW st ts ++ partB (ts.foldl partS st) t
  | st, [], t => by simp [encW]
  | st, x :: ts, t => by
    show partB st x ++ encW (partS st x) (ts ++ [t]) = (partB st x ++ encW (partS st x) ts) ++ _
    rw [encW_snoc (partS st x) ts t, List.append_assoc]
    rfl
abbrev w0 : Wst := ⟨0, false, 0⟩
/-- The bytes and the error of parts. -/
def bencR (l : List Tlv) : List UInt8 × Int :=
  if l.length > 40 then ([], 9) else if l.all mayT = false then ([], 1) else ([42, 2] ++ (be 2 (low16 ((encW w0 l).length : Nat)) ++ encW w0 l), 0)
abbrev GivesE (r : List UInt8 × Int) (v : Value) (h' : Mem) : Prop := ∃ A c, v = .tuple #[.slice A r.1.length c, .int .i64 r.2] ∧ OwnB A r.1.length c r.1 h'
theorem may_facts {t : Tlv} (h : mayT t = true) : (0 ≤ t.n ∧ t.n ≤ 32) ∧ (0 ≤ t.kind ∧ t.kind ≤ 4) ∧ (0 ≤ t.iv ∧ t.iv ≤ 65535) ∧ (0 ≤ t.cost ∧ t.cost ≤ 65535) ∧ (0 ≤ t.hops ∧ t.hops ≤ 255) := by
  unfold mayT mayB at h
  simp only [Bool.and_eq_true, decide_eq_true_eq] at h
  obtain ⟨⟨h1, h2, _⟩, h3, h4⟩ := h
  unfold KindP at h4
  exact ⟨⟨h1, h2⟩, by omega, by omega, by omega, by omega⟩
theorem encW_len : ∀ (ts : List Tlv) (st : Wst), ts.all mayT = true → (encW st ts).length ≤ 32 * ts.length
  | [], st, _ => by simp [encW]
  | t :: ts, st, h => by
    rw [List.all_cons, Bool.and_eq_true] at h
    have h1 := partB_len st (may_facts h.1).1
    have h2 := encW_len ts (partS st t) h.2
    unfold encW
    rw [List.length_append, List.length_cons]
    omega
theorem foldS_last (ts : List Tlv) (st : Wst) (hs : st.last < 4294967296) (h : ∀ t ∈ ts, t.ok) : (ts.foldl partS st).last < 4294967296 := by
  induction ts generalizing st with
  | nil => exact hs
  | cons t ts ih =>
    rw [List.foldl_cons]
    refine ih _ ?_ (fun x hx => h x (List.mem_cons_of_mem _ hx))
    unfold partS
    split
    · exact (h t List.mem_cons_self).a
    · exact hs
set_option maxHeartbeats 1000000 in
theorem benc_loop {J : Ctx} {A : Option Addr} {c y5 : Nat} {ts : List Tlv} (hin : TlvsIn J A ts) (h40 : ts.length ≤ 40) (hall : ts.all mayT = true) :
    ∀ (q i : Nat) (u : Nat → Value) (h m hr : Mem) (A6 : Option Addr) (c6 : Nat), i + q = ts.length →
    Pick h ([(y5, .cells (wcs A6 (encW w0 (ts.take i)).length c6 ((ts.take i).foldl partS w0)) 49 (0, 0))] ++ m) hr → OwnB A6 (encW w0 (ts.take i)).length c6 (encW w0 (ts.take i)) m →
    Wp Try.prog 12 k_babelpkt_Encode_1 (t_babelpkt_Encode_1 A ts.length c y5 i u) J h (cl_ (GivesE ([42, 2] ++ (be 2 (low16 ((encW w0 ts).length : Nat)) ++ encW w0 ts), 0))) := by
  have hoks := hin.oks
  intro q
  induction q with
  | zero =>
    intro i u h m hr A6 c6 hi hp ho
    rw [List.take_of_length_le (by omega)] at hp ho
    have hle := encW_len ts w0 hall
    refine r_babelpkt_Encode_1 _ _ _ _ _ _ ?_
    refine holds_perm (cl_.aff _) (g := (y5, .cells (wcs A6 (encW w0 ts).length c6 (ts.foldl partS w0)) 49 (0, 0)) :: (m ++ hr)) hp ?_
    refine h_no (by simp; omega) ?_
    (repeat ((first | ((with_reducible show holds _ _ _ _ (.sem (Instr.alloc 37 _ _) _ _) _); refine h_alloc zb_BabelTlv_37 fun _ _ _ => ?_) | ((with_reducible show holds _ _ _ _ (.sem (Instr.alloc 49 _ _) _ _) _); refine h_alloc zb_writer fun _ _ _ => ?_) | ((with_reducible show holds _ _ _ _ (.rd (Instr.loadAt _ (.pointer _)) _ _) _); first | refine ldL (by repeat (first | exact mq0 | apply mq1 | apply mq2)) (by rfl) (by kernel_rfl) ?_ | refine la0 (by repeat (first | exact mq0 | apply mq1 | apply mq2)) (by rfl) (by kernel_rfl) ?_) | ((with_reducible show holds _ _ _ _ (.unit (Instr.storeAt _ _ _) _) _); refine stU (by repeat (first | exact Upd.here | apply Upd.there | apply Upd.right)) (by kernel_rfl) (by rfl) (by simp [Value.cells]) ?_) | ((with_reducible show holds _ _ _ _ (.pin (vN (Instr.loadAt _ _)) _ _) _); first | refine pnA (by repeat (first | exact mq0 | apply mq1 | apply mq2)) (by rfl) (by kernel_rfl) ?_ | refine pn1 (by repeat (first | exact mq0 | apply mq1 | apply mq2)) (by rfl) (by kernel_rfl) ?_)); try dsimp only [getL]))
    refine h_call [] _ ca_babelpkt_two (List.Perm.refl _) (fun hl => two_spec) ?_
    rintro v h1 ⟨A1, c1, rfl, ho1⟩
    refine ⟨fun _ => { A := A1, n := (be 2 (low16 ((encW w0 ts).length : Nat))).length, c := c1 }, rfl, ?_⟩
    dsimp only
    (repeat ((first | ((with_reducible show holds _ _ _ _ (.sem (Instr.alloc 37 _ _) _ _) _); refine h_alloc zb_BabelTlv_37 fun _ _ _ => ?_) | ((with_reducible show holds _ _ _ _ (.sem (Instr.alloc 49 _ _) _ _) _); refine h_alloc zb_writer fun _ _ _ => ?_) | ((with_reducible show holds _ _ _ _ (.rd (Instr.loadAt _ (.pointer _)) _ _) _); first | refine ldL (by repeat (first | exact mq0 | apply mq1 | apply mq2)) (by rfl) (by kernel_rfl) ?_ | refine la0 (by repeat (first | exact mq0 | apply mq1 | apply mq2)) (by rfl) (by kernel_rfl) ?_) | ((with_reducible show holds _ _ _ _ (.unit (Instr.storeAt _ _ _) _) _); refine stU (by repeat (first | exact Upd.here | apply Upd.there | apply Upd.right)) (by kernel_rfl) (by rfl) (by simp [Value.cells]) ?_) | ((with_reducible show holds _ _ _ _ (.pin (vN (Instr.loadAt _ _)) _ _) _); first | refine pnA (by repeat (first | exact mq0 | apply mq1 | apply mq2)) (by rfl) (by kernel_rfl) ?_ | refine pn1 (by repeat (first | exact mq0 | apply mq1 | apply mq2)) (by rfl) (by kernel_rfl) ?_)); try dsimp only [getL]))
    refine h_row (e := 5) #[.int .u8 42, .int .u8 2] (by kernel_rfl) fun gr0 hgr0 hIr0 => ?_
    dsimp only
    have r0 : OwnB (some ⟨gr0, 0, none⟩) 2 2 [42, 2] [(gr0, .cells #[.int .u8 42, .int .u8 2] 5 (0, 0))] := Own.row (n := 2) rfl
    refine h_row (e := 25) #[.slice (some ⟨gr0, 0, none⟩) 2 2, .slice A1 (be 2 (low16 ((encW w0 ts).length : Nat))).length c1, .slice A6 (encW w0 ts).length c6] (by kernel_rfl) fun g7 hg7 hI7 => ?_
    dsimp only
    refine h_call [] _ ca_slices_Concat_byte (List.Perm.refl _) (fun hl => concat_spec (ls := [[42, 2], be 2 (low16 ((encW w0 ts).length : Nat)), encW w0 ts])
      (cs := [.slice (some ⟨gr0, 0, none⟩) 2 2, .slice A1 (be 2 (low16 ((encW w0 ts).length : Nat))).length c1, .slice A6 (encW w0 ts).length c6])
      (RdC.all hl (fun _ => ⟨_, rfl, cellsM' (by repeat (first | exact mq0 | apply mq1 | apply mq2)) rfl⟩)) ⟨_, _, rfl, ⟨_, 2, rfl, r0.rdb hl (fun x hx => by first | (simp [hx]; done) | (rw [List.mem_singleton] at hx; subst hx; simp; done))⟩, _, _, rfl, ⟨_, _, rfl, ho1.rdb hl (fun x hx => by first | (simp [hx]; done) | (rw [List.mem_singleton] at hx; subst hx; simp; done))⟩, _, _, rfl, ⟨_, _, rfl, ho.rdb hl (fun x hx => by first | (simp [hx]; done) | (rw [List.mem_singleton] at hx; subst hx; simp; done))⟩, rfl⟩ (by simp [total, be_length]; omega) (by simp)) ?_
    rintro v h8 ⟨A8, c8, rfl, ho8⟩
    have hf : [[42, 2], be 2 (low16 ((encW w0 ts).length : Nat)), encW w0 ts].flatten = [42, 2] ++ (be 2 (low16 ((encW w0 ts).length : Nat)) ++ encW w0 ts) := by simp
    rw [hf] at ho8 ⊢
    refine ⟨fun _ => { A := A8, n := ([42, 2] ++ (be 2 (low16 ((encW w0 ts).length : Nat)) ++ encW w0 ts)).length, c := c8 }, rfl, ?_⟩
    exact h_end (by repeat (first | exact Pick.here | exact Pick.one | exact Pick.all | apply Pick.two | apply Pick.cons | apply Pick.app)) ⟨A8, c8, rfl, ho8⟩
  | succ q ih =>
    intro i u h m hr A6 c6 hi hp ho
    have hlt : i < ts.length := by omega
    obtain ⟨a, rfl, hok, hc⟩ := hin.get hlt
    have hmt : mayT ts[i] = true := List.all_eq_true.1 hall _ (List.getElem_mem hlt)
    obtain ⟨f1, f2, _⟩ := may_facts hmt
    have htk : ts.take (i + 1) = ts.take i ++ [ts[i]] := List.take_succ_eq_append_getElem hlt
    have hle := encW_len (ts.take i) w0 (by rw [List.all_eq_true]; exact fun x hx => List.all_eq_true.1 hall x (List.mem_of_mem_take hx))
    have hlast := foldS_last (ts.take i) w0 (by decide) (fun x hx => hoks x (List.mem_of_mem_take hx))
    have hti : (ts.take i).length ≤ 40 := by simp; omega
    refine r_babelpkt_Encode_1 _ _ _ _ _ _ ?_
    refine holds_perm (cl_.aff _) (g := (y5, .cells (wcs A6 (encW w0 (ts.take i)).length c6 ((ts.take i).foldl partS w0)) 49 (0, 0)) :: (m ++ hr)) hp ?_
    refine h_yes (by simp; omega) ?_
    refine h_index a rfl (sz := 9) (by kernel_rfl) (by omega) (by omega) rfl ?_
    dsimp only
    rw [Int.toNat_natCast]
    refine h_loadA (cs := ts[i].cs) ts[i].ls (by kernel_rfl) (by kernel_rfl) (hc.sub Sub.self) rfl ?_
    dsimp only [getL, Tlv.ls]
    (repeat ((first | ((with_reducible show holds _ _ _ _ (.sem (Instr.alloc 37 _ _) _ _) _); refine h_alloc zb_BabelTlv_37 fun _ _ _ => ?_) | ((with_reducible show holds _ _ _ _ (.sem (Instr.alloc 49 _ _) _ _) _); refine h_alloc zb_writer fun _ _ _ => ?_) | ((with_reducible show holds _ _ _ _ (.rd (Instr.loadAt _ (.pointer _)) _ _) _); first | refine ldL (by repeat (first | exact mq0 | apply mq1 | apply mq2)) (by rfl) (by kernel_rfl) ?_ | refine la0 (by repeat (first | exact mq0 | apply mq1 | apply mq2)) (by rfl) (by kernel_rfl) ?_) | ((with_reducible show holds _ _ _ _ (.unit (Instr.storeAt _ _ _) _) _); refine stU (by repeat (first | exact Upd.here | apply Upd.there | apply Upd.right)) (by kernel_rfl) (by rfl) (by simp [Value.cells]) ?_) | ((with_reducible show holds _ _ _ _ (.pin (vN (Instr.loadAt _ _)) _ _) _); first | refine pnA (by repeat (first | exact mq0 | apply mq1 | apply mq2)) (by rfl) (by kernel_rfl) ?_ | refine pn1 (by repeat (first | exact mq0 | apply mq1 | apply mq2)) (by rfl) (by kernel_rfl) ?_)); try dsimp only [getL]))
    refine h_call ([(y5, .cells (wcs A6 (encW w0 (ts.take i)).length c6 ((ts.take i).foldl partS w0)) 49 (0, 0))] ++ m) _ ca_babelpkt_writer_part (by repeat (first | exact Pick.here | exact Pick.one | exact Pick.all | apply Pick.two | apply Pick.cons | apply Pick.app)) (fun hl => wpart_spec ho (by omega) hok f1 f2 hlast) ?_
    rintro v h1 ⟨rfl, X1, x1, m1, rfl, ho1⟩
    refine ⟨fun _ => { v := undef }, rfl, ?_⟩
    refine h_stop fun hl => ?_
    rw [wrapS (by omega)]
    have hen : encW w0 (ts.take (i + 1)) = encW w0 (ts.take i) ++ partB ((ts.take i).foldl partS w0) ts[i] := by rw [htk, encW_snoc]
    have hst : (ts.take (i + 1)).foldl partS w0 = partS ((ts.take i).foldl partS w0) ts[i] := by rw [htk, List.foldl_append]; rfl
    refine ih (i + 1) _ _ m1 _ X1 x1 (by omega) (by rw [hen, hst, List.length_append]; exact (by repeat (first | exact Pick.here | exact Pick.one | exact Pick.all | apply Pick.two | apply Pick.cons | apply Pick.app))) (by rw [hen, List.length_append]; exact ho1)
theorem bencode_spec {J : Ctx} {A : Option Addr} {c : Nat} {ts : List Tlv} (hin : TlvsIn J A ts) (hb : ts.length ≤ 1000000) : Fn Try.prog 12 #[.slice A ts.length c] J [] (GivesE (bencR ts)) := by
  refine r_babelpkt_Encode _ _ _ ?_
  refine h_ite (fun t1 => ?_) (fun t1 => ?_)
  · rw [show bencR ts = ([], 9) by unfold bencR; rw [if_pos (by simp at t1; omega)]]
    exact h_end0 ⟨none, 0, rfl, Own.nil _ _⟩
  have h40 : ts.length ≤ 40 := by simp at t1; omega
  refine h_call0 (v := .bool (!ts.all mayT)) (fun _ => { b := !ts.all mayT }) ca_slices_ContainsFunc_BabelTlv (fun hl => bodds_spec (hin.up (Sub.self.up hl)) hb) rfl ?_
  dsimp only
  refine h_ite (fun t2 => ?_) (fun t2 => ?_)
  · rw [show bencR ts = ([], 1) by unfold bencR; rw [if_neg (by omega), if_pos (by simpa using t2)]]
    exact h_end0 ⟨none, 0, rfl, Own.nil _ _⟩
  have ha : ts.all mayT = true := by simpa using t2
  rw [show bencR ts = ([42, 2] ++ (be 2 (low16 ((encW w0 ts).length : Nat)) ++ encW w0 ts), 0) by unfold bencR; rw [if_neg (by omega), if_neg (by rw [ha]; simp)]]
  (repeat ((first | ((with_reducible show holds _ _ _ _ (.sem (Instr.alloc 37 _ _) _ _) _); refine h_alloc zb_BabelTlv_37 fun _ _ _ => ?_) | ((with_reducible show holds _ _ _ _ (.sem (Instr.alloc 49 _ _) _ _) _); refine h_alloc zb_writer fun _ _ _ => ?_) | ((with_reducible show holds _ _ _ _ (.rd (Instr.loadAt _ (.pointer _)) _ _) _); first | refine ldL (by repeat (first | exact mq0 | apply mq1 | apply mq2)) (by rfl) (by kernel_rfl) ?_ | refine la0 (by repeat (first | exact mq0 | apply mq1 | apply mq2)) (by rfl) (by kernel_rfl) ?_) | ((with_reducible show holds _ _ _ _ (.unit (Instr.storeAt _ _ _) _) _); refine stU (by repeat (first | exact Upd.here | apply Upd.there | apply Upd.right)) (by kernel_rfl) (by rfl) (by simp [Value.cells]) ?_) | ((with_reducible show holds _ _ _ _ (.pin (vN (Instr.loadAt _ _)) _ _) _); first | refine pnA (by repeat (first | exact mq0 | apply mq1 | apply mq2)) (by rfl) (by kernel_rfl) ?_ | refine pn1 (by repeat (first | exact mq0 | apply mq1 | apply mq2)) (by rfl) (by kernel_rfl) ?_)); try dsimp only [getL]))
  refine h_stop fun hl => ?_
  exact benc_loop hin h40 ha ts.length 0 _ _ [] _ none 0 (by omega) (by repeat (first | exact Pick.here | exact Pick.one | exact Pick.all | apply Pick.two | apply Pick.cons | apply Pick.app)) (Own.nil _ _)
end Go.Proofs.YtcfnliodgoenkaaS
