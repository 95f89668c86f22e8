/- Rules on slices, as they are used at a tree. -/
import Derived.Test.YtcafalcmfdnojaaDoorSM
set_option linter.unusedVariables false
namespace Go.Proofs.YtcafalcmfdnojaaDoorS
section
variable {P : Program} {I J : Ctx} {f : Ctl} {Q : Value → Mem → Prop} {h : Mem} {sh : Sh} {k : (Nat → Leaf) → Tr}

theorem swp_vN {s : Sem Value} {R : Next → Mem → Prop} (hs : swp P I s h (fun v h' => R (.value v) h')) : swp P I (do pure (.value (← s)) : Sem Next) h R := by
  rw [swp_v]; exact hs
theorem rwp_vN {s : Sem Value} {R : Next → Prop} (hs : rwp P I h s (fun v => R (.value v))) : rwp P I h (vN s) R := by
  unfold vN
  rw [rwp_v]; exact hs

theorem h_append (hQ : Aff Q) {ts tx e ty : TypeId} {sz by_ : Nat} {z : Value} {cons : Array Bool} (hb : ElemB P ts e sz by_ z) (hx : noInt P tx = true) {A A2 : Option Addr} {n c n2 c2 : Nat} {cs cs2 : List Value} {m hr : Mem}
    (h2 : RdC I h A2 cs2) (hA2 : A2 = none → n2 = 0) (hl2 : cs2.length = n2 * sz) (hv : ∀ v ∈ cs2, (∀ x, v ≠ .agg x) ∧ ∀ x, v ≠ .tuple x) (hp : h.Perm (m ++ hr)) (ho : Own e sz A n c cs m)
    (hbd : (n + n2) * by_ ≤ 140737488355328) (hby : 0 < by_) (hk : ∀ A' c' m', Own e sz A' (n + n2) c' (cs ++ cs2) m' → holds P f I Q (k fun _ => { A := A', n := n + n2, c := c' }) (m' ++ hr)) :
    holds P f I Q (.nx (builtin .append #[ts, tx] ty cons #[.slice A n c, .slice A2 n2 c2]) shSl k) h := by
  intro _
  refine swp_vN (sw_append (K := fun v h' => ∃ l, Next.value v = .value (shSl.val l) ∧ holds P f I Q (k l) h') hb (noInt_out hx) rfl (fun R hr => rw_firstCells hl2 h2 hA2 hr) hl2 hv hp ho hbd hby ?_ ?_)
  · intro A' c' m' h' _ hp' ho'
    exact ⟨fun _ => { A := A', n := n + n2, c := c' }, rfl, holds_perm hQ hp' (hk A' c' m' ho')⟩
  · rintro v h1 g h2 hp2 ⟨l, hv, hh⟩
    exact ⟨l, hv, holds_drop hQ hp2 hh⟩

theorem rw_index {t e : TypeId} {sz : Nat} {A : Option Addr} {n c : Nat} {ik : IntKind} {i : Int} {a : Addr} {R : Value → Prop} (ht : P.underlying t = some (.slice e)) (hs : sizeB P e = some sz) (h0 : 0 ≤ i) (h1 : i < n) (hA : A = some a)
    (hr : R (.pointer (some (a.add (i.toNat * sz))))) : rwp P I h (Instr.indexAt t (.slice A n c) (.int ik i)) R := by
  subst hA
  unfold Instr.indexAt
  refine rwp_still (a := (ik, i)) rfl ?_
  refine rwp_still (still_underlying ht) ?_
  refine rwp_still (a := (some a, n, e)) rfl ?_
  refine rwp_still (still_underlying ht) ?_
  show rwp P I h (if 0 ≤ i ∧ i < (n : Int) then _ else _) R
  rw [if_pos ⟨h0, h1⟩]
  refine rwp_still (still_size hs) ?_
  exact hr
theorem h_index {t e : TypeId} {sz : Nat} {A : Option Addr} {n c : Nat} {ik : IntKind} {i : Int} (a : Addr) (ht : P.underlying t = some (.slice e)) (hs : sizeB P e = some sz) (h0 : 0 ≤ i) (h1 : i < n) (hA : A = some a)
    (hk : holds P f I Q (k fun _ => { a := a.add (i.toNat * sz) }) h) : holds P f I Q (.rd (Instr.indexAt t (.slice A n c) (.int ik i)) shPadr k) h := h_rd _ (rw_index ht hs h0 h1 hA rfl) hk
theorem rw_indexS {t : TypeId} {s : ByteArray} {ik : IntKind} {i : Int} {R : Value → Prop} (ht : P.underlying t = some .string) (h0 : 0 ≤ i) (h1 : i.toNat < s.size) (hr : R (.int .u8 (s[i.toNat]'h1).toNat)) :
    rwp P I h (Instr.index t (.string s) (.int ik i)) R := by
  unfold Instr.index
  refine rwp_still (a := (ik, i)) rfl ?_
  refine rwp_still (still_underlying ht) ?_
  show rwp P I h (match (if 0 ≤ i then s[i.toNat]? else none) with | some b => pure (.int .u8 b.toNat) | none => boundsPanic ik i s.size .index) R
  rw [if_pos h0, show s[i.toNat]? = some (s[i.toNat]'h1) from getElem?_pos s i.toNat h1]
  exact hr

/-- A bound of a cut. -/
def okB : Option Value → Nat → Nat → Prop
  | none, d, r => r = d
  | some (.int _ i), _, r => i = r
  | _, _, _ => False
theorem rw_bound {v : Value} {y d r : Nat} {code : BoundsCode} {R : Nat → Prop} (ho : okB (some v) d r) (hy : r ≤ y) (hr : R r) : rwp P I h (Instr.sliceBound v y code) R := by
  cases v <;> first | exact ho.elim | skip
  rename_i ik i
  have hi : i = r := ho
  subst hi
  unfold Instr.sliceBound
  refine rwp_still (a := (ik, (r : Int))) rfl ?_
  show rwp P I h (if 0 ≤ (r : Int) ∧ (r : Int) ≤ (y : Int) then _ else _) R
  rw [if_pos ⟨by omega, by omega⟩]
  exact hr
theorem rw_bounds {b : Bool} {len cap l u m : Nat} {lo hi mx : Option Value} {R : Nat × Nat × Nat → Prop} (hlo : okB lo 0 l) (hhi : okB hi len u) (hmx : okB mx cap m) (hmh : mx ≠ none → hi ≠ none) (h1 : l ≤ u) (h2 : u ≤ m) (h3 : m ≤ cap) (hr : R (l, u, m)) :
    rwp P I h (Instr.sliceBounds b len cap lo hi mx) R := by
  unfold Instr.sliceBounds
  have fin : ∀ (R' : Nat → Prop), R' l → (∀ v, lo = some v → ∀ code, rwp P I h (Instr.sliceBound v u code) R') ∧ (lo = none → R' 0) := by
    intro R' hr'
    refine ⟨fun v hv code => ?_, fun hv => ?_⟩
    · subst hv; exact rw_bound hlo h1 hr'
    · subst hv; have : l = 0 := hlo; rw [← this]; exact hr'
  obtain ⟨f1, f2⟩ := fin (fun l => R (l, u, m)) hr
  cases mx with
  | none =>
    have hm : m = cap := hmx
    subst hm
    refine rwp_still (a := m) rfl ?_
    cases hi with
    | none =>
      have hu : u = len := hhi
      subst hu
      refine rwp_still (a := u) rfl ?_
      cases lo with
      | none => exact f2 rfl
      | some v => show rwp P I h (Instr.sliceBound v u _ >>= fun l => pure (l, u, m)) R; rw [rwp_bind]; exact f1 v rfl _
    | some w =>
      show rwp P I h (Instr.sliceBound w m _ >>= fun _ => _) R
      rw [rwp_bind]
      refine rw_bound hhi h2 ?_
      cases lo with
      | none => exact f2 rfl
      | some v => show rwp P I h (Instr.sliceBound v u _ >>= fun l => pure (l, u, m)) R; rw [rwp_bind]; exact f1 v rfl _
  | some x =>
    show rwp P I h (Instr.sliceBound x cap _ >>= fun _ => _) R
    rw [rwp_bind]
    refine rw_bound hmx h3 ?_
    cases hi with
    | none => exact absurd rfl (hmh (by simp))
    | some w =>
      show rwp P I h (Instr.sliceBound w m _ >>= fun _ => _) R
      rw [rwp_bind]
      refine rw_bound hhi h2 ?_
      cases lo with
      | none => exact f2 rfl
      | some v => show rwp P I h (Instr.sliceBound v u _ >>= fun l => pure (l, u, m)) R; rw [rwp_bind]; exact f1 v rfl _
/-- Where a cut begins. -/
def cutA (A : Option Addr) (l m sz : Nat) : Option Addr := if m = l then A else A.map (·.add (l * sz))
theorem rw_cut {t e : TypeId} {sz : Nat} {A : Option Addr} {n c l u m : Nat} {lo hi mx : Option Value} {R : Value → Prop} (ht : P.underlying t = some (.slice e)) (hs : sizeB P e = some sz) (hlo : okB lo 0 l) (hhi : okB hi n u) (hmx : okB mx c m)
    (hmh : mx ≠ none → hi ≠ none) (h1 : l ≤ u) (h2 : u ≤ m) (h3 : m ≤ c) (hr : R (.slice (cutA A l m sz) (u - l) (m - l))) : rwp P I h (Instr.sliceAt t (.slice A n c) lo hi mx) R := by
  unfold Instr.sliceAt
  refine rwp_still (still_underlying ht) ?_
  show rwp P I h (Instr.slice t (.slice A n c) lo hi mx) R
  unfold Instr.slice
  refine rwp_still (still_underlying ht) ?_
  show rwp P I h (Instr.sliceBounds true n c lo hi mx >>= fun _ => _) R
  rw [rwp_bind]
  refine rw_bounds hlo hhi hmx hmh h1 h2 h3 ?_
  refine rwp_still (still_size hs) ?_
  exact hr
theorem h_cut {t e : TypeId} {sz : Nat} {A : Option Addr} {n c : Nat} {lo hi mx : Option Value} (l u m : Nat) (ht : P.underlying t = some (.slice e)) (hs : sizeB P e = some sz) (hlo : okB lo 0 l) (hhi : okB hi n u) (hmx : okB mx c m)
    (hmh : mx ≠ none → hi ≠ none) (h1 : l ≤ u) (h2 : u ≤ m) (h3 : m ≤ c) (hk : holds P f I Q (k fun _ => { A := cutA A l m sz, n := u - l, c := m - l }) h) : holds P f I Q (.rd (Instr.sliceAt t (.slice A n c) lo hi mx) shSl k) h :=
  h_rd _ (rw_cut ht hs hlo hhi hmx hmh h1 h2 h3 rfl) hk
theorem rw_cutS {t : TypeId} {s : ByteArray} {l u : Nat} {lo hi : Option Value} {R : Value → Prop} (ht : P.underlying t = some .string) (hlo : okB lo 0 l) (hhi : okB hi s.size u) (h1 : l ≤ u) (h2 : u ≤ s.size) (hr : R (.string (s.extract l u))) :
    rwp P I h (Instr.sliceAt t (.string s) lo hi none) R := by
  unfold Instr.sliceAt
  refine rwp_still (still_underlying ht) ?_
  show rwp P I h (Instr.slice t (.string s) lo hi none) R
  unfold Instr.slice
  refine rwp_still (still_underlying ht) ?_
  show rwp P I h (Instr.sliceBounds false s.size s.size lo hi none >>= fun _ => _) R
  rw [rwp_bind]
  exact rw_bounds (m := s.size) hlo hhi rfl (fun h => absurd rfl h) h1 h2 (Nat.le_refl _) hr
theorem RdC.cut {A : Option Addr} {cs : List Value} (hc : RdC I h A cs) {l u m sz : Nat} (h2 : u ≤ m) : RdC I h (cutA A l m sz) ((cs.drop (l * sz)).take ((u - l) * sz)) := by
  unfold cutA
  split
  · rename_i he
    have : u - l = 0 := by omega
    rw [this]; simp; exact RdC.nil _
  · exact (hc.drop _).take _

theorem rw_neNil {t : TypeId} {x y : Operand} {A : Option Addr} {R : Next → Prop} {op : BinOp} (hop : op = .eql ∨ op = .neq) (ht : (match P.underlying t with | some (.pointer _) => true | _ => false) = true) (hr : R (.value (.bool (if op matches .eql then A.isNone else A.isSome)))) :
    rwp P I h (eqN op t x y (.pointer A) (.pointer none)) R := by
  cases hu : P.underlying t with
  | none => rw [hu] at ht; cases ht
  | some d =>
    rw [hu] at ht
    cases d <;> first | cases ht | skip
    unfold eqN
    refine rwp_vN ?_
    have he : still P (Op.equal t (.pointer A) (.pointer none)) = some A.isNone := by
      unfold Op.equal Op.maxDepth
      rw [show (10000 : Nat) = 9999 + 1 from rfl, Op.equalIn, still_bind _ _ (still_underlying hu)]
      cases A <;> rfl
    rcases hop with rfl | rfl
    · refine rwp_still (a := ()) rfl ?_
      show rwp P I h (do pure (Value.bool ((← Op.equal t (.pointer A) (.pointer none)))) : Sem Value) _
      exact rwp_still he hr
    · refine rwp_still (a := ()) rfl ?_
      show rwp P I h (do pure (Value.bool (!(← Op.equal t (.pointer A) (.pointer none)))) : Sem Value) _
      refine rwp_still he ?_
      cases A <;> exact hr
theorem rw_slNil {t : TypeId} {x y : Operand} {A : Option Addr} {n c : Nat} {R : Next → Prop} {op : BinOp} (hop : op = .eql ∨ op = .neq) (ht : (match P.underlying t with | some (.slice _) => true | _ => false) = true) (hr : R (.value (.bool (if op matches .eql then A.isNone else A.isSome)))) :
    rwp P I h (eqN op t x y (.slice A n c) (.slice none 0 0)) R := by
  cases hu : P.underlying t with
  | none => rw [hu] at ht; cases ht
  | some d =>
    rw [hu] at ht
    cases d <;> first | cases ht | skip
    unfold eqN
    refine rwp_vN ?_
    have he : still P (Op.equal t (.slice A n c) (.slice none 0 0)) = some A.isNone := by
      unfold Op.equal Op.maxDepth
      rw [show (10000 : Nat) = 9999 + 1 from rfl, Op.equalIn, still_bind _ _ (still_underlying hu)]
      cases A <;> rfl
    rcases hop with rfl | rfl
    · refine rwp_still (a := ()) rfl ?_
      show rwp P I h (do pure (Value.bool ((← Op.equal t (.slice A n c) (.slice none 0 0)))) : Sem Value) _
      exact rwp_still he hr
    · refine rwp_still (a := ()) rfl ?_
      show rwp P I h (do pure (Value.bool (!(← Op.equal t (.slice A n c) (.slice none 0 0)))) : Sem Value) _
      refine rwp_still he ?_
      cases A <;> exact hr

/-- Bytes, as cells and as a text. -/
def bC (l : List UInt8) : List Value := l.map fun b => .int .u8 (b.toNat : Int)
@[simp] theorem bC_length (l : List UInt8) : (bC l).length = l.length := by simp [bC]
@[simp] theorem bC_append (l m : List UInt8) : bC (l ++ m) = bC l ++ bC m := by simp [bC]
theorem bC_plain (l : List UInt8) : ∀ v ∈ bC l, (∀ x, v ≠ .agg x) ∧ ∀ x, v ≠ .tuple x := by
  intro v hv
  obtain ⟨b, _, rfl⟩ := List.mem_map.1 hv
  exact ⟨fun x h => (by cases h), fun x h => (by cases h)⟩
def bS (l : List UInt8) : ByteArray := ⟨l.toArray⟩
theorem bS_inj {l m : List UInt8} (h : bS l = bS m) : l = m := by
  have h1 := congrArg (fun b : ByteArray => b.data.toList) h
  simpa [bS] using h1
theorem bS_push (l : List UInt8) (b : UInt8) : (bS l).push b = bS (l ++ [b]) := by
  simp [bS, ByteArray.push]
theorem rw_forBytes {F : Value → ByteArray → Sem (ForInStep ByteArray)} (hF : ∀ (b : UInt8) s, F (.int .u8 (b.toNat : Int)) s = pure (ForInStep.yield (s.push b))) : ∀ (l m : List UInt8) {R : ByteArray → Prop}, R (bS (m ++ l)) →
    rwp P I h (forIn (bC l) (bS m) F) R
  | [], m, R, hr => by simpa [bC] using hr
  | b :: l, m, R, hr => by
    simp only [bC, List.map_cons, List.forIn_cons, hF]
    refine rwp_still (a := ForInStep.yield ((bS m).push b)) rfl ?_
    show rwp P I h (forIn (bC l) ((bS m).push b) F) R
    rw [bS_push]
    exact rw_forBytes hF l (m ++ [b]) (by simpa using hr)
theorem rw_toString {A : Option Addr} {n c : Nat} {l : List UInt8} {R : Value → Prop} (hl : l.length = n) (hc : RdC I h A (bC l)) (hA : A = none → n = 0) (hr : R (.string (bS l))) : rwp P I h (Conv.bytesToString (.slice A n c)) R := by
  cases A with
  | none =>
    have h0 := hA rfl
    subst h0
    have : l = [] := List.eq_nil_of_length_eq_zero hl
    subst this
    exact hr
  | some a =>
    unfold Conv.bytesToString
    have hcells : ∀ R' : Array Value → Prop, R' ⟨bC l⟩ → rwp P I h (loadCells a n) R' := by
      intro R' hr'
      by_cases he : bC l = []
      · have : n = 0 := by rw [← hl, ← bC_length, he]; rfl
        subst this
        rw [he] at hr'
        exact hr'
      · obtain ⟨a', h1, h2⟩ := hc he
        injection h1 with h1
        subst h1
        exact rw_loadCells (by simp [hl]) h2 hr'
    rw [rwp_bind]
    refine hcells _ ?_
    rw [rwp_bind]
    rw [List.forIn_toArray]
    refine rw_forBytes (fun b s => ?_) l [] (by simpa using hr)
    show (pure (ForInStep.yield (s.push (UInt8.ofNat (b.toNat : Int).toNat))) : Sem (ForInStep ByteArray)) = _
    have hb : UInt8.ofNat (b.toNat : Int).toNat = b := by simp
    rw [hb]
def isStr (P : Program) (t : TypeId) : Bool := match P.underlying t with | some .string => true | _ => false
theorem isStr_out {t : TypeId} (ht : isStr P t = true) : P.underlying t = some .string := by
  unfold isStr at ht
  split at ht
  · rename_i hu; exact hu
  · cases ht
theorem h_toString {src dst e : TypeId} {A : Option Addr} {n c : Nat} {l : List UInt8} (hs : P.underlying src = some (.slice e)) (he : P.underlying e = some (.int .u8)) (hd : isStr P dst = true) (hl : l.length = n) (hc : RdC I h A (bC l)) (hA : A = none → n = 0)
    (hk : holds P f I Q (k fun _ => { s := bS l }) h) : holds P f I Q (.rdn (convN src dst (.slice A n c)) (.one (.sc .str)) k) h := by
  refine h_rdn _ ?_ hk
  unfold convN
  refine rwp_vN ?_
  unfold convert
  refine rwp_still (still_underlying hs) ?_
  refine rwp_still (still_underlying (isStr_out hd)) ?_
  show rwp P I h (underlying e >>= fun _ => _) _
  refine rwp_still (still_underlying he) ?_
  exact rw_toString hl hc hA rfl
end
end Go.Proofs.YtcafalcmfdnojaaDoorS
