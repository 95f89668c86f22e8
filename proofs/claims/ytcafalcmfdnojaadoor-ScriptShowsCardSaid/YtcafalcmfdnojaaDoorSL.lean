/- Rules for whoever proves what a tree owes. -/
import Derived.Test.YtcafalcmfdnojaaDoorSK
set_option linter.unusedVariables false
namespace Go.Proofs.YtcafalcmfdnojaaDoorS
section
variable {P : Program} {I : Ctx} {f : Ctl} {Q : Value → Mem → Prop} {h : Mem}
theorem perm_count {h g : Mem} (hc : ∀ (D : DecidableEq (Nat × Obj)) (a : Nat × Obj), h.count a = g.count a) : h.Perm g := by
  have D : DecidableEq (Nat × Obj) := Classical.typeDecidableEq _
  exact List.perm_iff_count.2 fun a => hc D a

theorem holds_aff (hQ : Aff Q) : ∀ (t : Tr) {h g h' : Mem}, h'.Perm (h ++ g) → holds P f I Q t h → holds P f I Q t h' := by
  have lv : ∀ {h g h' : Mem}, h'.Perm (h ++ g) → Live I h' → Live I h := fun p hl => (hl.perm p).left
  have sb : ∀ {h g h' : Mem}, h'.Perm (h ++ g) → ∀ x ∈ h, x ∈ h' := fun p x hx => p.mem_iff.2 (List.mem_append_left _ hx)
  have sw : ∀ {α : Type} (s : Sem α) {h g h' : Mem} {R : α → Mem → Prop}, h'.Perm (h ++ g) → swp P I s h R → swp P I s h' (fun a h2 => ∃ h1, h2.Perm (h1 ++ g) ∧ R a h1) := by
    intro α s h g h' R p hs
    refine swp_mono _ (swp_perm _ p.symm (swp_frame g _ hs)) ?_
    rintro a h2 ⟨h3, p3, h1, rfl, hr⟩
    exact ⟨h1, p3.symm, hr⟩
  intro t
  induction t with
  | done v => intro h g h' p hh hl; exact hQ _ _ _ _ p (hh (lv p hl))
  | stop todo τ => intro h g h' p hh hl; exact (hh (lv p hl)).drop.perm p.symm
  | ite b x y ihx ihy => intro h g h' p hh hl; exact ⟨fun hb => ihx p ((hh (lv p hl)).1 hb), fun hb => ihy p ((hh (lv p hl)).2 hb)⟩
  | rd s sh k ih => intro h g h' p hh hl; exact rwp_mono _ (rwp_sub (sb p) _ (hh (lv p hl))) fun v ⟨l, hv, hk⟩ => ⟨l, hv, ih l p hk⟩
  | sem s sh k ih =>
    intro h g h' p hh hl
    refine swp_mono _ (sw s p (hh (lv p hl))) ?_
    rintro v h2 ⟨h1, p1, l, hv, hk⟩
    exact ⟨l, hv, ih l p1 hk⟩
  | unit s k ih =>
    intro h g h' p hh hl
    refine swp_mono _ (sw s p (hh (lv p hl))) ?_
    rintro v h2 ⟨h1, p1, hk⟩
    exact ih p1 hk
  | nx s sh k ih =>
    intro h g h' p hh hl
    refine swp_mono _ (sw s p (hh (lv p hl))) ?_
    rintro v h2 ⟨h1, p1, l, hv, hk⟩
    exact ⟨l, hv, ih l p1 hk⟩
  | rdn s sh k ih => intro h g h' p hh hl; exact rwp_mono _ (rwp_sub (sb p) _ (hh (lv p hl))) fun v ⟨l, hv, hk⟩ => ⟨l, hv, ih l p hk⟩
  | call g' args sh k ih =>
    intro h g h' p hh hl
    obtain ⟨hc', hc, hr, hp, hf⟩ := hh (lv p hl)
    have hI : ∀ b, b ∈ keys g → I b = none := by
      intro b hb
      cases hIb : I b with
      | none => rfl
      | some o =>
        have := (hl.perm p).ctx hIb
        rw [keys_append] at this
        exact absurd (List.mem_append_right _ hb) this
    refine ⟨hc', hc, hr ++ g, p.trans ((hp.append_right g).trans (by rw [List.append_assoc])), (hf.sub fun b o hb => plus_append hI hb).mono ?_⟩
    rintro v h1 ⟨l, hv, hk⟩
    exact ⟨l, hv, ih l (by rw [List.append_assoc]) hk⟩
  | yld l args k ih =>
    intro h g h' p hh hl
    obtain ⟨r, hr, hlen, hc, hr', hp, hf⟩ := hh (lv p hl)
    have hI : ∀ b, b ∈ keys g → I b = none := by
      intro b hb
      cases hIb : I b with
      | none => rfl
      | some o =>
        have := (hl.perm p).ctx hIb
        rw [keys_append] at this
        exact absurd (List.mem_append_right _ hb) this
    refine ⟨r, hr.mono (sb p), hlen, hc, hr' ++ g, p.trans ((hp.append_right g).trans (by rw [List.append_assoc])), (hf.sub fun b o hb => plus_append hI hb).mono ?_⟩
    rintro v h1 ⟨b, hv, hk⟩
    exact ⟨b, hv, ih b (by rw [List.append_assoc]) hk⟩
  | pcall g' args sh k ih => intro h g h' p hh hl; obtain ⟨l, hp, hk⟩ := hh (lv p hl); exact ⟨l, hp, ih l p hk⟩
  | pin s v k ih => intro h g h' p hh hl; exact ⟨rwp_sub (sb p) _ (hh (lv p hl)).1, ih p (hh (lv p hl)).2⟩
  | stuck => intro h g h' p hh hl; exact (hh (lv p hl)).elim
theorem holds_perm (hQ : Aff Q) {t : Tr} {g : Mem} (p : h.Perm g) (hh : holds P f I Q t g) : holds P f I Q t h := holds_aff hQ t (g := []) (by simpa using p) hh
theorem holds_drop (hQ : Aff Q) {t : Tr} {h1 g : Mem} (p : h.Perm (h1 ++ g)) (hh : holds P f I Q t h1) : holds P f I Q t h := holds_aff hQ t p hh
theorem holds_live {t : Tr} (hh : Live I h → holds P f I Q t h) : holds P f I Q t h := by
  cases t <;> exact fun hl => hh hl hl

/-- Leaves by a list. -/
def getL : List Leaf → Nat → Leaf
  | [], _ => {}
  | a :: _, 0 => a
  | _ :: r, n + 1 => getL r n
def aggB (P : Program) (t : TypeId) : Bool := match P.underlying t with | some (.struct _) | some (.array _ _) => true | some _ => false | none => true
def aggY (P : Program) (t : TypeId) : Bool := match P.underlying t with | some (.struct _) | some (.array _ _) => true | _ => false
def sizeB (P : Program) (t : TypeId) : Option Nat := (P.info? t).map (·.size)
/-- The cells from a on. -/
def Cells (I : Ctx) (h : Mem) (a : Addr) (cs : List Value) : Prop := ∀ (i : Nat) (v : Value), cs[i]? = some v → CellIs I h (a.add i) v
theorem add_plain (b o n : Nat) : (⟨b, o, none⟩ : Addr).add n = ⟨b, o + n, none⟩ := by
  unfold Addr.add
  split
  · rename_i h; subst h; rfl
  · rfl
theorem add_add (a : Addr) (m n : Nat) : (a.add m).add n = a.add (m + n) := by
  unfold Addr.add
  split <;> split <;> simp_all <;> omega
theorem cell_own {j b off : Nat} {arr : Array Value} {t : TypeId} {fz : Nat × Nat} {v : Value} (hj : h[j]? = some (b, .cells arr t fz)) (hv : arr[off]? = some v) : CellIs I h ⟨b, off, none⟩ v :=
  ⟨rfl, arr, t, fz, .inl (List.mem_of_getElem? hj), hv⟩
theorem cells_own {j b off : Nat} {arr : Array Value} {t : TypeId} {fz : Nat × Nat} {cs : List Value} (hj : h[j]? = some (b, .cells arr t fz)) (hv : ∀ i v, cs[i]? = some v → arr[off + i]? = some v) : Cells I h ⟨b, off, none⟩ cs :=
  fun i v hi => by rw [add_plain]; exact cell_own hj (hv i v hi)

theorem cells_at {j b off : Nat} {arr : Array Value} {t : TypeId} {fz : Nat × Nat} {cs : List Value} (hj : h[j]? = some (b, .cells arr t fz)) (hv : (arr.toList.drop off).take cs.length = cs) : Cells I h ⟨b, off, none⟩ cs := by
  refine cells_own hj fun i v hi => ?_
  rw [← hv, List.getElem?_take] at hi
  split at hi
  · rw [List.getElem?_drop] at hi; simpa using hi
  · cases hi
theorem isAgg_no {t : TypeId} (ht : aggB P t = false) : still P (isAgg t) = some false := by
  unfold aggB at ht
  unfold isAgg
  cases hu : P.underlying t with
  | none => simp [hu] at ht
  | some u =>
    rw [still_bind _ _ (still_underlying hu)]
    rw [hu] at ht
    cases u <;> first | rfl | cases ht
theorem isAgg_yes {t : TypeId} (ht : aggY P t = true) : still P (isAgg t) = some true := by
  unfold aggY at ht
  unfold isAgg
  cases hu : P.underlying t with
  | none => simp [hu] at ht
  | some u =>
    rw [still_bind _ _ (still_underlying hu)]
    rw [hu] at ht
    cases u <;> first | rfl | cases ht
theorem rwp_still {α β : Type} {a : α} {s : Sem α} {F : α → Sem β} {R : β → Prop} (hs : still P s = some a) (hr : rwp P I h (F a) R) : rwp P I h (s >>= F) R := by
  rw [rwp_bind]; exact rwp_of_still _ hs hr
theorem swp_still {α β : Type} {a : α} {s : Sem α} {F : α → Sem β} {R : β → Mem → Prop} (hs : still P s = some a) (hr : swp P I (F a) h R) : swp P I (s >>= F) h R := by
  rw [swp_bind]; exact swp_of_rwp _ (rwp_of_still _ hs hr)
theorem still_size {t : TypeId} {n : Nat} (hs : sizeB P t = some n) : still P (sizeOf t) = some n := by
  unfold sizeB at hs
  cases hi : P.info? t with
  | none => simp [hi] at hs
  | some ti =>
    rw [hi] at hs
    simp only [Option.map_some, Option.some.injEq] at hs
    unfold sizeOf
    rw [still_bind _ _ (still_typeInfo hi), hs]; rfl
theorem rw_load1 {t : TypeId} {a : Addr} {v : Value} {R : Value → Prop} (ht : aggB P t = false) (hc : CellIs I h a v) (hr : R v) : rwp P I h (loadVar t a) R := by
  unfold loadVar
  refine rwp_still (isAgg_no ht) ?_
  exact ⟨v, hc, hr⟩
theorem rw_loadCellsFrom {a : Addr} : ∀ (n i : Nat) (acc : Array Value) (cs : List Value) (R : Array Value → Prop), cs.length = n → (∀ q v, cs[q]? = some v → CellIs I h (a.add (i + q)) v) → R (acc ++ ⟨cs⟩) → rwp P I h (loadCellsFrom a i n acc) R
  | 0, i, acc, cs, R, hl, hc, hr => by
    have : cs = [] := List.eq_nil_of_length_eq_zero hl
    subst this
    have h2 : acc ++ (⟨[]⟩ : Array Value) = acc := by simp
    rw [h2] at hr
    exact hr
  | n + 1, i, acc, cs, R, hl, hc, hr => by
    cases cs with
    | nil => simp at hl
    | cons v cs =>
      refine ⟨v, by have := hc 0 v rfl; simpa using this, ?_⟩
      refine rw_loadCellsFrom n (i + 1) (acc.push v) cs R (by simpa using hl) (fun q u hq => ?_) ?_
      · have := hc (q + 1) u (by simpa using hq)
        rw [show i + (q + 1) = i + 1 + q by omega] at this
        exact this
      · have h2 : acc.push v ++ (⟨cs⟩ : Array Value) = acc ++ ⟨v :: cs⟩ := by
          apply Array.ext'; simp
        rw [h2]; exact hr
theorem rw_loadCells {a : Addr} {cs : List Value} {n : Nat} {R : Array Value → Prop} (hl : cs.length = n) (hc : Cells I h a cs) (hr : R ⟨cs⟩) : rwp P I h (loadCells a n) R := by
  refine rw_loadCellsFrom n 0 #[] cs R hl (fun q v hq => by rw [Nat.zero_add]; exact hc q v hq) ?_
  have h2 : (#[] : Array Value) ++ (⟨cs⟩ : Array Value) = ⟨cs⟩ := by simp
  rw [h2]; exact hr
theorem rw_loadA {t : TypeId} {a : Addr} {cs : List Value} {R : Value → Prop} (ht : aggY P t = true) (hs : sizeB P t = some cs.length) (hc : Cells I h a cs) (hr : R (.agg ⟨cs⟩)) : rwp P I h (loadVar t a) R := by
  unfold loadVar
  refine rwp_still (isAgg_yes ht) ?_
  simp only [if_true]
  refine rwp_still (still_size hs) ?_
  rw [rwp_bind]
  exact rw_loadCells rfl hc hr
theorem loadAt_some {t : TypeId} {a : Addr} : Instr.loadAt t (.pointer (some a)) = loadVar t a := rfl

section
variable {sh : Sh} {k : (Nat → Leaf) → Tr}
theorem h_done {v : Value} (hq : Q v h) : holds P f I Q (.done v) h := fun _ => hq
theorem h_end {Q0 : Value → Mem → Prop} {v : Value} {h1 g : Mem} (hp : h.Perm (h1 ++ g)) (hq : Q0 v h1) : holds P f I (cl_ Q0) (.done v) h := fun _ => ⟨h1, g, hp, hq⟩
theorem h_endR {Q0 : Value → Mem → Prop} {v : Value} (pre : Mem) {m : Mem} (hp : h = pre ++ m) (hq : Q0 v m) : holds P f I (cl_ Q0) (.done v) h := h_end (by rw [hp]; exact List.perm_append_comm) hq
theorem h_end0 {Q0 : Value → Mem → Prop} {v : Value} (hq : Q0 v []) : holds P f I (cl_ Q0) (.done v) h := fun _ => ⟨[], h, by simp, hq⟩
theorem h_stop {todo : List Item} {τ : List Value} (hw : Live I h → Wp P f todo τ I h Q) : holds P f I Q (.stop todo τ) h := hw
theorem h_ite {b : Bool} {x y : Tr} (ht : b = true → holds P f I Q x h) (hf : b = false → holds P f I Q y h) : holds P f I Q (.ite b x y) h := fun _ => ⟨ht, hf⟩
theorem h_yes {b : Bool} {x y : Tr} (hb : b = true) (ht : holds P f I Q x h) : holds P f I Q (.ite b x y) h := fun _ => ⟨fun _ => ht, fun h => (by rw [hb] at h; cases h)⟩
theorem h_no {b : Bool} {x y : Tr} (hb : b = false) (ht : holds P f I Q y h) : holds P f I Q (.ite b x y) h := fun _ => ⟨fun h => (by rw [hb] at h; cases h), fun _ => ht⟩
theorem h_rd {s : Sem Value} (l : Nat → Leaf) (hs : rwp P I h s (fun v => v = sh.val l)) (hk : holds P f I Q (k l) h) : holds P f I Q (.rd s sh k) h := fun _ => rwp_mono _ hs fun v hv => ⟨l, hv, hk⟩
theorem h_rdn {s : Sem Next} (l : Nat → Leaf) (hs : rwp P I h s (fun v => v = .value (sh.val l))) (hk : holds P f I Q (k l) h) : holds P f I Q (.rdn s sh k) h := fun _ => rwp_mono _ hs fun v hv => ⟨l, hv, hk⟩
theorem h_pin {s : Sem Next} {v : Value} {t : Tr} (hs : rwp P I h s (fun x => x = .value v)) (hk : holds P f I Q t h) : holds P f I Q (.pin s v t) h := fun _ => ⟨hs, hk⟩
-- loads
theorem h_pcall {g : FuncId} {args : List Value} {k : (Nat → Leaf) → Tr} {sh : Sh} {v : Value} (l : Nat → Leaf) (hca : callable P g) (hin : P.inits.idxOf? g = none) (hf : ∀ h, Live I h → Fn P g ⟨args⟩ (plus I h) [] (fun u h1 => u = v ∧ h1 = []))
    (hv : v = sh.val l) (hk : holds P f I Q (k l) h) : holds P f I Q (.pcall g args sh k) h := fun _ => ⟨l, ⟨hca, hin, fun h hl => (hf h hl).mono fun u h1 ⟨a, b⟩ => ⟨a.trans hv, b⟩⟩, hk⟩
theorem h_loadI {t : TypeId} {a : Addr} {ik : IntKind} {x : Int} (ht : aggB P t = false) (hc : CellIs I h a (.int ik x)) (hk : holds P f I Q (k fun _ => { i := x }) h) : holds P f I Q (.rd (Instr.loadAt t (.pointer (some a))) (.one (.sc (.int ik))) k) h := h_rd _ (rw_load1 ht hc rfl) hk
theorem h_loadB {t : TypeId} {a : Addr} {x : Bool} (ht : aggB P t = false) (hc : CellIs I h a (.bool x)) (hk : holds P f I Q (k fun _ => { b := x }) h) : holds P f I Q (.rd (Instr.loadAt t (.pointer (some a))) (.one (.sc .bool)) k) h := h_rd _ (rw_load1 ht hc rfl) hk
theorem h_loadS {t : TypeId} {a : Addr} {x : ByteArray} (ht : aggB P t = false) (hc : CellIs I h a (.string x)) (hk : holds P f I Q (k fun _ => { s := x }) h) : holds P f I Q (.rd (Instr.loadAt t (.pointer (some a))) (.one (.sc .str)) k) h := h_rd _ (rw_load1 ht hc rfl) hk
theorem h_loadL {t : TypeId} {a : Addr} {A : Option Addr} {n c : Nat} (ht : aggB P t = false) (hc : CellIs I h a (.slice A n c)) (hk : holds P f I Q (k fun _ => { A := A, n := n, c := c }) h) : holds P f I Q (.rd (Instr.loadAt t (.pointer (some a))) (.one (.sc .sl)) k) h := h_rd _ (rw_load1 ht hc rfl) hk
theorem h_loadP {t : TypeId} {a : Addr} {A : Option Addr} (ht : aggB P t = false) (hc : CellIs I h a (.pointer A)) (hk : holds P f I Q (k fun _ => { A := A }) h) : holds P f I Q (.rd (Instr.loadAt t (.pointer (some a))) (.one (.sc .ptr)) k) h := h_rd _ (rw_load1 ht hc rfl) hk
theorem h_loadV {t : TypeId} {a : Addr} {v : Value} (ht : aggB P t = false) (hc : CellIs I h a v) (hk : holds P f I Q (k fun _ => { v := v }) h) : holds P f I Q (.rd (Instr.loadAt t (.pointer (some a))) (.one (.sc .v)) k) h := h_rd _ (rw_load1 ht hc rfl) hk
theorem h_loadA {t : TypeId} {a : Addr} {cs : List Value} (l : Nat → Leaf) (ht : aggY P t = true) (hs : sizeB P t = some cs.length) (hc : Cells I h a cs) (hv : (.agg ⟨cs⟩ : Value) = sh.val l) (hk : holds P f I Q (k l) h) :
    holds P f I Q (.rd (Instr.loadAt t (.pointer (some a))) sh k) h := h_rd l (rw_loadA ht hs hc hv) hk
theorem h_loadVA {t : TypeId} {a : Addr} {cs : List Value} (l : Nat → Leaf) (ht : aggY P t = true) (hs : sizeB P t = some cs.length) (hc : Cells I h a cs) (hv : (.agg ⟨cs⟩ : Value) = sh.val l) (hk : holds P f I Q (k l) h) :
    holds P f I Q (.rd (loadVar t a) sh k) h := h_rd l (rw_loadA ht hs hc hv) hk
theorem h_loadV1 {t : TypeId} {a : Addr} {v : Value} (l : Nat → Leaf) (ht : aggB P t = false) (hc : CellIs I h a v) (hv : v = sh.val l) (hk : holds P f I Q (k l) h) :
    holds P f I Q (.rd (loadVar t a) sh k) h := h_rd l (rw_load1 ht hc hv) hk
-- new blocks
theorem h_box {t : TypeId} {v : Value} (hk : ∀ g, g ∉ keys h → I g = none → holds P f I Q (k fun _ => { n := g }) ((g, .cells v.cells t (0, 0)) :: h)) : holds P f I Q (.sem (Instr.box t v) shBlk k) h :=
  fun _ g hg hI => ⟨fun _ => { n := g }, rfl, hk g hg hI⟩
theorem still_zero {t : TypeId} {z : Value} (hz : zeroB P t = some z) : still P (zeroValue t) = some z := by
  unfold zeroB at hz
  cases hi : P.info? t with
  | none => simp [hi] at hz
  | some ti =>
    rw [hi] at hz
    simp only [Option.bind_some] at hz
    unfold zeroValue
    rw [still_bind _ _ (still_typeInfo hi), hz]; rfl
theorem h_alloc {t : TypeId} {z : Value} (hz : zeroB P t = some z) (hk : ∀ g, g ∉ keys h → I g = none → holds P f I Q (k fun _ => { n := g }) ((g, .cells z.cells t (0, 0)) :: h)) : holds P f I Q (.sem (Instr.alloc t true (.tuple #[])) shBlk k) h := by
  intro _
  unfold Instr.alloc
  refine swp_still (still_zero hz) ?_
  exact fun g hg hI => ⟨fun _ => { n := g }, rfl, hk g hg hI⟩
/-- The cells of a literal. -/
def litB (P : Program) (t : TypeId) (n : Nat) (ps : Array (Nat × Value)) : Option (TypeId × Array Value) :=
  match P.underlying t with
  | some (.slice e) =>
    match sizeB P e with
    | some sz =>
      if n * sz > 2 ^ 24 then none else
      match (if n * sz = 0 then some #[] else (zeroB P e).map (·.cells)) with
      | some z => (Instr.fill (fun i => some (i * sz, sz)) ((Array.range (n * sz)).map (z[· % z.size]!)) ps.toList).map fun cs => (e, cs)
      | none => none
    | none => none
  | _ => none
theorem sw_row {t e : TypeId} {n : Nat} {ps : Array (Nat × Value)} {cs : Array Value} {R : Value → Mem → Prop} (hl : litB P t n ps = some (e, cs))
    (hk : ∀ g, g ∉ keys h → I g = none → R (.slice (some ⟨g, 0, none⟩) n n) ((g, .cells cs e (0, 0)) :: h)) : swp P I (Instr.buildSlice t n ps) h R := by
  unfold litB at hl
  cases hu : P.underlying t with
  | none => simp [hu] at hl
  | some u =>
    rw [hu] at hl
    cases u with
    | slice e' =>
      simp only at hl
      cases hs : sizeB P e' with
      | none => simp [hs] at hl
      | some sz =>
        rw [hs] at hl
        simp only at hl
        split at hl
        · cases hl
        · rename_i hbig
          unfold Instr.buildSlice
          refine swp_still (still_underlying hu) (swp_still (still_size hs) ?_)
          simp only [if_neg hbig]
          by_cases h0 : n * sz = 0
          · rw [if_pos h0] at hl
            simp only [Option.map_eq_some_iff, Prod.mk.injEq] at hl
            obtain ⟨cs', hf, rfl, rfl⟩ := hl
            simp only [if_pos h0, pure_bind, hf]
            exact hk
          · rw [if_neg h0] at hl
            cases hz : zeroB P e' with
            | none => simp [hz] at hl
            | some z =>
              rw [hz] at hl
              simp only [Option.map_some, Option.map_eq_some_iff, Prod.mk.injEq] at hl
              obtain ⟨cs', hf, rfl, rfl⟩ := hl
              simp only [if_neg h0, pure_bind]
              refine swp_still (still_zero hz) ?_
              simp only [hf]
              exact hk
    | _ => simp at hl
theorem h_row {t e : TypeId} {n : Nat} {ps : Array (Nat × Value)} (cs : Array Value) (hl : litB P t n ps = some (e, cs))
    (hk : ∀ g, g ∉ keys h → I g = none → holds P f I Q (k fun _ => { n := g }) ((g, .cells cs e (0, 0)) :: h)) : holds P f I Q (.sem (Instr.buildSlice t n ps) (.one (.sc (.row n))) k) h :=
  fun _ => sw_row hl fun g hg hI => ⟨fun _ => { n := g }, rfl, hk g hg hI⟩
-- calls
theorem h_call {g : FuncId} {args : List Value} {Qc : Value → Mem → Prop} (hc hr : Mem) (hca : callable P g) (hp : h.Perm (hc ++ hr)) (hf : Live I h → Fn P g ⟨args⟩ (plus I hr) hc Qc)
    (hk : ∀ v h1, Qc v h1 → ∃ l, v = sh.val l ∧ holds P f I Q (k l) (h1 ++ hr)) : holds P f I Q (.call g args sh k) h :=
  fun hl => ⟨hca, hc, hr, hp, (hf hl).mono hk⟩
/-- A call that is handed nothing that is held, and makes nothing. -/
theorem h_call0 {g : FuncId} {args : List Value} {v : Value} (l : Nat → Leaf) (hca : callable P g) (hf : Live I h → Fn P g ⟨args⟩ (plus I h) [] (fun u h1 => u = v ∧ h1 = [])) (hv : v = sh.val l)
    (hk : holds P f I Q (k l) h) : holds P f I Q (.call g args sh k) h :=
  h_call [] h hca (List.Perm.refl _) hf fun u h1 ⟨hu, h1e⟩ => ⟨l, hu.trans hv, by rw [h1e]; exact hk⟩
end
-- stores
theorem sw_storeCells {j b : Nat} {t0 : TypeId} : ∀ (vs : List Value) (off i : Nat) (arr : Array Value) {h : Mem} {R : Unit → Mem → Prop}, h[j]? = some (b, .cells arr t0 (0, 0)) → off + i + vs.length ≤ arr.size →
    (∀ v ∈ vs, (∀ x, v ≠ .agg x) ∧ ∀ x, v ≠ .tuple x) → (∀ arr' : Array Value, arr'.size = arr.size → (∀ q, arr'[q]? = if off + i ≤ q ∧ q < off + i + vs.length then vs[q - (off + i)]? else arr[q]?) → R () (h.set j (b, .cells arr' t0 (0, 0)))) →
    swp P I (storeCells ⟨b, off, none⟩ vs i) h R
  | [], off, i, arr, h, R, hj, hlen, hv, hr => by
    have := hr arr rfl (fun q => by rw [if_neg (by simp)])
    have he : h.set j (b, .cells arr t0 (0, 0)) = h := by
      apply List.ext_getElem?
      intro q
      rw [List.getElem?_set]
      split
      · rename_i hq; subst hq; rw [hj]; simp [(List.getElem?_eq_some_iff.1 hj).1]
      · rfl
    rw [he] at this
    exact this
  | v :: vs, off, i, arr, h, R, hj, hlen, hv, hr => by
    simp only [List.length_cons] at hlen
    have hjl := (List.getElem?_eq_some_iff.1 hj).1
    unfold storeCells
    rw [swp_bind, swp_store, add_plain]
    refine ⟨(hv v List.mem_cons_self).1, (hv v List.mem_cons_self).2, rfl, j, arr, t0, hj, by simp only; omega, ?_⟩
    simp only
    refine sw_storeCells (j := j) (b := b) (t0 := t0) vs off (i + 1) (arr.setIfInBounds (off + i) v) (by rw [List.getElem?_set, if_pos rfl, if_pos hjl]) (by simp; omega) (fun u hu => hv u (List.mem_cons_of_mem _ hu)) ?_
    intro arr' hs hq
    have h2 := hr arr' (by rw [hs]; simp) (fun q => ?_)
    · rw [List.set_set]; exact h2
    · rw [hq q]
      by_cases h1 : q = off + i
      · subst h1
        rw [if_neg (by omega), if_pos (by simp)]
        have : off + i < arr.size := by omega
        simp [this]
      · rw [Array.getElem?_setIfInBounds_ne (Ne.symm h1)]
        by_cases h3 : off + (i + 1) ≤ q ∧ q < off + (i + 1) + vs.length
        · rw [if_pos h3, if_pos (by simp; omega), show q - (off + i) = (q - (off + (i + 1))) + 1 by omega]
          simp
        · rw [if_neg h3, if_neg (by simp; omega)]
/-- A row with cells written. -/
def wr (arr : Array Value) (off : Nat) (vs : List Value) : Array Value := ⟨arr.toList.take off ++ vs ++ arr.toList.drop (off + vs.length)⟩
theorem wr_size {arr : Array Value} {off : Nat} {vs : List Value} (h : off + vs.length ≤ arr.size) : (wr arr off vs).size = arr.size := by
  simp only [wr, List.size_toArray, List.length_append, List.length_take, List.length_drop, Array.length_toList]
  omega
theorem wr_get {arr : Array Value} {off : Nat} {vs : List Value} (h : off + vs.length ≤ arr.size) (q : Nat) : (wr arr off vs)[q]? = if off ≤ q ∧ q < off + vs.length then vs[q - off]? else arr[q]? := by
  have h1 : (arr.toList.take off).length = off := by simp; omega
  show ((arr.toList.take off ++ vs ++ arr.toList.drop (off + vs.length)).toArray)[q]? = _
  rw [List.getElem?_toArray, List.append_assoc]
  by_cases h2 : q < off
  · rw [List.getElem?_append_left (by omega), if_neg (by omega), List.getElem?_take, if_pos h2]; simp
  · rw [List.getElem?_append_right (by omega), h1]
    by_cases h3 : q < off + vs.length
    · rw [List.getElem?_append_left (by omega), if_pos (by omega)]
    · rw [List.getElem?_append_right (by omega), if_neg (by omega), List.getElem?_drop, show off + vs.length + (q - off - vs.length) = q by omega]; simp
theorem arr_ext {a b : Array Value} (h : ∀ q : Nat, a[q]? = b[q]?) : a = b := by
  apply Array.ext'
  apply List.ext_getElem?
  intro q
  have := h q
  simpa using this
theorem sw_store {t t0 : TypeId} {v : Value} {j b off : Nat} {arr : Array Value} {R : Unit → Mem → Prop} (hj : h[j]? = some (b, .cells arr t0 (0, 0))) (hs : sizeB P t = some v.cells.size) (hlen : off + v.cells.size ≤ arr.size)
    (hv : ∀ u ∈ v.cells.toList, (∀ x, u ≠ .agg x) ∧ ∀ x, u ≠ .tuple x) (hr : R () (h.set j (b, .cells (wr arr off v.cells.toList) t0 (0, 0)))) : swp P I (Instr.storeAt t (.pointer (some ⟨b, off, none⟩)) v) h R := by
  show swp P I (storeVar t ⟨b, off, none⟩ v) h R
  unfold storeVar
  refine swp_still (still_size hs) ?_
  simp only [ne_eq, not_true_eq_false, if_false]
  refine sw_storeCells v.cells.toList off 0 arr hj (by simpa using hlen) hv ?_
  intro arr' hs' hq
  have : arr' = wr arr off v.cells.toList := arr_ext fun q => by rw [hq q, wr_get (by simpa using hlen)]; simp
  rw [this]; exact hr
theorem h_store {t t0 : TypeId} {v : Value} {k : Tr} (j : Nat) {b off : Nat} {arr : Array Value} (hj : h[j]? = some (b, .cells arr t0 (0, 0))) (hs : sizeB P t = some v.cells.size) (hlen : off + v.cells.size ≤ arr.size)
    (hv : ∀ u ∈ v.cells.toList, (∀ x, u ≠ .agg x) ∧ ∀ x, u ≠ .tuple x) (hk : holds P f I Q k (h.set j (b, .cells (wr arr off v.cells.toList) t0 (0, 0)))) :
    holds P f I Q (.unit (Instr.storeAt t (.pointer (some ⟨b, off, none⟩)) v) k) h := fun _ => sw_store hj hs hlen hv hk
end
end Go.Proofs.YtcafalcmfdnojaaDoorS
