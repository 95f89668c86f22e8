/- Rules that find their block by themselves. -/
import Derived.Test.YtcafalcmfdnojaaDoorSS
set_option linter.unusedVariables false
namespace Go.Proofs.YtcafalcmfdnojaaDoorS
section
variable {P : Program} {I : Ctx} {f : Ctl} {Q : Value → Mem → Prop} {h : Mem}
theorem cellM {b off : Nat} {arr : Array Value} {t : TypeId} {fz : Nat × Nat} {v : Value} (hm : (b, .cells arr t fz) ∈ h) (hv : arr[off]? = some v) : CellIs I h ⟨b, off, none⟩ v := ⟨rfl, arr, t, fz, .inl hm, hv⟩
theorem cellsM {b off n : Nat} {arr : Array Value} {t : TypeId} {fz : Nat × Nat} (hm : (b, .cells arr t fz) ∈ h) : Cells I h ⟨b, off, none⟩ ((arr.toList.drop off).take n) := by
  intro i v hi
  rw [add_plain]
  refine cellM hm ?_
  rw [List.getElem?_take] at hi
  split at hi
  · rw [List.getElem?_drop] at hi; simpa using hi
  · cases hi
theorem cellsM' {b off : Nat} {cs : List Value} {arr : Array Value} {t : TypeId} {fz : Nat × Nat} (hm : (b, .cells arr t fz) ∈ h) (hv : (arr.toList.drop off).take cs.length = cs) : Cells I h ⟨b, off, none⟩ cs := by
  rw [← hv]; exact cellsM hm
theorem mq0 {x : Nat × Obj} {l : Mem} : x ∈ x :: l := List.mem_cons_self
theorem mq1 {x y : Nat × Obj} {l : Mem} (h : x ∈ l) : x ∈ y :: l := List.mem_cons_of_mem _ h
theorem mq2 {x : Nat × Obj} {l m : Mem} (h : x ∈ l) : x ∈ m ++ l := List.mem_append_right _ h
/-- One entry of the list is another one now. -/
def Upd (h : Mem) (x y : Nat × Obj) (h' : Mem) : Prop := ∃ j : Nat, h[j]? = some x ∧ h' = h.set j y
theorem Upd.here {x y : Nat × Obj} {l : Mem} : Upd (x :: l) x y (y :: l) := ⟨0, rfl, rfl⟩
theorem Upd.there {x y z : Nat × Obj} {l l' : Mem} (h : Upd l x y l') : Upd (z :: l) x y (z :: l') := by
  obtain ⟨j, h1, rfl⟩ := h
  exact ⟨j + 1, by simpa using h1, by simp⟩
theorem Upd.right {x y : Nat × Obj} {l l' m : Mem} (h : Upd l x y l') : Upd (m ++ l) x y (m ++ l') := by
  obtain ⟨j, h1, rfl⟩ := h
  refine ⟨m.length + j, ?_, ?_⟩
  · rw [List.getElem?_append_right (by omega)]
    simpa using h1
  · rw [List.set_append_right _ _ (by omega)]
    simp
theorem h_storeU {t t0 : TypeId} {v : Value} {k : Tr} {b off : Nat} {arr : Array Value} {h' : Mem} (hu : Upd h (b, .cells arr t0 (0, 0)) (b, .cells (wr arr off v.cells.toList) t0 (0, 0)) h') (hs : sizeB P t = some v.cells.size) (hlen : off + v.cells.size ≤ arr.size)
    (hv : ∀ u ∈ v.cells.toList, (∀ x, u ≠ .agg x) ∧ ∀ x, u ≠ .tuple x) (hk : holds P f I Q k h') :
    holds P f I Q (.unit (Instr.storeAt t (.pointer (some ⟨b, off, none⟩)) v) k) h := by
  obtain ⟨j, hj, rfl⟩ := hu
  exact h_store j hj hs hlen hv hk
theorem rw_loadAM {t : TypeId} {b off n : Nat} {arr : Array Value} {t0 : TypeId} {fz : Nat × Nat} {R : Value → Prop} (hm : (b, .cells arr t0 fz) ∈ h) (ht : aggY P t = true) (hs : sizeB P t = some n) (hl : off + n ≤ arr.size)
    (hr : R (.agg ⟨(arr.toList.drop off).take n⟩)) : rwp P I h (loadVar t ⟨b, off, none⟩) R :=
  rw_loadA ht (by rw [hs]; simp; omega) (cellsM hm) hr
section
variable {sh : Sh} {k : (Nat → Leaf) → Tr}
theorem h_loadAM {t : TypeId} {b off : Nat} {arr : Array Value} {t0 : TypeId} {fz : Nat × Nat} (n : Nat) (l : Nat → Leaf) (hm : (b, .cells arr t0 fz) ∈ h) (ht : aggY P t = true) (hs : sizeB P t = some n) (hl : off + n ≤ arr.size)
    (hv : (.agg ⟨(arr.toList.drop off).take n⟩ : Value) = sh.val l) (hk : holds P f I Q (k l) h) : holds P f I Q (.rd (Instr.loadAt t (.pointer (some ⟨b, off, none⟩))) sh k) h :=
  h_rd l (rw_loadAM hm ht hs hl hv) hk
theorem h_loadVAM {t : TypeId} {b off : Nat} {arr : Array Value} {t0 : TypeId} {fz : Nat × Nat} (n : Nat) (l : Nat → Leaf) (hm : (b, .cells arr t0 fz) ∈ h) (ht : aggY P t = true) (hs : sizeB P t = some n) (hl : off + n ≤ arr.size)
    (hv : (.agg ⟨(arr.toList.drop off).take n⟩ : Value) = sh.val l) (hk : holds P f I Q (k l) h) : holds P f I Q (.rd (loadVar t ⟨b, off, none⟩) sh k) h :=
  h_rd l (rw_loadAM hm ht hs hl hv) hk
theorem h_pin1M {t : TypeId} {b off : Nat} {arr : Array Value} {t0 : TypeId} {fz : Nat × Nat} {v : Value} {T : Tr} (hm : (b, .cells arr t0 fz) ∈ h) (ht : aggB P t = false) (hv : arr[off]? = some v) (hk : holds P f I Q T h) :
    holds P f I Q (.pin (vN (Instr.loadAt t (.pointer (some ⟨b, off, none⟩)))) v T) h := h_pin (rwp_vN (rw_load1 ht (cellM hm hv) rfl)) hk
theorem h_pinAM {t : TypeId} {b off : Nat} {arr : Array Value} {t0 : TypeId} {fz : Nat × Nat} {v : Value} {T : Tr} (n : Nat) (hm : (b, .cells arr t0 fz) ∈ h) (ht : aggY P t = true) (hs : sizeB P t = some n) (hl : off + n ≤ arr.size)
    (hv : (.agg ⟨(arr.toList.drop off).take n⟩ : Value) = v) (hk : holds P f I Q T h) :
    holds P f I Q (.pin (vN (Instr.loadAt t (.pointer (some ⟨b, off, none⟩)))) v T) h := h_pin (rwp_vN (rw_loadAM hm ht hs hl (by rw [hv]))) hk
end
theorem RdC.byte {A : Option Addr} {l : List UInt8} {i : Nat} {b : UInt8} (hr : RdC I h A (bC l)) (hb : l[i]? = some b) : ∃ a, A = some a ∧ CellIs I h (a.add i) (.int .u8 (b.toNat : Int)) := by
  obtain ⟨a, h1, h2⟩ := hr (fun he => by have := congrArg List.length he; simp at this; subst this; simp at hb)
  exact ⟨a, h1, h2 i _ (by simp [bC, hb])⟩
/-- A byte of a slice. -/
theorem h_byte {t e t2 : TypeId} {ik : IntKind} {x : Int} {A : Option Addr} {n c : Nat} {l : List UInt8} {b : UInt8} {k : (Nat → Leaf) → (Nat → Leaf) → Tr} (i : Nat) (hr : RdC I h A (bC l)) (hb : l[i]? = some b) (hl : l.length = n) (hx : x = (i : Int))
    (ht : P.underlying t = some (.slice e)) (hs : sizeB P e = some 1) (ht2 : aggB P t2 = false)
    (hk : ∀ a', CellIs I h a' (.int .u8 (b.toNat : Int)) → holds P f I Q (k (fun _ => { a := a' }) (fun _ => { i := (b.toNat : Int) })) h) :
    holds P f I Q (.rd (Instr.indexAt t (.slice A n c) (.int ik x)) shPadr fun l => .rd (Instr.loadAt t2 (.pointer (some ((l 0).a)))) (.one (.sc (.int .u8))) (k l)) h := by
  obtain ⟨a, rfl, hc⟩ := hr.byte hb
  have hi := (List.getElem?_eq_some_iff.1 hb).1
  subst hx
  refine h_index a ht hs (by omega) (by omega) rfl ?_
  rw [Int.toNat_natCast, Nat.mul_one]
  exact h_loadI ht2 hc (hk _ hc)
/-- A byte of a slice whose row is known. -/
theorem h_byteI {t e t2 : TypeId} {ik : IntKind} {x : Int} {a : Addr} {n c : Nat} {b : UInt8} {k : (Nat → Leaf) → (Nat → Leaf) → Tr} (i : Nat) (hc : CellIs I h (a.add i) (.int .u8 (b.toNat : Int))) (hi : i < n) (hx : x = (i : Int))
    (ht : P.underlying t = some (.slice e)) (hs : sizeB P e = some 1) (ht2 : aggB P t2 = false)
    (hk : holds P f I Q (k (fun _ => { a := a.add i }) (fun _ => { i := (b.toNat : Int) })) h) :
    holds P f I Q (.rd (Instr.indexAt t (.slice (some a) n c) (.int ik x)) shPadr fun l => .rd (Instr.loadAt t2 (.pointer (some ((l 0).a)))) (.one (.sc (.int .u8))) (k l)) h := by
  subst hx
  refine h_index a ht hs (by omega) (by omega) rfl ?_
  rw [Int.toNat_natCast, Nat.mul_one]
  exact h_loadI ht2 hc hk
theorem h_pinC {t : TypeId} {a : Addr} {v : Value} {T : Tr} (hc : CellIs I h a v) (ht : aggB P t = false) (hk : holds P f I Q T h) : holds P f I Q (.pin (vN (Instr.loadAt t (.pointer (some a)))) v T) h :=
  h_pin (rwp_vN (rw_load1 ht hc rfl)) hk
theorem h_pinI {t e : TypeId} {ik : IntKind} {x : Int} {a : Addr} {n c : Nat} {T : Tr} (i : Nat) (hi : i < n) (hx : x = (i : Int)) (ht : P.underlying t = some (.slice e)) (hs : sizeB P e = some 1) (hk : holds P f I Q T h) :
    holds P f I Q (.pin (vN (Instr.indexAt t (.slice (some a) n c) (.int ik x))) (.pointer (some (a.add i))) T) h := by
  subst hx
  refine h_pin (rwp_vN (rw_index (a := a) ht hs (by omega) (by omega) rfl ?_)) hk
  rw [Int.toNat_natCast, Nat.mul_one]
theorem RdB.cells {A : Option Addr} {n : Nat} {l : List UInt8} (h : RdB I A n l) (hn : 0 < n) : ∃ a, A = some a ∧ ∀ i b, l[i]? = some b → CellIs I [] (a.add i) (.int .u8 (b.toNat : Int)) := by
  have hl := h.len
  obtain ⟨a, h1, h2⟩ := h.rd (fun he => by have := congrArg List.length he; simp at this; subst this; simp at hl; omega)
  exact ⟨a, h1, fun i b hb => h2 i _ (by simp [bC, hb])⟩
theorem RdB.take {A : Option Addr} {n : Nat} {l : List UInt8} (h : RdB I A n l) {i : Nat} (hi : i ≤ n) : RdB I A i (l.take i) := by
  have hl := h.len
  refine ⟨by simp; omega, fun hA => by have := h.nil hA; omega, ?_⟩
  have := h.rd.take i
  simpa [bC, List.map_take] using this
theorem RdB.rest {A : Option Addr} {n c : Nat} {l : List UInt8} (h : RdB I A n l) {i : Nat} (hi : i ≤ n) (hc : n ≤ c) : RdB I (cutA A i c 1) (n - i) (l.drop i) := by
  have hl := h.len
  refine ⟨by simp; omega, fun hA => ?_, ?_⟩
  · unfold cutA at hA
    split at hA
    · have := h.nil hA; omega
    · cases A with
      | none => have := h.nil rfl; omega
      | some a => cases hA
  · have := h.rd.cut (l := i) (u := n) (m := c) (sz := 1) hc
    rw [Nat.mul_one, Nat.mul_one, List.take_of_length_le (by simp; omega)] at this
    simpa [bC, List.map_drop] using this
theorem rw_convS {src dst e : TypeId} {A : Option Addr} {n c : Nat} {l : List UInt8} {R : Next → Prop} (hs : P.underlying src = some (.slice e)) (he : P.underlying e = some (.int .u8)) (hd : isStr P dst = true) (hl : l.length = n) (hc : RdC I h A (bC l)) (hA : A = none → n = 0)
    (hr : R (.value (.string (bS l)))) : rwp P I h (convN src dst (.slice A n c)) R := by
  unfold convN
  refine rwp_vN ?_
  unfold convert
  refine rwp_still (still_underlying hs) ?_
  refine rwp_still (still_underlying (isStr_out hd)) ?_
  show rwp P I h (underlying e >>= fun _ => _) _
  refine rwp_still (still_underlying he) ?_
  exact rw_toString hl hc hA hr
section
variable {sh : Sh} {k : (Nat → Leaf) → Tr}
def okA (P : Program) (t : TypeId) (n : Nat) : Bool := aggY P t && sizeB P t == some n
theorem okA_out {t : TypeId} {n : Nat} (h : okA P t n = true) : aggY P t = true ∧ sizeB P t = some n := by
  unfold okA at h
  rw [Bool.and_eq_true, beq_iff_eq] at h
  exact h
theorem rw_laG {t : TypeId} {b off : Nat} {arr : Array Value} {t0 : TypeId} {fz : Nat × Nat} {cs : List Value} {R : Value → Prop} (hm : (b, .cells arr t0 fz) ∈ h) (hv : (arr.toList.drop off).take cs.length = cs) (ht : okA P t cs.length = true) (hr : R (.agg ⟨cs⟩)) : rwp P I h (loadVar t ⟨b, off, none⟩) R := by
  obtain ⟨h1, h2⟩ := okA_out ht
  exact rw_loadA h1 h2 (cellsM' hm hv) hr
theorem laG {t : TypeId} {b off : Nat} {arr : Array Value} {t0 : TypeId} {fz : Nat × Nat} (cs : List Value) (l : Nat → Leaf) (hm : (b, .cells arr t0 fz) ∈ h) (hv : (arr.toList.drop off).take cs.length = cs) (ht : okA P t cs.length = true) (hs : (.agg ⟨cs⟩ : Value) = sh.val l)
    (hk : holds P f I Q (k l) h) : holds P f I Q (.rd (Instr.loadAt t (.pointer (some ⟨b, off, none⟩))) sh k) h := h_rd l (rw_laG hm hv ht hs) hk
theorem lvG {t : TypeId} {b off : Nat} {arr : Array Value} {t0 : TypeId} {fz : Nat × Nat} (cs : List Value) (l : Nat → Leaf) (hm : (b, .cells arr t0 fz) ∈ h) (hv : (arr.toList.drop off).take cs.length = cs) (ht : okA P t cs.length = true) (hs : (.agg ⟨cs⟩ : Value) = sh.val l)
    (hk : holds P f I Q (k l) h) : holds P f I Q (.rd (loadVar t ⟨b, off, none⟩) sh k) h := h_rd l (rw_laG hm hv ht hs) hk
theorem ldI {t : TypeId} {b off : Nat} {arr : Array Value} {t0 : TypeId} {fz : Nat × Nat} {ik : IntKind} {x : Int} (hm : (b, .cells arr t0 fz) ∈ h) (hv : arr[off]? = some (.int ik x)) (ht : aggB P t = false) (hk : holds P f I Q (k fun _ => { i := x }) h) :
    holds P f I Q (.rd (Instr.loadAt t (.pointer (some ⟨b, off, none⟩))) (.one (.sc (.int ik))) k) h := h_loadI ht (cellM hm hv) hk
theorem ldB {t : TypeId} {b off : Nat} {arr : Array Value} {t0 : TypeId} {fz : Nat × Nat} {x : Bool} (hm : (b, .cells arr t0 fz) ∈ h) (hv : arr[off]? = some (.bool x)) (ht : aggB P t = false) (hk : holds P f I Q (k fun _ => { b := x }) h) :
    holds P f I Q (.rd (Instr.loadAt t (.pointer (some ⟨b, off, none⟩))) (.one (.sc .bool)) k) h := h_loadB ht (cellM hm hv) hk
theorem ldS {t : TypeId} {b off : Nat} {arr : Array Value} {t0 : TypeId} {fz : Nat × Nat} {x : ByteArray} (hm : (b, .cells arr t0 fz) ∈ h) (hv : arr[off]? = some (.string x)) (ht : aggB P t = false) (hk : holds P f I Q (k fun _ => { s := x }) h) :
    holds P f I Q (.rd (Instr.loadAt t (.pointer (some ⟨b, off, none⟩))) (.one (.sc .str)) k) h := h_loadS ht (cellM hm hv) hk
theorem ldL {t : TypeId} {b off : Nat} {arr : Array Value} {t0 : TypeId} {fz : Nat × Nat} {A : Option Addr} {n c : Nat} (hm : (b, .cells arr t0 fz) ∈ h) (hv : arr[off]? = some (.slice A n c)) (ht : aggB P t = false) (hk : holds P f I Q (k fun _ => { A := A, n := n, c := c }) h) :
    holds P f I Q (.rd (Instr.loadAt t (.pointer (some ⟨b, off, none⟩))) (.one (.sc .sl)) k) h := h_loadL ht (cellM hm hv) hk
theorem ldP {t : TypeId} {b off : Nat} {arr : Array Value} {t0 : TypeId} {fz : Nat × Nat} {A : Option Addr} (hm : (b, .cells arr t0 fz) ∈ h) (hv : arr[off]? = some (.pointer A)) (ht : aggB P t = false) (hk : holds P f I Q (k fun _ => { A := A }) h) :
    holds P f I Q (.rd (Instr.loadAt t (.pointer (some ⟨b, off, none⟩))) (.one (.sc .ptr)) k) h := h_loadP ht (cellM hm hv) hk
theorem pn1 {t : TypeId} {b off : Nat} {arr : Array Value} {t0 : TypeId} {fz : Nat × Nat} {v : Value} {T : Tr} (hm : (b, .cells arr t0 fz) ∈ h) (hv : arr[off]? = some v) (ht : aggB P t = false) (hk : holds P f I Q T h) :
    holds P f I Q (.pin (vN (Instr.loadAt t (.pointer (some ⟨b, off, none⟩)))) v T) h := h_pin1M hm ht hv hk
theorem pnA {t : TypeId} {b off : Nat} {arr : Array Value} {t0 : TypeId} {fz : Nat × Nat} {cs : List Value} {T : Tr} (hm : (b, .cells arr t0 fz) ∈ h) (hv : (arr.toList.drop off).take cs.length = cs) (ht : okA P t cs.length = true) (hk : holds P f I Q T h) :
    holds P f I Q (.pin (vN (Instr.loadAt t (.pointer (some ⟨b, off, none⟩)))) (.agg ⟨cs⟩) T) h := h_pin (rwp_vN (rw_laG hm hv ht rfl)) hk
/-- A store into a block that is found. -/
theorem stU {t t0 : TypeId} {v : Value} {k : Tr} {b off : Nat} {arr : Array Value} {h' : Mem} (hu : Upd h (b, .cells arr t0 (0, 0)) (b, .cells (wr arr off v.cells.toList) t0 (0, 0)) h') (hs : sizeB P t = some v.cells.size) (hlen : Nat.ble (off + v.cells.size) arr.size = true)
    (hv : ∀ u ∈ v.cells.toList, (∀ x, u ≠ .agg x) ∧ ∀ x, u ≠ .tuple x) (hk : holds P f I Q k h') : holds P f I Q (.unit (Instr.storeAt t (.pointer (some ⟨b, off, none⟩)) v) k) h :=
  h_storeU hu hs (Nat.le_of_ble_eq_true hlen) hv hk
end
/-- These are held, and those besides. -/
def Pick (h m g : Mem) : Prop := h.Perm (m ++ g)
theorem Pick.nil : Pick h [] h := List.Perm.refl _
theorem Pick.here {m g : Mem} : Pick (m ++ g) m g := List.Perm.refl _
theorem Pick.one {x : Nat × Obj} {g : Mem} : Pick (x :: g) [x] g := List.Perm.refl _
theorem Pick.all : Pick h h [] := by unfold Pick; simp
theorem Pick.cons {x : Nat × Obj} {m g : Mem} (p : Pick h m g) : Pick (x :: h) m (x :: g) := by
  unfold Pick at p ⊢
  exact (p.cons x).trans List.perm_middle.symm
theorem Pick.app {k m g : Mem} (p : Pick h m g) : Pick (k ++ h) m (k ++ g) := by
  unfold Pick at p ⊢
  refine (p.append_left k).trans ?_
  have := (List.perm_append_comm (l₁ := k) (l₂ := m)).append_right g
  simpa using this
theorem Pick.two {m1 m2 g1 g2 : Mem} (p : Pick h m1 g1) (q : Pick g1 m2 g2) : Pick h (m1 ++ m2) g2 := by
  unfold Pick at p q ⊢
  refine p.trans ?_
  have := q.append_left m1
  simpa using this
theorem Pick.perm {m g : Mem} (p : Pick h m g) : h.Perm (m ++ g) := p
end
end Go.Proofs.YtcafalcmfdnojaaDoorS
