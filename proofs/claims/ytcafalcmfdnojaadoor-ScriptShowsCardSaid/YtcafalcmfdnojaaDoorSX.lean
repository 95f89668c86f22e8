/- Arrays behind a pointer; a string behind a row of bytes; a row's bytes as a string. -/
import Derived.Test.YtcafalcmfdnojaaDoorSU
import Derived.Test.YtcafalcmfdnojaaDoorSS
import Derived.Lib.UnsafeStr
set_option linter.unusedVariables false
namespace Go.Proofs.YtcafalcmfdnojaaDoorS
section
variable {P : Program} {I : Ctx} {f : Ctl} {Q : Value → Mem → Prop} {h : Mem} {k : (Nat → Leaf) → Tr}
theorem rw_indexP {t e : TypeId} {sz n : Nat} {a : Addr} {ik : IntKind} {i : Int} {R : Value → Prop} (ht : P.underlying t = some (.array n e)) (hs : sizeB P e = some sz) (h0 : 0 ≤ i) (h1 : i < n)
    (hr : R (.pointer (some (a.add (i.toNat * sz))))) : rwp P I h (Instr.indexAt t (.pointer (some a)) (.int ik i)) R := by
  unfold Instr.indexAt
  refine rwp_still (a := (ik, i)) rfl ?_
  refine rwp_still (still_underlying ht) ?_
  refine rwp_still (a := (some a, n, e)) rfl ?_
  refine rwp_still (still_underlying ht) ?_
  show rwp P I h (if 0 ≤ i ∧ i < (n : Int) then _ else _) R
  rw [if_pos ⟨h0, h1⟩]
  refine rwp_still (still_size hs) ?_
  exact hr
theorem h_indexP {t e : TypeId} {sz n b : Nat} {ik : IntKind} {i : Int} (j : Nat) (ht : P.underlying t = some (.array n e)) (hs : sizeB P e = some sz) (hi : i = (j : Int)) (h1 : j < n)
    (hk : holds P f I Q (k fun _ => { a := ⟨b, j * sz, none⟩ }) h) : holds P f I Q (.rd (Instr.indexAt t (.pointer (some ⟨b, 0, none⟩)) (.int ik i)) shPadr k) h := by
  subst hi
  exact h_rd _ (rw_indexP (a := ⟨b, 0, none⟩) ht hs (by omega) (by omega) (by rw [add_plain, Nat.zero_add, Int.toNat_natCast]; rfl)) hk
theorem h_cutP {t e : TypeId} {sz n : Nat} {a : Addr} (ht : P.underlying t = some (.array n e)) (hs : sizeB P e = some sz) (hn : 0 < n)
    (hk : holds P f I Q (k fun _ => { A := some a, n := n, c := n }) h) : holds P f I Q (.rd (Instr.sliceAt t (.pointer (some a)) none none none) shSl k) h := by
  refine h_rd (fun _ => { A := some a, n := n, c := n }) ?_ hk
  unfold Instr.sliceAt
  refine rwp_still (still_underlying ht) ?_
  refine rwp_still (a := a) rfl ?_
  show rwp P I h (Instr.sliceBounds false n n none none none >>= fun _ => _) _
  rw [rwp_bind]
  refine rw_bounds (l := 0) (u := n) (m := n) rfl rfl rfl (fun h => absurd rfl h) (Nat.zero_le _) (Nat.le_refl _) (Nat.le_refl _) ?_
  refine rwp_still (still_size hs) ?_
  show (Value.slice (some (if n = 0 then a else a.add (0 * sz))) (n - 0) (n - 0)) = _
  rw [if_neg (by omega), Nat.zero_mul, addr_add0]
  rfl
/-- A string behind a row of bytes. -/
theorem h_appendS (hQ : Aff Q) {ts tx e ty : TypeId} {by_ : Nat} {z : Value} {cons : Array Bool} (hb : ElemB P ts e 1 by_ z) (hx : noInt P tx = true) {A : Option Addr} {n c : Nat} {cs : List Value} {l : List UInt8} {m hr : Mem}
    (hp : h.Perm (m ++ hr)) (ho : Own e 1 A n c cs m) (hbd : (n + l.length) * by_ ≤ 140737488355328) (hby : 0 < by_)
    (hk : ∀ A' c' m', (n + l.length ≤ c → A' = A) → Own e 1 A' (n + l.length) c' (cs ++ bC l) m' → holds P f I Q (k fun _ => { A := A', n := n + l.length, c := c' }) (m' ++ hr)) :
    holds P f I Q (.nx (builtin .append #[ts, tx] ty cons #[.slice A n c, .string (bS l)]) shSl k) h := by
  intro _
  refine swp_vN (sw_append (K := fun v h' => ∃ l, Next.value v = .value (shSl.val l) ∧ holds P f I Q (k l) h') (n2 := l.length) (cs2 := bC l) hb (noInt_out hx) (by show (pure (bS l).size : Sem Nat) = _; rw [bS_size]) (fun R hr => ?_) (by simp [bC]) (bC_plain l) hp ho hbd hby ?_ ?_)
  · show R (((bS l).extract 0 l.length).data.map fun b => .int .u8 b.toNat)
    have e : ((bS l).extract 0 l.length).data.map (fun b => (.int .u8 b.toNat : Value)) = ⟨bC l⟩ := by
      have e1 : (bS l).extract 0 l.length = bS l := by rw [← bS_size l]; exact ByteArray.extract_zero_size
      rw [e1]
      simp [bS, bC]
    rw [e]; exact hr
  · intro A' c' m' h' hA' hp' ho'
    exact ⟨fun _ => { A := A', n := n + l.length, c := c' }, rfl, holds_perm hQ hp' (hk A' c' m' (fun hc => (hA' hc).1) ho')⟩
  · rintro v h1 g h2 hp2 ⟨l, hv, hh⟩
    exact ⟨l, hv, holds_drop hQ hp2 hh⟩
theorem h_sliceData {t ty : TypeId} {cons : Array Bool} {A : Option Addr} {n c : Nat} (hc : A ≠ none → c ≠ 0) (hk : holds P f I Q (k fun _ => { A := A }) h) :
    holds P f I Q (.nx (builtin .unsafeSliceData #[t] ty cons #[.slice A n c]) (.one (.sc .ptr)) k) h := by
  intro _
  refine swp_vN ?_
  show swp P I (Builtin.unsafeSliceData_ #[t] ty #[.slice A n c]) h _
  unfold Builtin.unsafeSliceData_
  cases A with
  | none => exact ⟨_, rfl, hk⟩
  | some a =>
    show swp P I (if c ≠ 0 then _ else _) h _
    rw [if_pos (hc (by simp))]
    exact ⟨_, rfl, hk⟩
theorem h_unsafeNil {pt it ty : TypeId} {cons : Array Bool} (hk : holds P f I Q (k fun _ => { s := bS [] }) h) :
    holds P f I Q (.nx (builtin .unsafeString #[pt, it] ty cons #[.pointer none, .int .i64 0]) (.one (.sc .str)) k) h := by
  intro _
  refine swp_vN ?_
  have hdef : Builtin.unsafeString_ #[pt, it] ty #[.pointer none, .int .i64 0] = (pure (.string .empty) : Sem Value) := rfl
  show swp P I (Builtin.unsafeString_ #[pt, it] ty #[.pointer none, .int .i64 0]) h _
  rw [hdef]
  exact ⟨_, rfl, hk⟩
theorem sw_loadBytes : ∀ (l m : List UInt8) {a : Addr} {R : ByteArray → Mem → Prop}, (∀ j x, l[j]? = some x → CellIs I h (a.add j) (.int .u8 (x.toNat : Int))) → R (bS (m ++ l)) h → swp P I (loadBytes a (bS m) l.length) h R
  | [], m, a, R, _, hr => by rw [List.append_nil] at hr; exact hr
  | x :: l, m, a, R, hc, hr => by
    show swp P I (load a >>= fun _ => _) h R
    rw [swp_bind]
    refine ⟨_, by have := hc 0 x rfl; rwa [addr_add0] at this, ?_⟩
    show swp P I (loadBytes (a.add 1) ((bS m).push ((x.toNat : Int).toNat.toUInt8)) l.length) h R
    rw [show ((x.toNat : Int).toNat.toUInt8) = x by simp, bS_push]
    exact sw_loadBytes l (m ++ [x]) (fun j y hy => by rw [add_add, Nat.add_comm 1 j]; exact hc (j + 1) y hy) (by simpa using hr)
/-- A row's bytes as a string: the row itself is given up. -/
theorem h_unsafeString (hQ : Aff Q) {pt it ty e : TypeId} {cons : Array Bool} {b : Nat} {arr : Array Value} {l : List UInt8} {hr : Mem} (ht : P.underlying pt = some (.pointer e)) (hc : P.cellsOf e = 1) (hp : h.Perm ([(b, .cells arr e (0, 0))] ++ hr)) (hl : l ≠ [])
    (harr : arr.toList.take l.length = bC l) (hbd : l.length ≤ 1000000000000) (hk : holds P f I Q (k fun _ => { s := bS l }) hr) :
    holds P f I Q (.nx (builtin .unsafeString #[pt, it] ty cons #[.pointer (some ⟨b, 0, none⟩), .int .i64 ((l.length : Nat) : Int)]) (.one (.sc .str)) k) h := by
  intro _
  refine swp_vN ?_
  show swp P I (Builtin.unsafeString_ #[pt, it] ty #[.pointer (some ⟨b, 0, none⟩), .int .i64 ((l.length : Nat) : Int)]) h _
  have hn : l.length ≠ 0 := by simpa using hl
  have hdef : Builtin.unsafeString_ #[pt, it] ty #[.pointer (some ⟨b, 0, none⟩), .int .i64 l.length] =
      (do
        let n ← asInt (.int .i64 l.length)
        if n < 0 then runtimePanic (.error "unsafe.String: len out of range")
        if n > IntKind.i64.max then unsupported (.unsafePointer "String: a length above the largest int")
        if n = 0 then pure (.string .empty)
        else if ← variablesAt ⟨b, 0, none⟩ (← elemOf pt) n.toNat then do
          let s ← loadBytes ⟨b, 0, none⟩ .empty n.toNat
          freeze ⟨b, 0, none⟩ n.toNat
          pure (.string s)
        else unsupported (.unsafePointer "String: not so many bytes at ptr")) := rfl
  rw [hdef]
  refine swp_still (a := ((l.length : Nat) : Int)) rfl ?_
  show swp P I (if ((l.length : Nat) : Int) < 0 then _ else _) h _
  rw [if_neg (by omega)]
  show swp P I (if ((l.length : Nat) : Int) > 9223372036854775807 then _ else _) h _
  rw [if_neg (by omega)]
  show swp P I (if ((l.length : Nat) : Int) = 0 then _ else _) h _
  rw [if_neg (by omega)]
  refine swp_still (a := e) ?_ ?_
  · unfold elemOf
    rw [still_bind _ _ (still_underlying ht)]
    rfl
  have hlen : l.length ≤ arr.size := by
    have := congrArg List.length harr
    simp [bC] at this
    omega
  obtain ⟨j, hj⟩ := List.getElem?_of_mem (hp.mem_iff.2 (List.mem_append_left hr List.mem_cons_self))
  show swp P I (variablesAt ⟨b, 0, none⟩ e ((l.length : Nat) : Int).toNat >>= fun _ => _) h _
  rw [Int.toNat_natCast, swp_bind]
  show swp P I (shape b >>= fun _ => _) h _
  rw [swp_bind]
  refine ⟨arr, e, (0, 0), .inl (List.mem_of_getElem? hj), ?_⟩
  show swp P I (if liesAt P P.depth e (arr.size / P.cellsOf e) 0 e l.length = true then _ else _) h _
  rw [if_pos (Lib.liesAt_bytes hc _ _ (by rw [hc]; simpa using hlen))]
  rw [swp_bind]
  refine sw_loadBytes (P := P) l [] (fun q x hx => ?_) ?_
  · rw [add_plain, Nat.zero_add]
    refine cell_own hj ?_
    have h1 : (arr.toList.take l.length)[q]? = some (.int .u8 (x.toNat : Int)) := by rw [harr]; simp [bC, hx]
    rw [List.getElem?_take] at h1
    split at h1
    · simpa using h1
    · cases h1
  · show swp P I (freeze ⟨b, 0, none⟩ l.length >>= fun _ => pure (Value.string (bS ([] ++ l)))) h _
    rw [swp_bind]
    refine .inr ⟨j, arr, e, (0, 0), hj, ?_⟩
    refine ⟨fun _ => { s := bS l }, rfl, ?_⟩
    have h5 := set_perm hj (b, Obj.cells arr e (fzn (0, 0) 0 l.length))
    refine holds_drop hQ (h1 := hr) (g := [(b, Obj.cells arr e (fzn (0, 0) 0 l.length))]) ?_ hk
    exact h5.1.trans ((((List.Perm.cons_inv (h5.2.symm.trans hp))).cons _).trans (List.perm_append_comm (l₁ := [_])))
/-! Strings. -/
theorem h_byteS {t : TypeId} {l : List UInt8} {ik : IntKind} {x : Int} {b : UInt8} (i : Nat) (hb : l[i]? = some b) (hx : x = (i : Int)) (ht : P.underlying t = some .string)
    (hk : holds P f I Q (k fun _ => { i := (b.toNat : Int) }) h) : holds P f I Q (.rd (Instr.index t (.string (bS l)) (.int ik x)) (.one (.sc (.int .u8))) k) h := by
  subst hx
  obtain ⟨hlt, he⟩ := List.getElem?_eq_some_iff.1 hb
  refine h_rd _ (rw_indexS ht (by omega) (by rw [bS_size]; simpa using hlt) ?_) hk
  subst he
  rfl
theorem bS_extract (l : List UInt8) (a b : Nat) : (bS l).extract a b = bS ((l.take b).drop a) := by
  have : ((bS l).extract a b).data.toList = (bS ((l.take b).drop a)).data.toList := by simp [bS, List.drop_take]
  cases h1 : (bS l).extract a b with
  | mk d => rw [h1] at this; simp only [bS] at this ⊢; congr 1; exact Array.toList_inj.1 (by simpa using this)
theorem h_cutS {t : TypeId} {l : List UInt8} {lo hi : Option Value} (a b : Nat) (ht : P.underlying t = some .string) (hlo : okB lo 0 a) (hhi : okB hi l.length b) (h1 : a ≤ b) (h2 : b ≤ l.length)
    (hk : holds P f I Q (k fun _ => { s := bS ((l.take b).drop a) }) h) : holds P f I Q (.rd (Instr.sliceAt t (.string (bS l)) lo hi none) (.one (.sc .str)) k) h :=
  h_rd _ (rw_cutS ht hlo (by rw [bS_size]; exact hhi) h1 (by rw [bS_size]; exact h2) (by rw [bS_extract]; rfl)) hk
end
end Go.Proofs.YtcafalcmfdnojaaDoorS
