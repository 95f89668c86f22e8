import Derived.Test.YtcfnliodgoenkaaN14
set_option linter.unusedVariables false
namespace Go.Proofs.YtcfnliodgoenkaaS
/-! What a packet's bytes tell: in plain Lean. -/
structure Dst where
  told : Bool
  router : Nat
  last : Nat
  l : List Tlv
structure Dst.ok (s : Dst) : Prop where
  router : s.router < 18446744073709551616
  last : s.last < 4294967296
def Dst.add (s : Dst) (t : Tlv) : Dst := { s with l := s.l ++ [t] }
def helloT (b : List UInt8) : Tlv := ⟨0, num b 2 2, (num b 4 2 : Nat), 0, 0, 0, 0, 0, 0⟩
def ihuT (b : List UInt8) : Tlv := ⟨1, 0, (num b 4 2 : Nat), (num b 2 2 : Nat), 0, 0, 0, 0, 0⟩
def shortD (s : Dst) (k : UInt8) (b : List UInt8) : Option Dst :=
  if b.length < 2 then none else if byteAt b 0 ≠ 0 then none else if byteAt b 1 ≠ 0 then none
  else if k = 6 then (if b.length = 10 then some { s with router := num8N b 2, told := true } else none)
  else if b.length ≠ 6 then none else if k = 4 then some (s.add (helloT b)) else if k = 5 then some (s.add (ihuT b)) else none
def bitsD (b : List UInt8) (i : Nat) : Int := (((byteAt b i).toNat : Nat) : Int)
def okP (n : Int) (w : List UInt8) : Bool := decide (w.length = nd n) && mayB (prefV w) n
def askT (b : List UInt8) : Tlv := ⟨3, 0, 0, 0, prefV (b.drop 2), bitsD b 1, 0, 0, 0⟩
def askST (b : List UInt8) : Tlv := ⟨4, num b 2 2, 0, 0, prefV (b.drop 14), bitsD b 1, num8N b 6, 0, bitsD b 4⟩
def askD (s : Dst) (k : UInt8) (b : List UInt8) : Option Dst :=
  if b.length < 2 then none else if byteAt b 0 ≠ 1 then none else if 32 < (byteAt b 1).toNat then none
  else if k = 10 then (if b.length < 14 then none else if byteAt b 5 ≠ 0 then none else if okP (bitsD b 1) (b.drop 14) = true then some (s.add (askST b)) else none)
  else if okP (bitsD b 1) (b.drop 2) = true then some (s.add (askT b)) else none
/-- How many bytes of the address an update tells. -/
def newD (b : List UInt8) : Nat := nd (bitsD b 2) - (byteAt b 3).toNat
def wordD (s : Dst) (b : List UInt8) : List UInt8 := (be 4 s.last).take (byteAt b 3).toNat ++ (b.drop 10).take (newD b)
def updTl (s : Dst) (b : List UInt8) (t : Nat) : Tlv := ⟨2, num b 6 2, (num b 4 2 : Nat), (num b 8 2 : Nat), prefV (wordD s b), bitsD b 2, s.router, t, 0⟩
def updN (s : Dst) (b : List UInt8) (t : Nat) : Dst := { s with last := prefV (wordD s b), l := s.l ++ [updTl s b t] }
def updD (s : Dst) (b : List UInt8) : Option Dst :=
  if s.told = false then none else if b.length < 10 then none else if byteAt b 0 ≠ 1 then none else if byteAt b 1 ≠ 128 then none else if 32 < (byteAt b 2).toNat then none
  else if nd (bitsD b 2) < (byteAt b 3).toNat then none else if b.length < 10 + newD b then none
  else if okP (bitsD b 2) (wordD s b) = false then none
  else if b.length = 10 + newD b then some (updN s b 0)
  else if b.length ≠ 14 + newD b then none else if byteAt b (10 + newD b) ≠ 200 then none else if byteAt b (11 + newD b) ≠ 2 then none
  else if num b (12 + newD b) 2 = 0 then none else some (updN s b (num b (12 + newD b) 2))
def takeD (s : Dst) (k : UInt8) (b : List UInt8) : Option Dst :=
  if k = 4 ∨ k = 5 ∨ k = 6 then shortD s k b else if k = 8 then updD s b else if k = 9 ∨ k = 10 then askD s k b else some s
def decD (s : Dst) : List UInt8 → Option Dst
  | [] => some s
  | [_] => none
  | k :: n :: r => if r.length < n.toNat then none else
    match takeD s k (r.take n.toNat) with
    | none => none
    | some s' => decD s' (r.drop n.toNat)
termination_by l => l.length
decreasing_by simp; omega
def zeroD : Dst := ⟨false, 0, 0, []⟩
def decR (b : List UInt8) : List Tlv × Int :=
  if b.length < 4 then ([], 2) else if byteAt b 0 ≠ 42 then ([], 2) else if byteAt b 1 ≠ 2 then ([], 2) else if num b 2 2 ≠ b.length - 4 then ([], 2)
  else match decD zeroD (b.drop 4) with
    | none => ([], 2)
    | some s => if 40 < s.l.length then ([], 9) else (s.l, 0)
theorem decD_nil (s : Dst) : decD s [] = some s := by rw [decD]
theorem decD_one (s : Dst) (k : UInt8) : decD s [k] = none := by rw [decD]
theorem decD_cons (s : Dst) (k n : UInt8) (r : List UInt8) : decD s (k :: n :: r) = if r.length < n.toNat then none else (takeD s k (r.take n.toNat)).bind fun s' => decD s' (r.drop n.toNat) := by
  rw [decD]
  split
  · rfl
  · cases takeD s k (r.take n.toNat) <;> rfl
theorem bits_le (b : List UInt8) (i : Nat) : 0 ≤ bitsD b i ∧ bitsD b i ≤ 255 := by
  have := (byteAt b i).toNat_lt
  unfold bitsD; omega
theorem helloT_ok (b : List UInt8) : (helloT b).ok := ⟨num_lt b 2 2, by simp [helloT, inI], by simp [helloT, inI], by simp [helloT, inI], by simp [helloT, inI]⟩
theorem ihuT_ok (b : List UInt8) : (ihuT b).ok := ⟨by simp [ihuT, inI], by simp [ihuT, inI], by simp [ihuT, inI], by simp [ihuT, inI], by simp [ihuT, inI]⟩
theorem inB (b : List UInt8) (i : Nat) : inI (bitsD b i) := by have := bits_le b i; exact ⟨by omega, by omega⟩
theorem askT_ok (b : List UInt8) : (askT b).ok := ⟨by simp [askT, inI], prefV_lt _, inB b 1, by simp [askT, inI], by simp [askT, inI]⟩
theorem askST_ok (b : List UInt8) : (askST b).ok := ⟨num_lt b 2 2, prefV_lt _, inB b 1, num8_lt b 6, by simp [askST, inI]⟩
theorem updTl_ok (s : Dst) (b : List UInt8) {t : Nat} (hs : s.ok) (ht : t < 65536) : (updTl s b t).ok := ⟨num_lt b 6 2, prefV_lt _, inB b 2, hs.router, ht⟩
theorem updN_ok (s : Dst) (b : List UInt8) (t : Nat) (hs : s.ok) : (updN s b t).ok := ⟨hs.router, prefV_lt _⟩
theorem byteAt_drop (l : List UInt8) (a i : Nat) : byteAt (l.drop a) i = byteAt l (a + i) := by
  unfold byteAt; rw [List.getElem?_drop]
theorem num_drop (l : List UInt8) (a i k : Nat) : num (l.drop a) i k = num l (a + i) k := by
  unfold num; rw [List.drop_drop]
/-! The reader's memory. -/
abbrev rcs (A : Option Addr) (c : Nat) (s : Dst) : Array Value := #[.slice none 0 0, .int .u64 (s.router : Nat), .bool s.told, .int .u32 (s.last : Nat), .slice A s.l.length c]
abbrev OwnT (A : Option Addr) (c : Nat) (es : List Tlv) (m : Mem) : Prop := Own 37 9 A es.length c (es.flatMap Tlv.cs) m ∧ ∀ e ∈ es, e.ok
theorem OwnT.nil : OwnT none 0 [] [] := ⟨Own.nil _ _, fun e he => by simp at he⟩
theorem tlvs_row (J : Ctx) : ∀ {es : List Tlv}, (∀ e ∈ es, e.ok) → rowC (tlvC J) es (es.flatMap Tlv.cs)
  | [], _ => rfl
  | e :: es, h => ⟨e.cs, es.flatMap Tlv.cs, rfl, ⟨rfl, h e List.mem_cons_self⟩, tlvs_row J fun x hx => h x (List.mem_cons_of_mem _ hx)⟩
theorem OwnT.tlvs {I : Ctx} {h m : Mem} {A : Option Addr} {c : Nat} {es : List Tlv} (ho : OwnT A c es m) (hl : Live I h) (hm : ∀ x ∈ m, x ∈ h) : TlvsIn (plus I h) A es :=
  ⟨_, (ho.1.rd hm).all hl, tlvs_row _ ho.2⟩
theorem OwnT.snoc {A A' : Option Addr} {c c' : Nat} {es : List Tlv} {e : Tlv} {m m' : Mem} (ho : OwnT A c es m) (he : e.ok) (h : Own 37 9 A' (es.length + 1) c' (es.flatMap Tlv.cs ++ e.cs) m') : OwnT A' c' (es ++ [e]) m' := by
  refine ⟨?_, fun x hx => ?_⟩
  · rw [List.flatMap_append, List.length_append, List.flatMap_singleton]
    exact h
  · rcases List.mem_append.1 hx with hx | hx
    · exact ho.2 x hx
    · rw [List.mem_singleton.1 hx]; exact he
def GivesR (w : Nat) (o : Option Dst) (v : Value) (h' : Mem) : Prop :=
  match o with
  | none => v = .bool false
  | some s => v = .bool true ∧ s.ok ∧ ∃ A c m, h' = (w, .cells (rcs A c s) 61 (0, 0)) :: m ∧ OwnT A c s.l m
end Go.Proofs.YtcfnliodgoenkaaS
