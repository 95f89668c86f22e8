/- A function's contract over blocks that are held; a frame's way from a list of items to its end. -/
import Derived.Test.YtcafalcmfdnojaaDoorSA
import Derived.AtR
namespace Go.Proofs.YtcafalcmfdnojaaDoorS
section
variable {P : Program} {I : Ctx}

/-- The context and blocks that are held, for whoever only reads them. -/
def plus (I : Ctx) (g : Mem) : Ctx := fun b => match g.find? (fun p => p.1 == b) with | some p => some p.2 | none => I b
theorem plus_nil (I : Ctx) : plus I [] = I := rfl
theorem find_mem {g : Mem} (hn : (keys g).Nodup) {b : Nat} {o : Obj} (hm : (b, o) ∈ g) : g.find? (fun p => p.1 == b) = some (b, o) := by
  induction g with
  | nil => simp at hm
  | cons p g ih =>
    rw [keys_cons, List.nodup_cons] at hn
    rcases List.mem_cons.1 hm with he | hm
    · subst he; simp
    · have hne : (p.1 == b) = false := by
        rw [beq_eq_false_iff_ne]
        rintro rfl
        exact hn.1 (mem_keys hm)
      simp [hne, ih hn.2 hm]
theorem find_none {g : Mem} {b : Nat} (hk : b ∉ keys g) : g.find? (fun p => p.1 == b) = none := by
  rw [List.find?_eq_none]
  rintro ⟨b', o⟩ hm
  simp only [beq_iff_eq]
  rintro rfl
  exact hk (mem_keys hm)
theorem find_has {g : Mem} {b : Nat} {p : Nat × Obj} (h : g.find? (fun p => p.1 == b) = some p) : p ∈ g ∧ p.1 = b := by
  have h1 := List.find?_some h
  exact ⟨List.mem_of_find?_eq_some h, by simpa using h1⟩
theorem plus_mem {g : Mem} (hn : (keys g).Nodup) {b : Nat} {o : Obj} (hm : (b, o) ∈ g) : plus I g b = some o := by simp [plus, find_mem hn hm]
theorem plus_of {g : Mem} {b : Nat} (hk : b ∉ keys g) : plus I g b = I b := by simp [plus, find_none hk]

/-- There is a world that is so. -/
def Live (I : Ctx) (h : Mem) : Prop := ∃ w0 K0 w, Inv w0 K0 I h w
theorem Live.perm {h g : Mem} (hl : Live I h) (p : h.Perm g) : Live I g := let ⟨w0, K0, w, hi⟩ := hl; ⟨w0, K0, w, hi.perm p⟩
theorem Live.left {h g : Mem} (hl : Live I (h ++ g)) : Live I h := let ⟨w0, K0, w, hi⟩ := hl; ⟨w0, K0, w, hi.drop⟩
theorem Live.nd {h : Mem} (hl : Live I h) : (keys h).Nodup := let ⟨_, _, _, hi⟩ := hl; hi.nd
theorem Live.ctx {h : Mem} (hl : Live I h) {b : Nat} {o : Obj} (hb : I b = some o) : b ∉ keys h := let ⟨_, _, _, hi⟩ := hl; (hi.ctx b o hb).2

def callable (P : Program) (f : FuncId) : Prop := ∃ fn, P.funcs[f]? = some fn ∧ (fn.name == "runtime.NumGoroutine") = false ∧ fn.body.isNone = false

/-- Called so, holding h, the function comes back: Q tells with what, and what is held then. -/
def Fn (P : Program) (f : FuncId) (args : Array Value) (I : Ctx) (h : Mem) (Q : Value → Mem → Prop) : Prop :=
  callable P f ∧ ∀ (w0 : World) (K0 : List Nat) (w : World), Inv w0 K0 I h w → Calls P f args w fun e w' => ∃ v h', e = .returned v ∧ Q v h' ∧ Inv w0 K0 I h' w'

/-- What is held besides, and the order in which it is listed, play no part. -/
def cl_ (Q : Value → Mem → Prop) : Value → Mem → Prop := fun v h => ∃ h1 g, h.Perm (h1 ++ g) ∧ Q v h1
def Aff (Q : Value → Mem → Prop) : Prop := ∀ v h h1 g, h.Perm (h1 ++ g) → Q v h1 → Q v h
theorem cl_.aff (Q : Value → Mem → Prop) : Aff (cl_ Q) := by
  rintro v h h1 g p ⟨h2, g2, p2, hq⟩
  exact ⟨h2, g2 ++ g, p.trans ((p2.append_right g).trans (by rw [List.append_assoc])), hq⟩
theorem cl_.of {Q : Value → Mem → Prop} {v : Value} {h : Mem} (hq : Q v h) : cl_ Q v h := ⟨h, [], by simp, hq⟩
theorem Fn.mono {f : FuncId} {args : Array Value} {h : Mem} {Q Q' : Value → Mem → Prop} (hf : Fn P f args I h Q) (hq : ∀ v h', Q v h' → Q' v h') : Fn P f args I h Q' :=
  ⟨hf.1, fun w0 K0 w hi => (hf.2 w0 K0 w hi).mono fun _ _ ⟨v, h', he, hv, hi'⟩ => ⟨v, h', he, hq _ _ hv, hi'⟩⟩
theorem Fn.perm {f : FuncId} {args : Array Value} {h g : Mem} {Q : Value → Mem → Prop} (hf : Fn P f args I h Q) (p : g.Perm h) : Fn P f args I g Q :=
  ⟨hf.1, fun w0 K0 w hi => hf.2 w0 K0 w (hi.perm p)⟩
theorem Fn.frame {f : FuncId} {args : Array Value} {h g : Mem} {Q : Value → Mem → Prop} (hf : Fn P f args (plus I g) h Q) :
    Fn P f args I (h ++ g) (fun v h' => ∃ h1, h' = h1 ++ g ∧ Q v h1) := by
  refine ⟨hf.1, fun w0 K0 w hi => ?_⟩
  have hn := hi.nd
  rw [keys_append, List.nodup_append] at hn
  obtain ⟨hn1, hn2, hn3⟩ := hn
  have gk : ∀ b, b ∈ keys g → b ∉ keys h := fun b hb hh => hn3 b hh b hb rfl
  have h0 : Inv w (keys h) (plus I g) h w := by
    refine ⟨fun b o hm => hi.own b o (List.mem_append_left _ hm), hn1, fun b o hb => ?_, fun b hb => .inl hb, fun _ _ _ => rfl, Nat.le_refl _, rfl, rfl, rfl⟩
    unfold plus at hb
    cases hg : g.find? (fun p => p.1 == b) with
    | some p =>
      rw [hg] at hb
      injection hb with hb
      obtain ⟨hm, rfl⟩ := find_has hg
      subst hb
      exact ⟨hi.own _ _ (List.mem_append_right _ hm), gk _ (mem_keys hm)⟩
    | none =>
      rw [hg] at hb
      have h2 := (hi.ctx b o hb).2
      rw [keys_append] at h2
      exact ⟨(hi.ctx b o hb).1, fun hh => h2 (List.mem_append_left _ hh)⟩
  refine (hf.2 w (keys h) w h0).mono ?_
  rintro e w' ⟨v, h1, rfl, hq, h2⟩
  refine ⟨v, h1 ++ g, rfl, ⟨h1, rfl, hq⟩, ⟨fun b o hm => ?_, ?_, fun b o hb => ?_, fun b hb => ?_, fun b hlt hK => ?_, Nat.le_trans hi.size h2.size, h2.os.trans hi.os, h2.tape.trans hi.tape, h2.output.trans hi.output⟩⟩
  · rcases List.mem_append.1 hm with hm | hm
    · exact h2.own b o hm
    · exact (h2.ctx b o (plus_mem hn2 hm)).1
  · rw [keys_append, List.nodup_append]
    refine ⟨h2.nd, hn2, fun a ha b hb hab => ?_⟩
    subst hab
    obtain ⟨⟨a', o⟩, hm, rfl⟩ := List.mem_map.1 hb
    exact (h2.ctx _ o (plus_mem hn2 hm)).2 ha
  · have hk := (hi.ctx b o hb).2
    rw [keys_append] at hk
    have hkg : b ∉ keys g := fun hh => hk (List.mem_append_right _ hh)
    have h3 := h2.ctx b o (by rw [plus_of hkg]; exact hb)
    refine ⟨h3.1, fun hh => ?_⟩
    rw [keys_append] at hh
    rcases List.mem_append.1 hh with hh | hh
    · exact h3.2 hh
    · exact hkg hh
  · rw [keys_append] at hb
    rcases List.mem_append.1 hb with hb | hb
    · rcases h2.key b hb with h3 | h3
      · exact hi.key b (by rw [keys_append]; exact List.mem_append_left _ h3)
      · exact .inr (Nat.le_trans hi.size h3)
    · exact hi.key b (by rw [keys_append]; exact List.mem_append_right _ hb)
  · have hbh : b ∉ keys h := fun hh => by
      rcases hi.key b (by rw [keys_append]; exact List.mem_append_left _ hh) with h3 | h3
      · exact hK h3
      · omega
    rw [h2.frame b (Nat.lt_of_lt_of_le hlt hi.size) hbh]
    exact hi.frame b hlt hK

/-- A contract that holds in any context. -/
theorem Fn.sub {f : FuncId} {args : Array Value} {h : Mem} {Q : Value → Mem → Prop} {J : Ctx} (hf : Fn P f args J h Q) (hJ : ∀ b o, J b = some o → I b = some o) : Fn P f args I h Q := by
  refine ⟨hf.1, fun w0 K0 w hi => ?_⟩
  have h0 : Inv w (keys h) J h w := ⟨hi.own, hi.nd, fun b o hb => hi.ctx b o (hJ b o hb), fun b hb => .inl hb, fun _ _ _ => rfl, Nat.le_refl _, rfl, rfl, rfl⟩
  refine (hf.2 w (keys h) w h0).mono ?_
  rintro e w' ⟨v, h1, rfl, hq, h2⟩
  refine ⟨v, h1, rfl, hq, ⟨h2.own, h2.nd, fun b o hb => ?_, fun b hb => ?_, fun b hlt hK => ?_, Nat.le_trans hi.size h2.size, h2.os.trans hi.os, h2.tape.trans hi.tape, h2.output.trans hi.output⟩⟩
  · obtain ⟨h3, h4⟩ := hi.ctx b o hb
    have hlt := (Array.getElem?_eq_some_iff.1 h3).1
    refine ⟨(h2.frame b hlt h4).trans h3, fun hh => ?_⟩
    rcases h2.key b hh with h5 | h5
    · exact h4 h5
    · omega
  · rcases h2.key b hb with h3 | h3
    · exact hi.key b h3
    · exact .inr (Nat.le_trans hi.size h3)
  · have hbh : b ∉ keys h := fun hh => by
      rcases hi.key b hh with h3 | h3
      · exact hK h3
      · omega
    rw [h2.frame b (Nat.lt_of_lt_of_le hlt hi.size) hbh]
    exact hi.frame b hlt hK

/-- An operand's value. -/
def evl (τ : List Value) : Operand → Value
  | .tmp t => τ.getD t undef
  | .const v => v
  | .global g => .pointer (some ⟨g, 0, none⟩)
  | .func f => .func (.func f) #[] #[]
def act (τ : List Value) (ds : List Deferred := []) : Act := { tmps := ⟨τ⟩, defers := ds }
theorem act_eval (τ : List Value) (ds : List Deferred) : (act τ ds).eval = evl τ := by
  funext x
  cases x <;> simp [Act.eval, act, evl]
def putl (τ : List Value) (dst : Option Tmp) (v : Value) : List Value := match dst with | some d => τ.set d v | none => τ
theorem act_put (τ : List Value) (ds : List Deferred) (dst : Option Tmp) (v : Value) : (act τ ds).put dst v = act (putl τ dst v) ds := by
  cases dst with
  | none => rfl
  | some d =>
    show ({ tmps := Array.setIfInBounds τ.toArray d v, defers := ds } : Act) = { tmps := (τ.set d v).toArray, defers := ds }
    rw [List.setIfInBounds_toArray]

/-- Whose frame it is: a function's (rd = none), or a round of a range over a function; what is deferred. -/
structure Ctl where
  fn : FuncId
  rd : Option Nat := none
  ds : List Deferred := []
instance (n : Nat) : OfNat Ctl n := ⟨{ fn := n }⟩
instance : Coe Nat Ctl := ⟨fun n => { fn := n }⟩
/-- The frame comes to its end with v. -/
def Ends (P : Program) (f : Ctl) (m : Machine) (cs : List Frame) (v : Value) (w : World) : Prop :=
  match f.rd with
  | none => ∃ fr, Steps P m (lone fr cs w) ∧ fr.fn = f.fn ∧ fr.leaving P w (.returned v)
  | some _ => ∀ c cs', cs = c :: cs' → Steps P m (lone (c.finish v) cs' w)
theorem Ends.head {f : Ctl} {m m' : Machine} {cs : List Frame} {v : Value} {w : World} (h : step P m = .next m') (he : Ends P f m' cs v w) : Ends P f m cs v w := by
  unfold Ends at *
  cases hr : f.rd with
  | none => rw [hr] at he; obtain ⟨fr, h1, h2⟩ := he; exact ⟨fr, .head h h1, h2⟩
  | some _ => rw [hr] at he; exact fun c cs' e => .head h (he c cs' e)
theorem Ends.steps {f : Ctl} {m m' : Machine} {cs : List Frame} {v : Value} {w : World} (h : Steps P m m') (he : Ends P f m' cs v w) : Ends P f m cs v w := by
  unfold Ends at *
  cases hr : f.rd with
  | none => rw [hr] at he; obtain ⟨fr, h1, h2⟩ := he; exact ⟨fr, h.trans h1, h2⟩
  | some _ => rw [hr] at he; exact fun c cs' e => h.trans (he c cs' e)
theorem Ends.leave {f : Ctl} {m : Machine} {cs : List Frame} {v : Value} {w : World} (hf : f.rd = none) {fr : Frame} (h1 : Steps P m (lone fr cs w)) (h2 : fr.fn = f.fn) (h3 : fr.leaving P w (.returned v)) : Ends P f m cs v w := by
  unfold Ends; rw [hf]; exact ⟨fr, h1, h2, h3⟩
/-- From these items on the frame comes to its end. -/
def Wp (P : Program) (f : Ctl) (todo : List Item) (τ : List Value) (I : Ctx) (h : Mem) (Q : Value → Mem → Prop) : Prop :=
  ∀ (w0 : World) (K0 : List Nat) (w : World), Inv w0 K0 I h w → ∀ (b : Frame) (cs : List Frame), b.fn = f.fn → b.kind = .normal → b.roundOf = f.rd →
    ∃ v h' w', Q v h' ∧ Inv w0 K0 I h' w' ∧ Ends P f (lone (b.atR (act τ f.ds) todo) cs w) cs v w'

theorem Wp.perm {f : Ctl} {todo : List Item} {τ : List Value} {h g : Mem} {Q : Value → Mem → Prop} (hw : Wp P f todo τ I h Q) (p : h.Perm g) : Wp P f todo τ I g Q :=
  fun w0 K0 w hi => hw w0 K0 w (hi.perm p.symm)
theorem Wp.mono {f : Ctl} {todo : List Item} {τ : List Value} {h : Mem} {Q Q' : Value → Mem → Prop} (hw : Wp P f todo τ I h Q) (hq : ∀ v h', Q v h' → Q' v h') : Wp P f todo τ I h Q' :=
  fun w0 K0 w hi b cs hb hk hr => let ⟨v, h', w', q, r⟩ := hw w0 K0 w hi b cs hb hk hr; ⟨v, h', w', hq _ _ q, r⟩
theorem Wp.drop {f : Ctl} {todo : List Item} {τ : List Value} {h g : Mem} {Q : Value → Mem → Prop} (hw : Wp P f todo τ I h Q) : Wp P f todo τ I (h ++ g) Q :=
  fun w0 K0 w hi => hw w0 K0 w hi.drop
theorem Wp.live {f : Ctl} {todo : List Item} {τ : List Value} {h : Mem} {Q : Value → Mem → Prop} (hw : Live I h → Wp P f todo τ I h Q) : Wp P f todo τ I h Q := fun w0 K0 w hi => hw ⟨w0, K0, w, hi⟩ w0 K0 w hi
theorem Wp.fn {f : FuncId} {fn : Func} {c : Code} {args : List Value} {h : Mem} {Q : Value → Mem → Prop} (hf : P.funcs[f]? = some fn) (hb : fn.body = some c) (hnm : (fn.name == "runtime.NumGoroutine") = false)
    (hw : Wp P { fn := f } [.code c] (args ++ List.replicate (fn.ntmps - args.length) undef) I h (cl_ Q)) : Fn P f ⟨args⟩ I h Q := by
  refine ⟨⟨fn, hf, hnm, by simp [hb]⟩, fun w0 K0 w hi cs => ?_⟩
  let b : Frame := { (default : Frame) with fn := f, kind := .normal, roundOf := none }
  obtain ⟨v, h', w', ⟨h1, g, hp, hq⟩, hi', fr, hs, hfr, hl⟩ := hw w0 K0 w hi b cs rfl rfl rfl
  have hi' := (hi'.perm hp).drop
  have henter : Frame.enter P f ⟨args⟩ .normal = b.atR (act (args ++ List.replicate (fn.ntmps - args.length) undef)) [.code c] := by
    have : (⟨args⟩ : Array Value) ++ Array.replicate (fn.ntmps - args.length) undef = ⟨args ++ List.replicate (fn.ntmps - args.length) undef⟩ := by simp
    simp [Frame.enter, Frame.atR, hf, hb, b, act]
  exact ⟨.returned v, w', fr, ⟨v, h1, rfl, hq, hi'⟩, by rw [henter]; exact hs, hfr, hl⟩
theorem Wp.go_ {f : Ctl} {todo todo' : List Item} {τ τ' : List Value} {h : Mem} {Q : Value → Mem → Prop}
    (hs : ∀ (b : Frame) (cs : List Frame) (w : World), b.fn = f.fn → step P (lone (b.atR (act τ f.ds) todo) cs w) = .next (lone (b.atR (act τ' f.ds) todo') cs w))
    (hw : Wp P f todo' τ' I h Q) : Wp P f todo τ I h Q := by
  intro w0 K0 w hi b cs hb hk hr
  obtain ⟨v, h', w', hq, hi', h1⟩ := hw w0 K0 w hi b cs hb hk hr
  exact ⟨v, h', w', hq, hi', h1.head (hs b cs w hb)⟩

/-- What a round does, called from whatever frame. -/
def RoundFn (P : Program) (l : Nat) (f : FuncId) (tmps : Array Value) (as bd : Code) (I : Ctx) (h : Mem) (Q : Value → Mem → Prop) : Prop :=
  ∀ (w0 : World) (K0 : List Nat) (w : World), Inv w0 K0 I h w → ∀ (c : Frame) (cs : List Frame), ∃ v h' w', Q v h' ∧ Inv w0 K0 I h' w' ∧ Steps P (lone (Frame.round l f tmps as bd .normal) (c :: cs) w) (lone (c.finish v) cs w')
theorem RoundFn.mono {l : Nat} {f : FuncId} {tmps : Array Value} {as bd : Code} {h : Mem} {Q Q' : Value → Mem → Prop} (hr : RoundFn P l f tmps as bd I h Q) (hq : ∀ v h', Q v h' → Q' v h') : RoundFn P l f tmps as bd I h Q' :=
  fun w0 K0 w hi c cs => let ⟨v, h', w', q, r⟩ := hr w0 K0 w hi c cs; ⟨v, h', w', hq _ _ q, r⟩
theorem Inv.into {w0 w : World} {K0 : List Nat} {h g : Mem} (hi : Inv w0 K0 I (h ++ g) w) : Inv w (keys h) (plus I g) h w := by
  have hn := hi.nd
  rw [keys_append, List.nodup_append] at hn
  obtain ⟨hn1, hn2, hn3⟩ := hn
  refine ⟨fun b o hm => hi.own b o (List.mem_append_left _ hm), hn1, fun b o hb => ?_, fun b hb => .inl hb, fun _ _ _ => rfl, Nat.le_refl _, rfl, rfl, rfl⟩
  unfold plus at hb
  split at hb
  · rename_i p hp
    injection hb with hb
    subst hb
    have hm := List.mem_of_find?_eq_some hp
    have e : p.1 = b := by simpa using List.find?_some hp
    subst e
    exact ⟨hi.own _ _ (List.mem_append_right _ hm), fun hk => hn3 _ hk _ (mem_keys hm) rfl⟩
  · obtain ⟨h1, h2⟩ := hi.ctx b o hb
    exact ⟨h1, fun hk => h2 (by rw [keys_append]; exact List.mem_append_left _ hk)⟩
theorem Inv.back {w0 w w2 : World} {K0 : List Nat} {h g h1 : Mem} (hi : Inv w0 K0 I (h ++ g) w) (h2 : Inv w (keys h) (plus I g) h1 w2) : Inv w0 K0 I (h1 ++ g) w2 := by
  have hn := hi.nd
  rw [keys_append, List.nodup_append] at hn
  obtain ⟨hn1, hn2, hn3⟩ := hn
  refine ⟨fun b o hm => ?_, ?_, fun b o hb => ?_, fun b hb => ?_, fun b hlt hK => ?_, Nat.le_trans hi.size h2.size, h2.os.trans hi.os, h2.tape.trans hi.tape, h2.output.trans hi.output⟩
  · rcases List.mem_append.1 hm with hm | hm
    · exact h2.own b o hm
    · exact (h2.ctx b o (plus_mem hn2 hm)).1
  · rw [keys_append, List.nodup_append]
    refine ⟨h2.nd, hn2, fun a ha b hb hab => ?_⟩
    subst hab
    obtain ⟨⟨a', o⟩, hm, rfl⟩ := List.mem_map.1 hb
    exact (h2.ctx _ o (plus_mem hn2 hm)).2 ha
  · have hk := (hi.ctx b o hb).2
    rw [keys_append] at hk
    have hkg : b ∉ keys g := fun hh => hk (List.mem_append_right _ hh)
    have h3 := h2.ctx b o (by rw [plus_of hkg]; exact hb)
    refine ⟨h3.1, fun hh => ?_⟩
    rw [keys_append] at hh
    rcases List.mem_append.1 hh with hh | hh
    · exact h3.2 hh
    · exact hkg hh
  · rw [keys_append] at hb
    rcases List.mem_append.1 hb with hb | hb
    · rcases h2.key b hb with h3 | h3
      · exact hi.key b (by rw [keys_append]; exact List.mem_append_left _ h3)
      · exact .inr (Nat.le_trans hi.size h3)
    · exact hi.key b (by rw [keys_append]; exact List.mem_append_right _ hb)
  · have hbh : b ∉ keys h := fun hh => by
      rcases hi.key b (by rw [keys_append]; exact List.mem_append_left _ hh) with h3 | h3
      · exact hK h3
      · omega
    rw [h2.frame b (Nat.lt_of_lt_of_le hlt hi.size) hbh]
    exact hi.frame b hlt hK
theorem RoundFn.frame {l : Nat} {f : FuncId} {tmps : Array Value} {as bd : Code} {h g : Mem} {Q : Value → Mem → Prop} (hr : RoundFn P l f tmps as bd (plus I g) h Q) :
    RoundFn P l f tmps as bd I (h ++ g) (fun v h' => ∃ h1, h' = h1 ++ g ∧ Q v h1) := by
  intro w0 K0 w hi c cs
  obtain ⟨v, h1, w', hq, hi', hs⟩ := hr w (keys h) w hi.into c cs
  exact ⟨v, h1 ++ g, w', ⟨h1, rfl, hq⟩, hi.back hi', hs⟩
theorem RoundFn.sub {l : Nat} {f : FuncId} {tmps : Array Value} {as bd : Code} {h : Mem} {Q : Value → Mem → Prop} {J : Ctx} (hf : RoundFn P l f tmps as bd J h Q) (hJ : ∀ b o, J b = some o → I b = some o) : RoundFn P l f tmps as bd I h Q := by
  intro w0 K0 w hi c cs
  have h0 : Inv w (keys h) J h w := ⟨hi.own, hi.nd, fun b o hb => hi.ctx b o (hJ b o hb), fun b hb => .inl hb, fun _ _ _ => rfl, Nat.le_refl _, rfl, rfl, rfl⟩
  obtain ⟨v, h', w', hq, h2, hs⟩ := hf w (keys h) w h0 c cs
  refine ⟨v, h', w', hq, ⟨h2.own, h2.nd, fun b o hb => ?_, fun b hb => ?_, fun b hlt hK => ?_, Nat.le_trans hi.size h2.size, h2.os.trans hi.os, h2.tape.trans hi.tape, h2.output.trans hi.output⟩, hs⟩
  · obtain ⟨h3, h4⟩ := hi.ctx b o hb
    have hlt := (Array.getElem?_eq_some_iff.1 h3).1
    refine ⟨(h2.frame b hlt h4).trans h3, fun hh => ?_⟩
    rcases h2.key b hh with h5 | h5
    · exact h4 h5
    · omega
  · rcases h2.key b hb with h3 | h3
    · exact hi.key b h3
    · exact .inr (Nat.le_trans hi.size h3)
  · have hbh : b ∉ keys h := fun hh => by
      rcases hi.key b hh with h3 | h3
      · exact hK h3
      · omega
    rw [h2.frame b (Nat.lt_of_lt_of_le hlt hi.size) hbh]
    exact hi.frame b hlt hK

/-- What an operation hands on. -/
def nxw (P : Program) (I : Ctx) (nx : Next) (h : Mem) (K : Value → Mem → Prop) : Prop :=
  match nx with
  | .value v => K v h
  | .skip => K undef h
  | .enter f args => Live I h → ∃ hc hr, h.Perm (hc ++ hr) ∧ Fn P f args (plus I hr) hc (fun v h1 => K v (h1 ++ hr))
  | .round l f tmps as bd => Live I h → ∃ hc hr, h.Perm (hc ++ hr) ∧ RoundFn P l f tmps as bd (plus I hr) hc (fun v h1 => K v (h1 ++ hr))
  | _ => False
theorem nxw_mono {nx : Next} {h : Mem} {K K' : Value → Mem → Prop} (hw : nxw P I nx h K) (hk : ∀ v h', K v h' → K' v h') : nxw P I nx h K' := by
  cases nx <;> first | exact hw.elim | exact hk _ _ hw | exact fun hl => let ⟨hc, hr, hp, hf⟩ := hw hl; ⟨hc, hr, hp, hf.mono fun v h1 hq => hk _ _ hq⟩
def opw (P : Program) (I : Ctx) (o : Oper) (τ : List Value) (h : Mem) (K : Value → Mem → Prop) : Prop :=
  swp P I (execOp (evl τ) o) h (fun nx h' => nxw P I nx h' K)
theorem opw_mono {o : Oper} {τ : List Value} {h : Mem} {K K' : Value → Mem → Prop} (hw : opw P I o τ h K) (hk : ∀ v h', K v h' → K' v h') : opw P I o τ h K' :=
  swp_mono _ hw fun _ _ hn => nxw_mono hn hk
theorem swp_skip {α : Type} (s : Sem Unit) (x : α) (h : Mem) (Q : α → Mem → Prop) : swp P I (do s; pure x) h Q = swp P I s h (fun _ h' => Q x h') := by
  rw [swp_bind]; rfl
theorem opw_defer {o : Oper} {c : Call} (ho : o.op = .defer c) {τ : List Value} {h : Mem} {K : Value → Mem → Prop} (hl : Live I h) (hw : opw P I o τ h K) : False := by
  obtain ⟨dst, op, type, pos, after, guard⟩ := o
  simp only at ho
  subst ho
  unfold opw execOp at hw
  simp only [swp_bind] at hw
  obtain ⟨w0, K0, w, hi⟩ := hl
  obtain ⟨_, _, _, _, hn, _⟩ := swp_run (w0 := w0) (K0 := K0) _ hw hi
  exact hn

theorem Wp.op {f : Ctl} {ops : Array Oper} {i : Nat} {rest : List Nat} {k : List Item} {o : Oper} {τ : List Value} {h : Mem} {Q : Value → Mem → Prop}
    (ho : ops[i]? = some o) (hw : Region.wanted o (yielded ops (act τ).tmps) = true)
    (hs : opw P I o τ h (fun v h' => Wp P f (.inRegion ops rest :: k) (putl τ o.dst v) I h' Q)) : Wp P f (.inRegion ops (i :: rest) :: k) τ I h Q := by
  intro w0 K0 w hi b cs hb hk hrd
  have hnd : ∀ c, o.op ≠ .defer c := fun c hc => opw_defer hc ⟨w0, K0, w, hi⟩ hs
  obtain ⟨nx, w1, h1, hr, hn, hi1⟩ := swp_run (w0 := w0) (K0 := K0) _ hs hi
  rw [← act_eval τ f.ds] at hr
  have hg := stepGR_op (P := P) (b := b) (k := k) (cs := cs) (w := w) (rest := rest) (a := act τ f.ds) ho hw
  rw [Oper.semAt_eq _ _ _ hnd] at hg
  have hfin : ∀ v, (b.atR (act τ f.ds) (.inRegion ops (i :: rest) :: k)).finish v = b.atR (act (putl τ o.dst v) f.ds) (.inRegion ops rest :: k) := by
    intro v; rw [Frame.finish_atR, ho, ← act_put]; rfl
  cases nx with
  | value v =>
    obtain ⟨v', h', w', hq, hi', h2⟩ := hn w0 K0 w1 hi1 b cs hb hk hrd
    refine ⟨v', h', w', hq, hi', h2.head (step_lone_go ?_)⟩
    rw [hg, ← hfin]; simp [stepG.apply, hr]
  | skip =>
    obtain ⟨v', h', w', hq, hi', h2⟩ := hn w0 K0 w1 hi1 b cs hb hk hrd
    refine ⟨v', h', w', hq, hi', h2.head (step_lone_go ?_)⟩
    rw [hg, ← hfin]; simp [stepG.apply, hr]
  | enter g args =>
    obtain ⟨hc, hr', hp, hf⟩ := hn ⟨w0, K0, w1, hi1⟩
    have hff := hf.frame
    obtain ⟨e, w2, fr, ⟨v, h2, rfl, ⟨h3, rfl, hq⟩, hi2⟩, hsteps, _, hleave⟩ := hff.2 w0 K0 w1 (hi1.perm hp) (b.atR (act τ f.ds) (.inRegion ops (i :: rest) :: k) :: cs)
    have henter : step P (lone (b.atR (act τ f.ds) (.inRegion ops (i :: rest) :: k)) cs w) =
        .next (lone (Frame.enter P g args .normal) (b.atR (act τ f.ds) (.inRegion ops (i :: rest) :: k) :: cs) w1) :=
      step_lone_go (by rw [hg]; simp [stepG.apply, hr, Frame.atR])
    obtain ⟨v', h', w', hq', hi', h4⟩ := hq w0 K0 w2 hi2 b cs hb hk hrd
    refine ⟨v', h', w', hq', hi', Ends.head henter (Ends.steps hsteps (Ends.head ?_ h4))⟩
    rw [← hfin]; exact step_leave_returned hleave
  | round l g tmps as bd =>
    obtain ⟨hc, hr', hp, hf⟩ := hn ⟨w0, K0, w1, hi1⟩
    obtain ⟨v, h2, w2, ⟨h3, rfl, hq⟩, hi2, hsteps⟩ := hf.frame w0 K0 w1 (hi1.perm hp) (b.atR (act τ f.ds) (.inRegion ops (i :: rest) :: k)) cs
    have henter : step P (lone (b.atR (act τ f.ds) (.inRegion ops (i :: rest) :: k)) cs w) =
        .next (lone (Frame.round l g tmps as bd .normal) (b.atR (act τ f.ds) (.inRegion ops (i :: rest) :: k) :: cs) w1) :=
      step_lone_go (by rw [hg]; simp [stepG.apply, hr, Frame.atR])
    obtain ⟨v', h', w', hq', hi', h4⟩ := hq w0 K0 w2 hi2 b cs hb hk hrd
    refine ⟨v', h', w', hq', hi', Ends.head henter (Ends.steps hsteps ?_)⟩
    rw [hfin]; exact h4
  | _ => exact hn.elim

/-- A region's operations, in this order. -/
def regw (P : Program) (I : Ctx) (ops : Array Oper) : List Nat → List Value → Mem → (List Value → Mem → Prop) → Prop
  | [], τ, h, K => K τ h
  | i :: r, τ, h, K => Live I h → match ops[i]? with
    | none => regw P I ops r τ h K
    | some o => if Region.wanted o (yielded ops (act τ).tmps) then opw P I o τ h (fun v h' => regw P I ops r (putl τ o.dst v) h' K) else regw P I ops r (putl τ o.dst undef) h K
theorem Wp.regs {f : Ctl} {ops : Array Oper} {k : List Item} {Q : Value → Mem → Prop} : ∀ {l : List Nat} {τ : List Value} {h : Mem},
    regw P I ops l τ h (fun τ' h' => Wp P f k τ' I h' Q) → Wp P f (.inRegion ops l :: k) τ I h Q
  | [], τ, h, hr => Wp.go_ (fun b cs w _ => stepR_region_end) hr
  | i :: r, τ, h, hr => by
    refine Wp.live fun hl => ?_
    simp only [regw] at hr
    have hr := hr hl
    clear hl
    split at hr
    · rename_i ho
      have hs := fun (b : Frame) (cs : List Frame) (w : World) => stepR_op_skip (P := P) (b := b) (a := act τ f.ds) (k := k) (cs := cs) (w := w) (ops := ops) (i := i) (rest := r) (by simp [ho])
      simp only [ho, Option.bind_none, Act.put] at hs
      exact Wp.go_ (fun b cs w _ => hs b cs w) (Wp.regs hr)
    · rename_i o ho
      split at hr
      · rename_i hw; exact Wp.op ho hw (opw_mono hr fun v h' hh => Wp.regs hh)
      · rename_i hw
        have hs := fun (b : Frame) (cs : List Frame) (w : World) => stepR_op_skip (P := P) (b := b) (a := act τ f.ds) (k := k) (cs := cs) (w := w) (ops := ops) (i := i) (rest := r) (by simp [ho]; simpa [act] using hw)
        simp only [ho, Option.bind_some, act_put] at hs
        exact Wp.go_ (fun b cs w _ => hs b cs w) (Wp.regs hr)
theorem Wp.region {f : Ctl} {id : Nat} {ops : Array Oper} {k : List Item} {τ : List Value} {h : Mem} {Q : Value → Mem → Prop}
    (hr : regw P I ops (List.range ops.size) τ h (fun τ' h' => Wp P f k τ' I h' Q)) : Wp P f (.code (.region id ops false) :: k) τ I h Q :=
  Wp.go_ (fun b cs w _ => stepR_region) (Wp.regs hr)
theorem Wp.seq {f : Ctl} {x y : Code} {k : List Item} {τ : List Value} {h : Mem} {Q : Value → Mem → Prop} (hw : Wp P f (.code x :: .code y :: k) τ I h Q) : Wp P f (.code (.seq x y) :: k) τ I h Q := Wp.go_ (fun _ _ _ _ => stepR_seq) hw
theorem Wp.skip {f : Ctl} {k : List Item} {τ : List Value} {h : Mem} {Q : Value → Mem → Prop} (hw : Wp P f k τ I h Q) : Wp P f (.code .skip :: k) τ I h Q := Wp.go_ (fun _ _ _ _ => stepR_skip) hw
theorem Wp.label {f : Ctl} {l : Nat} {k : List Item} {τ : List Value} {h : Mem} {Q : Value → Mem → Prop} (hw : Wp P f k τ I h Q) : Wp P f (.code (.label l) :: k) τ I h Q := Wp.go_ (fun _ _ _ _ => stepR_label) hw
theorem Wp.inBlock {f : Ctl} {id : Nat} {k : List Item} {τ : List Value} {h : Mem} {Q : Value → Mem → Prop} (hw : Wp P f k τ I h Q) : Wp P f (.inBlock id :: k) τ I h Q := Wp.go_ (fun _ _ _ _ => stepR_inBlock) hw
theorem Wp.inScope {f : Ctl} {c : Code} {k : List Item} {τ : List Value} {h : Mem} {Q : Value → Mem → Prop} (hw : Wp P f k τ I h Q) : Wp P f (.inScope c :: k) τ I h Q :=
  Wp.go_ (fun _ _ _ _ => step_lone_go (by simp [stepG, stepG.exec, Frame.atR])) hw
theorem Wp.scope {f : Ctl} {c : Code} {k : List Item} {τ : List Value} {h : Mem} {Q : Value → Mem → Prop} (hw : Wp P f (.code c :: .inScope c :: k) τ I h Q) : Wp P f (.code (.scope c) :: k) τ I h Q :=
  Wp.go_ (fun _ _ _ _ => step_lone_go (by simp [stepG, stepG.exec, Frame.atR])) hw
theorem Wp.block {f : Ctl} {id : Nat} {c : Code} {k : List Item} {τ : List Value} {h : Mem} {Q : Value → Mem → Prop} (hw : Wp P f (.code c :: .inBlock id :: k) τ I h Q) : Wp P f (.code (.block id c) :: k) τ I h Q := Wp.go_ (fun _ _ _ _ => stepR_block) hw
theorem Wp.loop {f : Ctl} {c : Code} {k : List Item} {τ : List Value} {h : Mem} {Q : Value → Mem → Prop} (hw : Wp P f (.code c :: .inLoop c :: k) τ I h Q) : Wp P f (.code (.loop c) :: k) τ I h Q := Wp.go_ (fun _ _ _ _ => stepR_loop) hw
theorem Wp.inLoop {f : Ctl} {c : Code} {k : List Item} {τ : List Value} {h : Mem} {Q : Value → Mem → Prop} (hw : Wp P f (.code c :: .inLoop c :: k) τ I h Q) : Wp P f (.inLoop c :: k) τ I h Q := Wp.go_ (fun _ _ _ _ => stepR_inLoop) hw
theorem Wp.exit {f : Ctl} {id : Nat} {k k' : List Item} {τ : List Value} {h : Mem} {Q : Value → Mem → Prop} (he : exitTo id k = some k') (hw : Wp P f k' τ I h Q) : Wp P f (.code (.exit id) :: k) τ I h Q := Wp.go_ (fun _ _ _ _ => stepR_exit he) hw
theorem Wp.goto {f : Ctl} {l : Nat} {k k' : List Item} {τ : List Value} {h : Mem} {Q : Value → Mem → Prop} (he : gotoIn l k = some k') (hw : Wp P f k' τ I h Q) : Wp P f (.code (.goto l) :: k) τ I h Q := Wp.go_ (fun _ _ _ _ => stepR_goto he) hw
theorem Wp.cond {f : Ctl} {c : Operand} {x y : Code} {k : List Item} {τ : List Value} {h : Mem} {Q : Value → Mem → Prop} {b : Bool} (hc : evl τ c = .bool b)
    (ht : b = true → Wp P f (.code x :: k) τ I h Q) (hf : b = false → Wp P f (.code y :: k) τ I h Q) : Wp P f (.code (.cond c x y) :: k) τ I h Q := by
  have hc' : (act τ f.ds).eval c = .bool b := by rw [act_eval]; exact hc
  refine Wp.go_ (fun _ _ _ _ => stepR_cond hc') ?_
  cases b
  · exact hf rfl
  · exact ht rfl
theorem Wp.ret {f : Ctl} {fn : Func} {todo : List Item} {τ : List Value} {h : Mem} {Q : Value → Mem → Prop} (hfn : f.rd = none ∧ f.ds = []) (ht : todo = [] ∨ ∃ k, todo = .code .ret :: k) (hf : P.funcs[f.fn]? = some fn)
    (hr : rwp P I h (results fn ⟨τ⟩) (fun v => Q v h)) : Wp P f todo τ I h Q := by
  intro w0 K0 w hi b cs hb hk hrd
  obtain ⟨v, hrun, hq⟩ := rwp_run hi _ hr
  obtain ⟨h1, h2⟩ := hfn
  rw [h1] at hrd
  rw [← hb] at hf
  rw [h2]
  rcases ht with rfl | ⟨k, rfl⟩
  · exact ⟨v, h, w, hq, hi, Ends.leave h1 (.one (stepR_end hrd)) hb ⟨rfl, rfl, hk, fn, hf, hrun⟩⟩
  · exact ⟨v, h, w, hq, hi, Ends.leave h1 (.one (stepR_ret hrd)) hb ⟨rfl, rfl, hk, fn, hf, hrun⟩⟩
end
end Go.Proofs.YtcafalcmfdnojaaDoorS
