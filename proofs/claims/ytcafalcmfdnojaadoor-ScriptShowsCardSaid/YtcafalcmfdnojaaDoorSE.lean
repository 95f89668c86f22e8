/- Regions that draw their order: one order told is all orders told. -/
import Derived.Test.YtcafalcmfdnojaaDoorSD
set_option linter.unusedVariables false
namespace Go.Proofs.YtcafalcmfdnojaaDoorS
section
variable {P : Program} {I : Ctx} {cfg : Cfg} {f : Ctl} {Q : Value → Mem → Prop}

theorem Live.tail {p : Nat × Obj} {h : Mem} (hl : Live I (p :: h)) : Live I h := by
  obtain ⟨w0, K0, w, hi⟩ := hl
  exact ⟨w0, K0, w, Inv.drop (g := [p]) (hi.perm (List.perm_append_comm (l₁ := [p])))⟩
theorem Live.fresh {h : Mem} (hl : Live I h) (o : Obj) : ∃ g, g ∉ keys h ∧ I g = none ∧ Live I ((g, o) :: h) := by
  obtain ⟨w0, K0, w, hi⟩ := hl
  obtain ⟨h1, h2, h3⟩ := hi.new o
  exact ⟨_, h1, h2, _, _, _, h3⟩
theorem opw_live {o : Oper} {τ : List Value} {h : Mem} {K : Value → Mem → Prop} (hl : Live I h) (hw : opw P I o τ h K) : ∃ v h', Live I h' ∧ K v h' := by
  obtain ⟨w0, K0, w, hi⟩ := hl
  obtain ⟨nx, w1, h1, hr, hn, hi1⟩ := swp_run (w0 := w0) (K0 := K0) _ hw hi
  cases nx with
  | value v => exact ⟨v, h1, ⟨_, _, _, hi1⟩, hn⟩
  | skip => exact ⟨undef, h1, ⟨_, _, _, hi1⟩, hn⟩
  | enter g args =>
    obtain ⟨hc, hr', hp, hf⟩ := hn ⟨w0, K0, w1, hi1⟩
    obtain ⟨e, w2, fr, ⟨v, h2, rfl, ⟨h3, rfl, hq⟩, hi2⟩, _⟩ := hf.frame.2 w0 K0 w1 (hi1.perm hp) []
    exact ⟨v, _, ⟨_, _, _, hi2⟩, hq⟩
  | round l g tmps as bd =>
    obtain ⟨hc, hr', hp, hf⟩ := hn ⟨w0, K0, w1, hi1⟩
    obtain ⟨v, h2, w2, ⟨h3, rfl, hq⟩, hi2, _⟩ := hf.frame w0 K0 w1 (hi1.perm hp) default []
    exact ⟨v, _, ⟨_, _, _, hi2⟩, hq⟩
  | _ => exact hn.elim
theorem opw_perm {o : Oper} {τ : List Value} {h g : Mem} {K : Value → Mem → Prop} (p : h.Perm g) (hw : opw P I o τ h K) : opw P I o τ g (fun v g' => ∃ h', h'.Perm g' ∧ K v h') := by
  refine swp_mono _ (swp_perm _ p hw) ?_
  rintro nx g' ⟨h', hp, hn⟩
  cases nx with
  | value v => exact ⟨h', hp, hn⟩
  | skip => exact ⟨h', hp, hn⟩
  | enter f args =>
    intro hl
    obtain ⟨hc, hr, hp', hf⟩ := hn (hl.perm hp.symm)
    exact ⟨hc, hr, hp.symm.trans hp', hf.mono fun v h1 hq => ⟨_, List.Perm.refl _, hq⟩⟩
  | round l g tmps as bd =>
    intro hl
    obtain ⟨hc, hr, hp', hf⟩ := hn (hl.perm hp.symm)
    exact ⟨hc, hr, hp.symm.trans hp', hf.mono fun v h1 hq => ⟨_, List.Perm.refl _, hq⟩⟩
  | _ => exact hn.elim
theorem plus_append {hr g : Mem} (hg : ∀ b, b ∈ keys g → I b = none) {b : Nat} {o : Obj} (h : plus I hr b = some o) : plus I (hr ++ g) b = some o := by
  unfold plus at *
  cases hf : hr.find? (fun p => p.1 == b) with
  | some p => rw [hf] at h; rw [List.find?_append, hf]; exact h
  | none =>
    rw [hf] at h
    have hn : b ∉ keys g := fun hk => by rw [hg b hk] at h; cases h
    rw [List.find?_append, hf, find_none hn]
    exact h
theorem opw_frame {o : Oper} {τ : List Value} {h g : Mem} {K : Value → Mem → Prop} (hg : ∀ b, b ∈ keys g → I b = none) (hw : opw P I o τ h K) :
    opw P I o τ (h ++ g) (fun v h' => ∃ h1, h' = h1 ++ g ∧ K v h1) := by
  refine swp_mono _ (swp_frame g _ hw) ?_
  rintro nx g' ⟨h1, rfl, hn⟩
  cases nx with
  | value v => exact ⟨h1, rfl, hn⟩
  | skip => exact ⟨h1, rfl, hn⟩
  | enter f args =>
    intro hl
    obtain ⟨hc, hr, hp, hf⟩ := hn hl.left
    refine ⟨hc, hr ++ g, (hp.append_right g).trans (by rw [List.append_assoc]), (hf.sub fun b o hb => plus_append hg hb).mono fun v h2 hq => ⟨h2 ++ hr, by rw [List.append_assoc], hq⟩⟩
  | round l f' tmps as bd =>
    intro hl
    obtain ⟨hc, hr, hp, hf⟩ := hn hl.left
    refine ⟨hc, hr ++ g, (hp.append_right g).trans (by rw [List.append_assoc]), (hf.sub fun b o hb => plus_append hg hb).mono fun v h2 hq => ⟨h2 ++ hr, by rw [List.append_assoc], hq⟩⟩
  | _ => exact hn.elim

def al (P : Program) : Sem Next → Option (Obj × (Nat → Sem Next))
  | .program k => al P (k P)
  | .mark _ k => al P k
  | .new o k => some (o, k)
  | _ => none
/-- A step that makes the block ob, and yields F of its number. -/
def AlOk (P : Program) (s : Sem Next) (ob : Obj) (F : Nat → Value) : Prop := ∃ k, al P s = some (ob, k) ∧ ∀ g, still P (k g) = some (.value (F g))
theorem AlOk.det {s : Sem Next} {ob ob' : Obj} {F F' : Nat → Value} (h : AlOk P s ob F) (h' : AlOk P s ob' F') : ob = ob' ∧ F = F' := by
  obtain ⟨k, h1, h2⟩ := h
  obtain ⟨k', h3, h4⟩ := h'
  rw [h1] at h3
  injection h3 with h3
  injection h3 with h5 h6
  subst h5; subst h6
  refine ⟨rfl, funext fun g => ?_⟩
  have := (h2 g).symm.trans (h4 g)
  injection this with this
  injection this
theorem AlOk.swp {ob : Obj} {F : Nat → Value} {h : Mem} (s : Sem Next) : AlOk P s ob F → ∀ {K : Next → Mem → Prop}, (∀ g, g ∉ keys h → I g = none → K (.value (F g)) ((g, ob) :: h)) → swp P I s h K := by
  induction s with
  | new o k ih =>
    rintro ⟨k', h1, h2⟩ K hk
    simp only [al, Option.some.injEq, Prod.mk.injEq] at h1
    obtain ⟨rfl, rfl⟩ := h1
    exact fun g hg hI => swp_of_rwp _ (rwp_of_still _ (h2 g) (hk g hg hI))
  | program k ih => rintro ⟨k', h1, h2⟩ K hk; exact ih P ⟨k', h1, h2⟩ hk
  | mark m k ih => rintro ⟨k', h1, h2⟩ K hk; exact ih ⟨k', h1, h2⟩ hk
  | _ => rintro ⟨k', h1, h2⟩; simp [al] at h1

abbrev KP := List Value → Mem → Pins → Prop
def wtd (ops : Array Oper) (o : Oper) (τ : List Value) : Bool := Region.wanted o (yielded ops (act τ).tmps)
/-- A step that comes to v, and does nothing else, whatever is held. -/
def Quiet (P : Program) (I : Ctx) (s : Sem Next) (v : Value) : Prop :=
  (∀ (h : Mem) (K : Value → Mem → Prop), Live I h → K v h → swp P I s h (fun nx h' => nxw P I nx h' K)) ∧
  ∀ (h : Mem) (v' : Value), Live I h → swp P I s h (fun nx h' => nxw P I nx h' (fun u _ => u = v')) → v = v'
theorem Quiet.det {s : Sem Next} {v v' : Value} {h : Mem} (hl : Live I h) (a : Quiet P I s v) (b : Quiet P I s v') : v = v' := a.2 h v' hl (b.1 h _ hl rfl)
theorem swp_still_out {α : Type} {a : α} {h : Mem} {R : α → Mem → Prop} (s : Sem α) : still P s = some a → swp P I s h R → R a h := by
  induction s with
  | pure b => intro hs hw; simp only [still, Option.some.injEq] at hs; subst hs; exact hw
  | program k ih => intro hs hw; exact ih P hs hw
  | _ => intro hs; simp [still] at hs
theorem Quiet.of_still {s : Sem Next} {v : Value} (hs : still P s = some (.value v)) : Quiet P I s v :=
  ⟨fun _ _ _ hk => swp_of_rwp _ (rwp_of_still _ hs hk), fun _ _ _ hw => swp_still_out (R := fun nx h' => nxw P I nx h' _) s hs hw⟩
theorem agree {g : FuncId} {args : Array Value} {w : World} {a b : Value} {R R' : World → Prop} (h : Calls P g args w fun e w' => e = .returned a ∧ R w') (h' : Calls P g args w fun e w' => e = .returned b ∧ R' w')
    (hi : P.inits.idxOf? g = none) : a = b := by
  have h2 : Calls P g args w fun | .returned v, w' => v = a ∧ R w' | _, _ => False := h.mono fun e w' ⟨he, q⟩ => by subst he; exact ⟨rfl, q⟩
  have h2' : Calls P g args w fun | .returned v, w' => v = b ∧ R' w' | _, _ => False := h'.mono fun e w' ⟨he, q⟩ => by subst he; exact ⟨rfl, q⟩
  obtain ⟨n, v, w1, e1, r1⟩ := h2.done hi
  obtain ⟨m, v', w2, e2, r2⟩ := h2'.done hi
  have x := runN_ended e1 m
  have y := runN_ended e2 n
  rw [Nat.add_comm, x] at y
  injection y with ho hw
  injection ho with hv
  rw [← r1.1, ← r2.1, hv]
theorem run_callFunc {g : FuncId} {args : Array Value} {w : World} (hc : callable P g) : (callFunc g args).run P w = .ok (.enter g args) w := by
  obtain ⟨fn, h1, h2, h3⟩ := hc
  unfold callFunc
  simp only [bind, program, Sem.bind, Sem.run, h1, h2, h3]
  rfl
theorem Quiet.of_call {g : FuncId} {args : Array Value} {v : Value} (hp : PureFn P I g args.toList v) : Quiet P I (callFunc g args) v := by
  obtain ⟨hc, hin, hf⟩ := hp
  refine ⟨fun h K hl hk => swp_callFunc hc fun hl => ⟨[], h, List.Perm.refl _, (hf h hl).mono ?_⟩, fun h v' hl hw => ?_⟩
  · rintro u h1 ⟨rfl, rfl⟩; exact hk
  · obtain ⟨w0, K0, w, hi⟩ := hl
    obtain ⟨nx, w1, h1, hr, hn, hi1⟩ := swp_run (w0 := w0) (K0 := K0) _ hw hi
    rw [run_callFunc hc] at hr
    injection hr with e1 e2
    subst e1; subst e2
    obtain ⟨hc', hr', hp', hf'⟩ := hn ⟨_, _, _, hi1⟩
    have c1 := (hf h1 ⟨_, _, _, hi1⟩).frame.2 w0 K0 w (by simpa using hi1)
    have c2 := hf'.frame.2 w0 K0 w (hi1.perm hp')
    exact agree (R := fun _ => True) (R' := fun _ => True) (c1.mono fun e w' ⟨u, h', he, ⟨_, _, hu, _⟩, _⟩ => ⟨by rw [he, hu], trivial⟩) (c2.mono fun e w' ⟨u, h', he, ⟨_, _, hu⟩, _⟩ => ⟨by rw [he, hu], trivial⟩) hin
/-- Operation i, o, of class c. -/
def stO (P : Program) (I : Ctx) (un : Nat → Nat → Bool) (ops : Array Oper) (i c : Nat) (o : Oper) (τ : List Value) (h : Mem) (pn : Pins) (K : KP) : Prop :=
  if wtd ops o τ then
    match c with
    | 0 => ∃ v, Quiet P I (execOp (evl τ) o) v ∧ K (putl τ o.dst v) h pn
    | 1 => ∃ v, rwp P I h (execOp (evl τ) o) (fun nx => nx = .value v) ∧ K (putl τ o.dst v) h ((i, execOp (evl τ) o, v) :: pn)
    | 2 => ∃ ob F, AlOk P (execOp (evl τ) o) ob F ∧ ∀ g, g ∉ keys h → I g = none → Live I ((g, ob) :: h) → K (putl τ o.dst (F g)) ((g, ob) :: h) pn
    | _ + 3 => opw P I o τ h (fun v h' => Live I h' → (∀ p ∈ pn, un p.1 i = true → rwp P I h' p.2.1 (fun nx => nx = .value p.2.2)) ∧ K (putl τ o.dst v) h' pn)
  else K (putl τ o.dst undef) h pn

def Robust (K : KP) : Prop := ∀ τ h h' pn pn', K τ h pn → h.Perm h' → (∀ p ∈ pn', p ∈ pn) → K τ h' pn'

section
variable {un : Nat → Nat → Bool} {ops : Array Oper} {i c j d : Nat} {o x y : Oper} {τ : List Value} {h : Mem} {pn : Pins} {K K' : KP}
theorem stO_mono (hl : Live I h) (hk : ∀ τ' h' pn', Live I h' → (∃ u, τ' = putl τ o.dst u) → K τ' h' pn' → K' τ' h' pn') (hs : stO P I un ops i c o τ h pn K) : stO P I un ops i c o τ h pn K' := by
  unfold stO at *
  split
  · rename_i hw
    rw [if_pos hw] at hs
    split
    · obtain ⟨v, h1, h2⟩ := hs; exact ⟨v, h1, hk _ _ _ hl ⟨_, rfl⟩ h2⟩
    · obtain ⟨v, h1, h2⟩ := hs; exact ⟨v, h1, hk _ _ _ hl ⟨_, rfl⟩ h2⟩
    · obtain ⟨ob, F, h1, h2⟩ := hs; exact ⟨ob, F, h1, fun g hg hI hl' => hk _ _ _ hl' ⟨_, rfl⟩ (h2 g hg hI hl')⟩
    · exact opw_mono hs fun v h' hh hl' => ⟨(hh hl').1, hk _ _ _ hl' ⟨_, rfl⟩ (hh hl').2⟩
  · rename_i hw
    rw [if_neg hw] at hs
    exact hk _ _ _ hl ⟨_, rfl⟩ hs
theorem stO_live (hl : Live I h) (hs : stO P I un ops i c o τ h pn K) : ∃ τ' h' pn', Live I h' ∧ (∃ u, τ' = putl τ o.dst u) ∧ K τ' h' pn' := by
  unfold stO at hs
  split at hs
  · split at hs
    · obtain ⟨v, h1, h2⟩ := hs; exact ⟨_, _, _, hl, ⟨_, rfl⟩, h2⟩
    · obtain ⟨v, h1, h2⟩ := hs; exact ⟨_, _, _, hl, ⟨_, rfl⟩, h2⟩
    · obtain ⟨ob, F, h1, h2⟩ := hs
      obtain ⟨g, hg, hI, hl'⟩ := hl.fresh ob
      exact ⟨_, _, _, hl', ⟨_, rfl⟩, h2 g hg hI hl'⟩
    · obtain ⟨v, h', hl', hh⟩ := opw_live hl hs
      exact ⟨_, _, _, hl', ⟨_, rfl⟩, (hh hl').2⟩
  · exact ⟨_, _, _, hl, ⟨_, rfl⟩, hs⟩
theorem stO_robust (hK : Robust K) {h' : Mem} {pn' : Pins} (p : h.Perm h') (hp : ∀ q ∈ pn', q ∈ pn) (hs : stO P I un ops i c o τ h pn K) : stO P I un ops i c o τ h' pn' K := by
  unfold stO at *
  split
  · rename_i hw
    rw [if_pos hw] at hs
    split
    · obtain ⟨v, h1, h2⟩ := hs; exact ⟨v, h1, hK _ _ _ _ _ h2 p hp⟩
    · obtain ⟨v, h1, h2⟩ := hs
      exact ⟨v, rwp_sub (fun z hz => p.mem_iff.1 hz) _ h1, hK _ _ _ _ _ h2 p fun q hq => by
        rcases List.mem_cons.1 hq with hq | hq
        · exact List.mem_cons.2 (.inl hq)
        · exact List.mem_cons.2 (.inr (hp q hq))⟩
    · obtain ⟨ob, F, h1, h2⟩ := hs
      exact ⟨ob, F, h1, fun g hg hI hl => hK _ _ _ _ _ (h2 g (fun hm => hg ((keys_perm p).mem_iff.1 hm)) hI (hl.perm (p.symm.cons _))) (p.cons _) hp⟩
    · refine opw_mono (opw_perm p hs) ?_
      rintro v h2 ⟨h1, hp1, hh⟩ hl
      obtain ⟨h3, h4⟩ := hh (hl.perm hp1.symm)
      exact ⟨fun q hq hu => rwp_sub (fun z hz => hp1.mem_iff.1 hz) _ (h3 q (hp q hq) hu), hK _ _ _ _ _ h4 hp1 hp⟩
  · rename_i hw
    rw [if_neg hw] at hs
    exact hK _ _ _ _ _ hs p hp
theorem Robust.stO (hK : Robust K) : Robust (fun τ h pn => stO P I un ops i c o τ h pn K) := fun τ h h' pn pn' hs p hp => stO_robust hK p hp hs

theorem putl_comm (τ : List Value) {dx dy : Option Tmp} (v u : Value) (hd : ∀ d, dx = some d → dy ≠ some d) : putl (putl τ dx v) dy u = putl (putl τ dy u) dx v := by
  cases dx with
  | none => rfl
  | some d =>
    cases dy with
    | none => rfl
    | some e =>
      have hne : d ≠ e := fun he => hd d rfl (he ▸ rfl)
      simp only [putl]
      exact List.set_comm _ _ hne
theorem exec_putl (hs : ∀ cs b, o.op ≠ .select cs b) {dx : Option Tmp} (v : Value) (hd : ∀ d, dx = some d → d ∉ o.looksAt ops) : execOp (evl (putl τ dx v)) o = execOp (evl τ) o := by
  rw [← act_eval _ [], ← act_eval _ [], ← act_put]
  exact execOp_put o hs _ dx v hd
theorem wtd_putl {dx : Option Tmp} (v : Value) (hd : ∀ d, dx = some d → d ∉ o.looksAt ops) : wtd ops o (putl τ dx v) = wtd ops o τ := by
  unfold wtd
  rw [← act_put]
  exact wanted_put o _ dx v hd
theorem stO_putl (hs : ∀ cs b, o.op ≠ .select cs b) {dx : Option Tmp} (v : Value) (hd : ∀ d, dx = some d → d ∉ o.looksAt ops) (hd2 : ∀ d, dx = some d → o.dst ≠ some d) :
    stO P I un ops i c o (putl τ dx v) h pn K = stO P I un ops i c o τ h pn (fun τ' h' pn' => K (putl τ' dx v) h' pn') := by
  unfold stO
  rw [wtd_putl v hd]
  simp only [exec_putl hs v hd, putl_comm τ (dx := dx) (dy := o.dst) v _ hd2, opw]
end

/-- In this order. -/
def regL (P : Program) (I : Ctx) (un : Nat → Nat → Bool) (c : Nat → Oper → Nat) (ops : Array Oper) : List Nat → List Value → Mem → Pins → KP → Prop
  | [], τ, h, pn, K => K τ h pn
  | i :: r, τ, h, pn, K => match ops[i]? with
    | none => False
    | some o => stO P I un ops i (c i o) o τ h pn (fun τ' h' pn' => regL P I un c ops r τ' h' pn' K)
theorem regL_robust {un : Nat → Nat → Bool} {c : Nat → Oper → Nat} {ops : Array Oper} {K : KP} (hK : Robust K) : ∀ l, Robust (fun τ h pn => regL P I un c ops l τ h pn K)
  | [] => hK
  | i :: r => by
    have ih := regL_robust (un := un) (c := c) (ops := ops) hK r
    intro τ h h' pn pn' hs p hp
    simp only [regL] at hs ⊢
    split
    · rename_i ho; simp only [ho] at hs
    · rename_i o ho; simp only [ho] at hs; exact stO_robust ih p hp hs

/-- May x, ahead of y, come behind it? -/
def allowed (un : Nat → Nat → Bool) (i j cx cy : Nat) : Bool := match cx, cy with
  | 3, 3 | 3, 1 | 2, 3 | 2, 1 => false
  | 1, 3 => un i j
  | _, _ => true

theorem stO_swap {un : Nat → Nat → Bool} {ops : Array Oper} {i j cx cy : Nat} {x y : Oper} {τ : List Value} {h : Mem} {pn : Pins} {K : KP} (hl : Live I h) (hK : Robust K)
    (hap : x.apart ops y = true) (hsx : ∀ cs b, x.op ≠ .select cs b) (hsy : ∀ cs b, y.op ≠ .select cs b) (hcx : cx ≤ 3) (hcy : cy ≤ 3) (hal : allowed un i j cx cy = true)
    (hs : stO P I un ops i cx x τ h pn (fun τ' h' pn' => stO P I un ops j cy y τ' h' pn' K)) :
    stO P I un ops j cy y τ h pn (fun τ' h' pn' => stO P I un ops i cx x τ' h' pn' K) := by
  obtain ⟨a1, a2, a3⟩ := Oper.apart_spec hap
  have a2' : ∀ d, y.dst = some d → x.dst ≠ some d := fun d hd he => a2 d he hd
  have ex : ∀ τ u, execOp (evl (putl τ y.dst u)) x = execOp (evl τ) x := fun τ u => exec_putl (ops := ops) hsx u a3
  have ey : ∀ τ u, execOp (evl (putl τ x.dst u)) y = execOp (evl τ) y := fun τ u => exec_putl (ops := ops) hsy u a1
  have wx : ∀ τ u, wtd ops x (putl τ y.dst u) = wtd ops x τ := fun τ u => wtd_putl u a3
  have wy : ∀ τ u, wtd ops y (putl τ x.dst u) = wtd ops y τ := fun τ u => wtd_putl u a1
  -- y quiet
  have yq : ∀ v, (∀ τ' h' pn', (∃ u, τ' = putl τ x.dst u) → stO P I un ops j cy y τ' h' pn' K → K (putl τ' y.dst v) h' pn') →
      stO P I un ops i cx x (putl τ y.dst v) h pn K := by
    intro v hv
    rw [stO_putl hsx v a3 a2']
    exact stO_mono hl (fun τ' h' pn' _ ht hh => hv τ' h' pn' ht hh) hs
  by_cases hwx : wtd ops x τ = true
  · by_cases hwy : wtd ops y τ = true
    · rcases (show cx = 0 ∨ cx = 1 ∨ cx = 2 ∨ cx = 3 by omega) with rfl | rfl | rfl | rfl
      · -- x asks the program alone
        unfold stO at hs
        rw [if_pos hwx] at hs
        obtain ⟨v, hv, hs⟩ := hs
        rw [show (if wtd ops y (putl τ x.dst v) = true then _ else _) = stO P I un ops j cy y (putl τ x.dst v) h pn K from rfl, stO_putl hsy v a1 a2] at hs
        refine stO_mono hl ?_ hs
        rintro τ' h' pn' _ ⟨u, rfl⟩ hk
        unfold stO
        show (if wtd ops x _ = true then _ else _)
        rw [if_pos (by rw [wx]; exact hwx)]
        exact ⟨v, by rw [ex]; exact hv, hk⟩
      · rcases (show cy = 0 ∨ cy = 1 ∨ cy = 2 ∨ cy = 3 by omega) with rfl | rfl | rfl | rfl
        · obtain ⟨τ', h', pn', hl', ⟨u, rfl⟩, hh⟩ := stO_live hl hs
          unfold stO at hh
          rw [if_pos (by rw [wy]; exact hwy)] at hh
          obtain ⟨v, hv, _⟩ := hh
          rw [ey] at hv
          unfold stO
          rw [if_pos hwy]
          refine ⟨v, hv, yq v ?_⟩
          rintro τ' h' pn' ⟨u, rfl⟩ hh
          unfold stO at hh
          rw [if_pos (by rw [wy]; exact hwy)] at hh
          obtain ⟨v', hv', hk⟩ := hh
          rw [ey] at hv'
          obtain rfl := hv.det hl hv'
          exact hk
        · unfold stO at hs
          rw [if_pos hwx] at hs
          obtain ⟨v, hv, hs⟩ := hs
          rw [if_pos (by rw [wy]; exact hwy)] at hs
          obtain ⟨u, hu, hk⟩ := hs
          rw [ey] at hu hk
          unfold stO
          rw [if_pos hwy]
          refine ⟨u, hu, ?_⟩
          show (if wtd ops x _ = true then _ else _)
          rw [if_pos (by rw [wx]; exact hwx)]
          refine ⟨v, by rw [ex]; exact hv, ?_⟩
          rw [ex, ← putl_comm τ v u a2]
          exact hK _ _ _ _ _ hk (List.Perm.refl _) (fun q hq => by
            simp only [List.mem_cons] at hq ⊢
            rcases hq with hq | hq | hq
            · exact .inr (.inl hq)
            · exact .inl hq
            · exact .inr (.inr hq))
        · unfold stO at hs
          rw [if_pos hwx] at hs
          obtain ⟨v, hv, hs⟩ := hs
          rw [if_pos (by rw [wy]; exact hwy)] at hs
          obtain ⟨ob, F, ha, hk⟩ := hs
          rw [ey] at ha
          unfold stO
          rw [if_pos hwy]
          refine ⟨ob, F, ha, fun g hg hI hl' => ?_⟩
          show (if wtd ops x _ = true then _ else _)
          rw [if_pos (by rw [wx]; exact hwx)]
          refine ⟨v, by rw [ex]; exact rwp_sub (fun z hz => List.mem_cons_of_mem _ hz) _ hv, ?_⟩
          rw [ex, ← putl_comm τ v (F g) a2]
          exact hk g hg hI hl'
        · unfold stO at hs
          rw [if_pos hwx] at hs
          obtain ⟨v, hv, hs⟩ := hs
          rw [if_pos (by rw [wy]; exact hwy)] at hs
          have hs' : opw P I y (putl τ x.dst v) h _ := hs
          unfold opw at hs'
          rw [ey] at hs'
          unfold stO
          rw [if_pos hwy]
          refine opw_mono hs' fun u h' hh hl' => ?_
          obtain ⟨hp, hk⟩ := hh hl'
          refine ⟨fun p hp' => hp p (List.mem_cons_of_mem _ hp'), ?_⟩
          show (if wtd ops x _ = true then _ else _)
          rw [if_pos (by rw [wx]; exact hwx)]
          refine ⟨v, by rw [ex]; exact hp _ List.mem_cons_self hal, ?_⟩
          rw [ex, ← putl_comm τ v u a2]
          exact hk
      · rcases (show cy = 0 ∨ cy = 1 ∨ cy = 2 ∨ cy = 3 by omega) with rfl | rfl | rfl | rfl
        · obtain ⟨τ', h', pn', hl', ⟨u, rfl⟩, hh⟩ := stO_live hl hs
          unfold stO at hh
          rw [if_pos (by rw [wy]; exact hwy)] at hh
          obtain ⟨v, hv, _⟩ := hh
          rw [ey] at hv
          unfold stO
          rw [if_pos hwy]
          refine ⟨v, hv, yq v ?_⟩
          rintro τ' h' pn' ⟨u, rfl⟩ hh
          unfold stO at hh
          rw [if_pos (by rw [wy]; exact hwy)] at hh
          obtain ⟨v', hv', hk⟩ := hh
          rw [ey] at hv'
          obtain rfl := hv.det hl hv'
          exact hk
        · simp [allowed] at hal
        · unfold stO at hs
          rw [if_pos hwx] at hs
          obtain ⟨ob, F, ha, hs⟩ := hs
          obtain ⟨g0, hg0, hI0, hl0⟩ := hl.fresh ob
          have h1 : (if wtd ops y (putl τ x.dst (F g0)) = true then _ else _) := hs g0 hg0 hI0 hl0
          rw [if_pos (by rw [wy]; exact hwy)] at h1
          obtain ⟨ob2, F2, ha2, _⟩ := h1
          rw [ey] at ha2
          unfold stO
          rw [if_pos hwy]
          refine ⟨ob2, F2, ha2, fun g' hg' hI' hl' => ?_⟩
          show (if wtd ops x _ = true then _ else _)
          rw [if_pos (by rw [wx]; exact hwx)]
          refine ⟨ob, F, by rw [ex]; exact ha, fun g hg hI hl2 => ?_⟩
          have hsw : ((g, ob) :: (g', ob2) :: h).Perm ((g', ob2) :: (g, ob) :: h) := List.Perm.swap _ _ _
          rw [keys_cons, List.mem_cons, not_or] at hg
          have h2 : (if wtd ops y (putl τ x.dst (F g)) = true then _ else _) := hs g hg.2 hI (hl2.perm hsw).tail
          rw [if_pos (by rw [wy]; exact hwy)] at h2
          obtain ⟨ob3, F3, ha3, h3⟩ := h2
          rw [ey] at ha3
          obtain ⟨rfl, rfl⟩ := ha2.det ha3
          have h4 := h3 g' (by rw [keys_cons, List.mem_cons, not_or]; exact ⟨fun e => hg.1 e.symm, hg'⟩) hI' (hl2.perm hsw)
          rw [← putl_comm τ (F g) (F2 g') a2]
          exact hK _ _ _ _ _ h4 hsw.symm (fun q hq => hq)
        · simp [allowed] at hal
      · rcases (show cy = 0 ∨ cy = 1 ∨ cy = 2 ∨ cy = 3 by omega) with rfl | rfl | rfl | rfl
        · obtain ⟨τ', h', pn', hl', ⟨u, rfl⟩, hh⟩ := stO_live hl hs
          unfold stO at hh
          rw [if_pos (by rw [wy]; exact hwy)] at hh
          obtain ⟨v, hv, _⟩ := hh
          rw [ey] at hv
          unfold stO
          rw [if_pos hwy]
          refine ⟨v, hv, yq v ?_⟩
          rintro τ' h' pn' ⟨u, rfl⟩ hh
          unfold stO at hh
          rw [if_pos (by rw [wy]; exact hwy)] at hh
          obtain ⟨v', hv', hk⟩ := hh
          rw [ey] at hv'
          obtain rfl := hv.det hl hv'
          exact hk
        · simp [allowed] at hal
        · obtain ⟨τ', h', pn', hl', ⟨u, rfl⟩, hh⟩ := stO_live hl hs
          unfold stO at hh
          rw [if_pos (by rw [wy]; exact hwy)] at hh
          obtain ⟨ob, F, ha, _⟩ := hh
          rw [ey] at ha
          unfold stO at hs
          rw [if_pos hwx] at hs
          unfold stO
          rw [if_pos hwy]
          refine ⟨ob, F, ha, fun g hg hI hlg => ?_⟩
          show (if wtd ops x _ = true then _ else _)
          rw [if_pos (by rw [wx]; exact hwx)]
          have hs2 : opw P I x (putl τ y.dst (F g)) h (fun v h' => Live I h' → (∀ p ∈ pn, un p.1 i = true → rwp P I h' p.2.1 (fun nx => nx = .value p.2.2)) ∧ stO P I un ops j 2 y (putl τ x.dst v) h' pn K) := by
            unfold opw
            rw [ex]
            exact hs
          have hgI : ∀ b, b ∈ keys [(g, ob)] → I b = none := by
            intro b hb
            simp at hb
            subst hb
            exact hI
          have hs3 := opw_perm (List.perm_append_comm (l₁ := h) (l₂ := [(g, ob)])) (opw_frame hgI hs2)
          refine opw_mono hs3 ?_
          rintro v h3 ⟨h2, hp2, h1, rfl, hh⟩ hl3
          have hp3 : h3.Perm ((g, ob) :: h1) := hp2.symm.trans (List.perm_append_comm (l₁ := h1) (l₂ := [(g, ob)]))
          have hl4 := hl3.perm hp3
          obtain ⟨hp, hk⟩ := hh hl4.tail
          refine ⟨fun p hp' hu => rwp_sub (fun z hz => hp3.mem_iff.2 (List.mem_cons_of_mem _ hz)) _ (hp p hp' hu), ?_⟩
          unfold stO at hk
          rw [if_pos (by rw [wy]; exact hwy)] at hk
          obtain ⟨ob3, F3, ha3, h5⟩ := hk
          rw [ey] at ha3
          obtain ⟨rfl, rfl⟩ := ha.det ha3
          have hnd := hl4.nd
          rw [keys_cons, List.nodup_cons] at hnd
          have h6 := h5 g hnd.1 hI hl4
          rw [← putl_comm τ v (F g) a2]
          exact hK _ _ _ _ _ h6 hp3.symm (fun q hq => hq)
        · simp [allowed] at hal
    · -- y isn't wanted
      have hwy' : wtd ops y τ = false := by simpa using hwy
      unfold stO
      rw [if_neg hwy]
      refine yq undef ?_
      rintro τ' h' pn' ⟨u, rfl⟩ hh
      unfold stO at hh
      rw [if_neg (by rw [wy, hwy']; simp)] at hh
      exact hh
  · -- x isn't wanted
    have hwx' : wtd ops x τ = false := by simpa using hwx
    unfold stO at hs
    rw [if_neg hwx] at hs
    rw [show (if wtd ops y (putl τ x.dst undef) = true then _ else _) = stO P I un ops j cy y (putl τ x.dst undef) h pn K from rfl, stO_putl hsy undef a1 a2] at hs
    refine stO_mono hl ?_ hs
    rintro τ' h' pn' _ ⟨u, rfl⟩ hk
    unfold stO
    rw [if_neg (by rw [wx, hwx']; simp)]
    exact hk
end
end Go.Proofs.YtcafalcmfdnojaaDoorS
