/- The tree of a piece of code is sound (regions that draw no order). -/
import Derived.Test.YtcafalcmfdnojaaDoorSC
import Derived.Laws.Sem
set_option linter.unusedVariables false
namespace Go.Proofs.YtcafalcmfdnojaaDoorS
section
variable {P : Program} {I : Ctx} {cfg : Cfg} {f : Ctl} {Q : Value → Mem → Prop}

theorem swp_v (s : Sem Value) (h : Mem) (K : Next → Mem → Prop) : swp P I (do pure (.value (← s))) h K = swp P I s h (fun x h' => K (.value x) h') := by
  rw [swp_bind]; rfl
theorem swp_u (s : Sem Unit) (h : Mem) (K : Next → Mem → Prop) : swp P I (do s; pure .skip) h K = swp P I s h (fun _ h' => K .skip h') := by
  rw [swp_bind]; rfl
theorem swp_callFunc {g : FuncId} {args : Array Value} {h : Mem} {K : Next → Mem → Prop} (hc : callable P g) (hk : K (.enter g args) h) : swp P I (callFunc g args) h K := by
  obtain ⟨fn, h1, h2, h3⟩ := hc
  unfold callFunc
  simp only [swp_bind, swp_program, h1, h2, h3]
  exact hk

theorem evPure_sound {o : Oper} {τ : List Value} {kk : Value → Tr} {h : Mem} (hl : Live I h) (hh : holds P f I Q (evPure P o τ kk) h) : ∃ v, still P (execOp (evl τ) o) = some (.value v) ∧ holds P f I Q (kk v) h := by
  unfold evPure at hh
  split at hh
  · rename_i v hv; exact ⟨v, hv, hh⟩
  · exact (hh hl).elim
theorem opw_pure {o : Oper} {τ : List Value} {h : Mem} {K : Value → Mem → Prop} (hh : ∃ v, still P (execOp (evl τ) o) = some (.value v) ∧ K v h) : opw P I o τ h K := by
  obtain ⟨v, hv, hk⟩ := hh
  exact swp_of_rwp _ (rwp_of_still _ hv hk)
theorem evOp_sound {rid i : Nat} {o : Oper} {τ : List Value} {kk : Value → Tr} {h : Mem} (hl : Live I h) (hh : holds P f I Q (evOp P cfg rid i o τ kk) h) :
    opw P I o τ h (fun v h' => holds P f I Q (kk v) h') := by
  have out : ∀ {sh : Sh} {v : Value} {h : Mem}, (∃ l, v = sh.val l ∧ holds P f I Q (kk (sh.val l)) h) → holds P f I Q (kk v) h := by
    rintro sh v h ⟨l, rfl, hl⟩; exact hl
  unfold evOp at hh
  split at hh
  · refine swp_of_rwp _ (rwp_mono _ (hh hl) ?_)
    rintro nx ⟨l, rfl, hl⟩
    exact hl
  · refine swp_mono _ (hh hl) ?_
    rintro nx h' ⟨l, rfl, hl⟩
    exact hl
  · obtain ⟨dst, op, type, pos, after, guard⟩ := o
    unfold opw execOp
    split at hh <;> rename_i hop <;> simp only at hop ⊢ <;> (try simp only [hop])
    · rw [swp_v]; exact swp_mono _ (swp_of_rwp _ (Q := fun v h' => ∃ l, v = (cfg.sh _).val l ∧ holds P f I Q (kk ((cfg.sh _).val l)) h') (hh hl)) fun v h' hv => out hv
    · rw [swp_u]; exact hh hl
    · rw [swp_v]; exact swp_mono _ (hh hl) fun v h' hv => out hv
    · rw [swp_v]; exact swp_mono _ (hh hl) fun v h' hv => out hv
    · rw [swp_v]; exact swp_mono _ (hh hl) fun v h' hv => out hv
    · rw [swp_v]; exact swp_mono _ (hh hl) fun v h' hv => out hv
    · rw [swp_v]; exact swp_mono _ (swp_of_rwp _ (Q := fun v h' => ∃ l, v = shPadr.val l ∧ holds P f I Q (kk (shPadr.val l)) h') (hh hl)) fun v h' hv => out hv
    · rw [swp_v]; exact swp_mono _ (swp_of_rwp _ (Q := fun v h' => ∃ l, v = (cfg.sh _).val l ∧ holds P f I Q (kk ((cfg.sh _).val l)) h') (hh hl)) fun v h' hv => out hv
    · rw [swp_v]; exact swp_mono _ (swp_of_rwp _ (Q := fun v h' => ∃ l, v = (cfg.sh _).val l ∧ holds P f I Q (kk ((cfg.sh _).val l)) h') (hh hl)) fun v h' hv => out hv
    · rename_i c
      split at hh
      · rename_i fv hcal
        split at hh
        · rename_i g first captured hfv
          have he : first ++ Array.map (evl τ) c.args ++ captured = ⟨first.toList ++ (c.args.toList.map (evl τ)) ++ captured.toList⟩ := by
            apply Array.ext'; simp
          split at hh
          · obtain ⟨hcal', hf⟩ := hh hl
            simp only [resolve, hcal, hfv, Deferred.ofValue, swp_bind, swp_pure, invoke]
            refine swp_callFunc hcal' fun hl => ?_
            obtain ⟨hc, hr, hp, hf⟩ := hf
            refine ⟨hc, hr, hp, ?_⟩
            rw [he]
            exact hf.mono fun v h1 hv => out hv
          · obtain ⟨l, ⟨hcal', _, hf⟩, hk⟩ := hh hl
            simp only [resolve, hcal, hfv, Deferred.ofValue, swp_bind, swp_pure, invoke]
            refine swp_callFunc hcal' fun hl => ⟨[], h, List.Perm.refl _, ?_⟩
            rw [he]
            refine (hf h hl).mono ?_
            rintro v h1 ⟨rfl, rfl⟩
            exact hk
        · rename_i l first captured hfv
          split at hh
          case h_2 => exact (hh hl).elim
          obtain ⟨r, hr, hlen, hc, hr', hp, hf⟩ := hh hl
          have he : first ++ Array.map (evl τ) c.args = ⟨first.toList ++ (c.args.toList.map (evl τ))⟩ := by
            apply Array.ext'; simp
          simp only [resolve, hcal, hfv, Deferred.ofValue, swp_bind, swp_pure, invoke, he, Instr.yield, Instr.getLoop, getObj]
          refine ⟨_, hr, (fun _ _ _ => by simp), ?_⟩
          show swp P I (if (⟨first.toList ++ List.map (evl τ) c.args.toList⟩ : Array Value).size ≠ r.params.size then _ else _) h _
          rw [if_neg (by rw [show (⟨first.toList ++ List.map (evl τ) c.args.toList⟩ : Array Value).size = (first.toList ++ List.map (evl τ) c.args.toList).length from rfl, hlen]; exact fun h => h rfl)]
          refine fun hl => ⟨hc, hr', hp, hf.mono ?_⟩
          rintro v h1 ⟨b, rfl, hk⟩
          exact hk
        · exact (hh hl).elim
      · rename_i b hcal
        split at hh
        · have h1 := opw_pure (K := fun v h' => holds P f I Q (kk v) h') (I := I) (evPure_sound hl hh); unfold opw execOp at h1; simpa only [hop] using h1
        · have h1 := opw_pure (K := fun v h' => holds P f I Q (kk v) h') (I := I) (evPure_sound hl hh); unfold opw execOp at h1; simpa only [hop] using h1
        · have h1 := opw_pure (K := fun v h' => holds P f I Q (kk v) h') (I := I) (evPure_sound hl hh); unfold opw execOp at h1; simpa only [hop] using h1
        · have h1 := opw_pure (K := fun v h' => holds P f I Q (kk v) h') (I := I) (evPure_sound hl hh); unfold opw execOp at h1; simpa only [hop] using h1
        · have h1 : swp P I _ h _ := hh hl
          unfold execOp at h1
          simp only [hop] at h1
          refine swp_mono _ h1 ?_
          rintro nx h' ⟨l, rfl, hl⟩
          exact hl
      · exact (hh hl).elim
    · have h1 := opw_pure (K := fun v h' => holds P f I Q (kk v) h') (I := I) (evPure_sound hl hh)
      unfold opw execOp at h1
      exact h1

def KnOk (kn : Kn) (τ : List Value) : Prop := ∀ d x, kn.lookup d = some x → match x with | some b => τ.getD d undef = .bool b | none => τ.getD d undef = undef
theorem KnOk.nil (τ : List Value) : KnOk [] τ := fun d x h => by simp at h
theorem lookup_filter (d e : Nat) : ∀ (kn : Kn), List.lookup e (kn.filter (fun p => p.1 != d)) = if e = d then none else List.lookup e kn
  | [] => by simp
  | (p1, p2) :: kn => by
    have ih := lookup_filter d e kn
    rw [List.filter_cons]
    by_cases hp : p1 = d
    · subst hp
      simp only [bne_self_eq_false, Bool.false_eq_true, if_false]
      rw [ih]
      by_cases he : e = p1
      · rw [if_pos he, if_pos he]
      · have h2 : (e == p1) = false := by simp [he]
        rw [if_neg he, if_neg he, List.lookup_cons, h2]
    · have h1 : (p1 != d) = true := by simp [hp]
      simp only [h1, if_true]
      rw [List.lookup_cons, List.lookup_cons, ih]
      by_cases he : e = p1
      · subst he; simp [hp]
      · have h2 : (e == p1) = false := by simp [he]
        simp only [h2]
theorem lookup_drop (kn : Kn) (d e : Nat) : List.lookup e (kn.drop (some d)) = if e = d then none else List.lookup e kn := lookup_filter d e kn
theorem still_exec_move {o : Oper} {τ : List Value} {x : Operand} {v : Value} (ho : o.op = .move x ∨ o.op = .assign x) (h : still P (execOp (evl τ) o) = some (.value v)) : v = evl τ x := by
  unfold execOp at h
  rcases ho with ho | ho <;> simp only [ho] at h <;> (have h2 : some (Next.value (evl τ x)) = some (.value v) := h) <;> simpa using h2.symm
theorem still_exec_pick {o : Oper} {τ : List Value} {c : Nat} {x y : Operand} {v : Value} {b : Bool} (ho : o.op = .pick (.tmp c) x y) (hc : τ.getD c undef = .bool b) (h : still P (execOp (evl τ) o) = some (.value v)) :
    v = if b then evl τ x else evl τ y := by
  unfold execOp at h
  simp only [ho] at h
  have hc' : evl τ (.tmp c) = .bool b := hc
  simp only [hc'] at h
  have h2 : some (Next.value (if b = true then evl τ x else evl τ y)) = some (.value v) := h
  simpa using h2.symm
/-- The value of what is moved is told. -/
def Sure (P : Program) (cfg : Cfg) (rid i : Nat) (o : Oper) (τ : List Value) (v : Value) : Prop :=
  (cfg.hint rid i).isSome = false → (∃ x, o.op = .move x ∨ o.op = .assign x) ∨ (∃ c x y, o.op = .pick c x y) → still P (execOp (evl τ) o) = some (.value v)
theorem evOp_sound2 {rid i : Nat} {o : Oper} {τ : List Value} {kk : Value → Tr} {h : Mem} (hl : Live I h) (hh : holds P f I Q (evOp P cfg rid i o τ kk) h) :
    opw P I o τ h (fun v h' => holds P f I Q (kk v) h' ∧ Sure P cfg rid i o τ v) := by
  by_cases hq : (cfg.hint rid i).isSome = false ∧ ((∃ x, o.op = .move x ∨ o.op = .assign x) ∨ (∃ c x y, o.op = .pick c x y))
  · obtain ⟨hn, ho⟩ := hq
    have hn' : cfg.hint rid i = none := by simpa using hn
    have he : evOp P cfg rid i o τ kk = evPure P o τ kk := by
      unfold evOp
      rw [hn']
      rcases ho with ⟨x, ho | ho⟩ | ⟨c, x, y, ho⟩ <;> simp only [ho]
    rw [he] at hh
    obtain ⟨v, hv, hk⟩ := evPure_sound hl hh
    exact opw_pure ⟨v, hv, hk, fun _ _ => hv⟩
  · exact opw_mono (evOp_sound hl hh) fun v h' hv => ⟨hv, fun h1 h2 => absurd ⟨h1, h2⟩ hq⟩
theorem getD_set_ne {τ : List Value} {d e : Nat} {v : Value} (h : e ≠ d) : (τ.set d v).getD e undef = τ.getD e undef := by
  simp [List.getD_eq_getElem?_getD, List.getElem?_set_ne (Ne.symm h)]
theorem KnOk.put {kn : Kn} {τ : List Value} (hk : KnOk kn τ) (dst : Option Tmp) (v : Value) : KnOk (kn.drop dst) (putl τ dst v) := by
  cases dst with
  | none => exact hk
  | some d =>
    intro e x hx
    rw [lookup_drop] at hx
    split at hx
    · cases hx
    · rename_i hne
      have := hk e x hx
      cases x with
      | some b => exact (getD_set_ne hne).trans this
      | none => exact (getD_set_ne hne).trans this
def kv : Option Bool → Value
  | some b => .bool b
  | none => Go.undef
theorem KnOk.get {kn : Kn} {τ : List Value} (hk : KnOk kn τ) {d : Nat} {x : Option Bool} (h : kn.lookup d = some x) : τ.getD d Go.undef = kv x := by
  have := hk d x h
  cases x <;> exact this
theorem KnOk.src {kn : Kn} {τ : List Value} (hk : KnOk kn τ) {x : Operand} {y : Option Bool} (h : kn.src x = some y) : evl τ x = kv y := by
  unfold Kn.src at h
  split at h
  · exact hk.get h
  · simp only [Option.some.injEq] at h; subst h; rfl
  · cases h
theorem KnOk.mv {kn : Kn} {τ : List Value} {o : Oper} {v : Value} {x : Option Bool} (hk : KnOk kn τ) (hx : kn.mv o.op = some x)
    (hs : (∃ x, o.op = .move x ∨ o.op = .assign x) ∨ (∃ c x y, o.op = .pick c x y) → still P (execOp (evl τ) o) = some (.value v)) : v = kv x := by
  generalize ho : o.op = op at hx
  unfold Kn.mv at hx
  split at hx
  · rename_i z
    rw [still_exec_move (.inl ho) (hs (.inl ⟨z, .inl ho⟩))]; exact hk.src hx
  · rename_i z
    rw [still_exec_move (.inr ho) (hs (.inl ⟨z, .inr ho⟩))]; exact hk.src hx
  · rename_i c a b
    have hst := hs (.inr ⟨_, _, _, ho⟩)
    split at hx
    · rename_i hc; rw [still_exec_pick ho (hk.get hc) hst]; exact hk.src hx
    · rename_i hc; rw [still_exec_pick ho (hk.get hc) hst]; exact hk.src hx
    · cases hx
  · cases hx
theorem KnOk.after {kn : Kn} {τ : List Value} {rid i : Nat} {o : Oper} {v : Value} (hk : KnOk kn τ) (hs : Sure P cfg rid i o τ v) : KnOk (kn.after (cfg.hint rid i).isSome o τ.length) (putl τ o.dst v) := by
  unfold Kn.after
  cases hd : o.dst with
  | none => exact hk
  | some d =>
    have h0 := hk.put (some d) v
    simp only []
    cases hn : (cfg.hint rid i).isSome with
    | true => simp only [if_true]; exact h0
    | false =>
      simp only [Bool.false_eq_true, if_false]
      cases hx : kn.mv o.op with
      | none => exact h0
      | some x =>
        simp only []
        split
        · rename_i hlt
          have hv := hk.mv hx (fun h => hs hn h)
          intro e y hy
          rw [List.lookup_cons] at hy
          by_cases he : e = d
          · subst he
            simp at hy
            subst hy
            have hg : (putl τ (some e) v).getD e Go.undef = kv x := by
              simp [putl, List.getD_eq_getElem?_getD, hlt, hv]
            cases x <;> exact hg
          · have h2 : (e == d) = false := by simpa using he
            rw [h2] at hy
            exact h0 e y hy
        · exact h0
theorem KnOk.undef {kn : Kn} {τ : List Value} (hk : KnOk kn τ) (dst : Option Tmp) : KnOk (kn.undef dst) (putl τ dst undef) := by
  cases dst with
  | none => exact hk
  | some d =>
    intro e x hx
    simp only [Kn.undef, List.lookup_cons] at hx
    by_cases he : e = d
    · subst he
      simp at hx
      subst hx
      show (τ.set e Go.undef).getD e Go.undef = Go.undef
      rw [List.getD_eq_getElem?_getD, List.getElem?_set, if_pos rfl]
      split <;> rfl
    · have : (e == d) = false := by simpa using he
      simp only [this] at hx
      have := hk e x hx
      cases x with
      | some b => exact (getD_set_ne he).trans this
      | none => exact (getD_set_ne he).trans this
theorem KnOk.know {kn : Kn} {τ : List Value} (hk : KnOk kn τ) {d : Nat} {b : Bool} (hd : τ.getD d Go.undef = .bool b) : KnOk ((d, some b) :: kn) τ := by
  intro e x hx
  simp only [List.lookup_cons] at hx
  by_cases he : e = d
  · subst he
    simp at hx
    subst hx
    exact hd
  · have : (e == d) = false := by simpa using he
    simp only [this] at hx
    exact hk e x hx
theorem set_same {τ : List Value} {d : Nat} {v : Value} (hd : τ.getD d undef = v) (hv : v ≠ undef) : τ.set d v = τ := by
  have hlt : d < τ.length := by
    rcases Nat.lt_or_ge d τ.length with h | h
    · exact h
    · rw [List.getD_eq_getElem?_getD, List.getElem?_eq_none h] at hd; exact absurd hd.symm hv
  apply List.ext_getElem?
  intro j
  rw [List.getElem?_set]
  split
  · rename_i hj; subst hj
    rw [List.getD_eq_getElem?_getD, List.getElem?_eq_getElem hlt] at hd
    rw [List.getElem?_eq_getElem hlt]
    simpa using hd.symm
  · rfl
theorem yielded_get {ops : Array Oper} {τ : List Value} {j d : Nat} (hd : (ops[j]?).bind (·.dst) = some d) : yielded ops (act τ).tmps j = match τ.getD d undef with | .bool b => some b | _ => none := by
  unfold yielded
  rw [hd]
  simp only [Option.bind_some, act, List.getD_eq_getElem?_getD]
  have : (({ toList := τ } : Array Value)[d]?) = τ[d]? := by simp
  rw [this]
  cases τ[d]? with
  | none => rfl
  | some v => cases v <;> rfl

theorem regw_run {ops : Array Oper} {i : Nat} {r : List Nat} {o : Oper} {τ : List Value} {h : Mem} {KK : List Value → Mem → Prop} (ho : ops[i]? = some o)
    (hw : Region.wanted o (yielded ops (act τ).tmps) = true) (hs : opw P I o τ h (fun v h' => regw P I ops r (putl τ o.dst v) h' KK)) : regw P I ops (i :: r) τ h KK := by
  intro _; simp only [ho, hw, if_true]; exact hs
theorem regw_skp {ops : Array Oper} {i : Nat} {r : List Nat} {o : Oper} {τ : List Value} {h : Mem} {KK : List Value → Mem → Prop} (ho : ops[i]? = some o)
    (hw : Region.wanted o (yielded ops (act τ).tmps) = false) (hs : regw P I ops r (putl τ o.dst undef) h KK) : regw P I ops (i :: r) τ h KK := by
  intro _; simp only [ho, hw]; exact hs

theorem evR_sound {rid : Nat} {ops : Array Oper} {KK : List Value → Mem → Prop} {K : List Value → Kn → Tr} (hK : ∀ τ kn h, KnOk kn τ → holds P f I Q (K τ kn) h → KK τ h) :
    ∀ (l : List Nat) (τ : List Value) (kn : Kn) (h : Mem), KnOk kn τ → holds P f I Q (evR P cfg rid false ops l τ kn [] K) h → regw P I ops l τ h KK := by
  intro l
  induction l with
  | nil => intro τ kn h hk hh; exact hK _ _ _ hk hh
  | cons i r ih =>
    intro τ kn h hk hh
    simp only [evR] at hh
    by_cases hl : Live I h
    case neg => simp only [regw]; exact fun h => absurd h hl
    cases ho : ops[i]? with
    | none => simp only [ho] at hh; simp only [regw, ho]; exact fun _ => ih _ _ _ hk hh
    | some o =>
      simp only [ho, Bool.false_and, Bool.false_eq_true, if_false, pinAll] at hh
      have run : ∀ (τ : List Value) (kn : Kn), KnOk kn τ → holds P f I Q (evOp P cfg rid i o τ fun v => evR P cfg rid false ops r (putl τ o.dst v) (kn.after (cfg.hint rid i).isSome o τ.length) [] K) h →
          opw P I o τ h (fun v h' => regw P I ops r (putl τ o.dst v) h' KK) := fun τ kn hk hh =>
        opw_mono (evOp_sound2 hl hh) fun v h' hv => ih _ _ _ (hk.after hv.2) hv.1
      have skp : ∀ (τ : List Value) (kn : Kn), KnOk kn τ → holds P f I Q (evR P cfg rid false ops r (putl τ o.dst undef) (kn.undef o.dst) [] K) h → regw P I ops r (putl τ o.dst undef) h KK :=
        fun τ kn hk hh => ih _ _ _ (hk.undef o.dst) hh
      cases hg : o.guard with
      | none =>
        simp only [hg] at hh
        exact regw_run ho (by simp [Region.wanted, hg]) (run τ kn hk hh)
      | some jw =>
        obtain ⟨j, want⟩ := jw
        simp only [hg] at hh
        cases hd : (ops[j]?).bind (·.dst) with
        | none => simp only [hd] at hh; exact (hh hl).elim
        | some d =>
          simp only [hd] at hh
          have hy := yielded_get (τ := τ) hd
          cases hlk : kn.lookup d with
          | some x =>
            have hx := hk d x hlk
            cases x with
            | some b =>
              simp only [hlk] at hh
              simp only at hx
              have hwd : Region.wanted o (yielded ops (act τ).tmps) = (b == want) := by
                simp only [Region.wanted, hg, hy, hx]; cases b <;> cases want <;> rfl
              split at hh
              · rename_i hb; exact regw_run ho (hwd.trans hb) (run τ kn hk hh)
              · rename_i hb; exact regw_skp ho (hwd.trans (by simpa using hb)) (skp τ kn hk hh)
            | none =>
              simp only [hlk] at hh
              simp only at hx
              exact regw_skp ho (by simp only [Region.wanted, hg, hy, hx]; cases want <;> rfl) (skp τ kn hk hh)
          | none =>
            simp only [hlk] at hh
            split at hh
            · rename_i b hb
              have hwd : Region.wanted o (yielded ops (act τ).tmps) = (b == want) := by
                simp only [Region.wanted, hg, hy, hb]; cases b <;> cases want <;> rfl
              have hne : Value.bool b ≠ undef := by simp [undef]
              have hs := set_same hb hne
              split at hh
              · rename_i hwt
                subst hwt
                cases b with
                | true => have h1 := (hh hl).1 rfl; simp only [hs] at h1; exact regw_run ho (hwd.trans rfl) (run τ _ (hk.know hb) h1)
                | false => have h1 := (hh hl).2 rfl; simp only [hs] at h1; exact regw_skp ho (hwd.trans rfl) (skp τ _ (hk.know hb) h1)
              · rename_i hwt
                have hwf : want = false := by simpa using hwt
                subst hwf
                cases b with
                | true => have h1 := (hh hl).1 rfl; simp only [hs] at h1; exact regw_skp ho (hwd.trans rfl) (skp τ _ (hk.know hb) h1)
                | false => have h1 := (hh hl).2 rfl; simp only [hs] at h1; exact regw_run ho (hwd.trans rfl) (run τ _ (hk.know hb) h1)
            · exact (hh hl).elim


def resOne (τ : List Value) : ResultVar → Sem Value
  | .tmp t => pure (τ.getD t undef)
  | .cell a t => do loadVar t (← asAddr (τ.getD a undef))
def wrapRes (vs : List Value) : Value := match vs with | [v] => v | vs => .tuple ⟨vs⟩
theorem wrap_eq (vs : List Value) : (if h : (⟨vs⟩ : Array Value).size = 1 then (⟨vs⟩ : Array Value)[0] else .tuple ⟨vs⟩) = wrapRes vs := by
  match vs with
  | [] => rfl
  | [v] => rfl
  | a :: b :: r => simp [wrapRes]
theorem results_eq (fn : Func) (τ : List Value) : results fn ⟨τ⟩ = (do let vs ← fn.results.toList.mapM (resOne τ); pure (wrapRes vs)) := by
  unfold results
  have h2 : (fun x : ResultVar => match x with
    | .tmp t => (pure ((⟨τ⟩ : Array Value).getD t undef) : Sem Value)
    | .cell a t => do loadVar t (← asAddr ((⟨τ⟩ : Array Value).getD a undef))) = resOne τ := by
    funext x
    cases x <;> simp [resOne]
  show (do let vs ← fn.results.mapM (fun x : ResultVar => match x with
    | .tmp t => (pure ((⟨τ⟩ : Array Value).getD t undef) : Sem Value)
    | .cell a t => do loadVar t (← asAddr ((⟨τ⟩ : Array Value).getD a undef))); pure (if h : vs.size = 1 then vs[0] else .tuple vs)) = _
  rw [h2, Array.mapM_eq_mapM_toList]
  simp only [bind_map_left]
  congr 1
  funext vs
  exact congrArg pure (wrap_eq vs)
theorem evRes_sound {τ : List Value} {h : Mem} (hl : Live I h) : ∀ (rs : List ResultVar) (acc : List Value), holds P f I Q (evRes cfg τ rs acc) h →
    rwp P I h (rs.mapM (resOne τ)) (fun vs => Q (wrapRes (acc ++ vs)) h)
  | [], acc, hh => by
    simp only [List.mapM_nil, rwp_pure, List.append_nil]
    exact hh hl
  | .tmp t :: r, acc, hh => by
    simp only [evRes] at hh
    simp only [List.mapM_cons, resOne, rwp_bind, rwp_pure]
    refine rwp_mono _ (evRes_sound hl r _ hh) fun vs hq => ?_
    simpa using hq
  | .cell a t :: r, acc, hh => by
    simp only [evRes] at hh
    split at hh
    · rename_i ad hd
      simp only [List.mapM_cons, resOne, rwp_bind, hd, asAddr, rwp_pure]
      refine rwp_mono _ (hh hl) ?_
      rintro v ⟨l, rfl, hl'⟩
      refine rwp_mono _ (evRes_sound hl r _ hl') fun vs hq => ?_
      simpa using hq
    · exact (hh hl).elim
theorem ret_sound {fn : Func} {todo : List Item} {τ : List Value} {h : Mem} (hfn : f.rd = none ∧ f.ds = []) (ht : todo = [] ∨ ∃ k, todo = .code .ret :: k) (hf : P.funcs[f.fn]? = some fn) (hres : cfg.results = fn.results.toList)
    (hh : holds P f I Q (evRes cfg τ cfg.results []) h) : Wp P f todo τ I h Q := by
  refine Wp.live fun hl => Wp.ret hfn ht hf ?_
  rw [results_eq, rwp_bind]
  have h1 := evRes_sound hl _ _ hh
  rw [hres] at h1
  simpa using h1
theorem settle_sound {τ : List Value} {h : Mem} : ∀ (n : Nat) (k : List Item), Wp P f (settle n k) τ I h Q → Wp P f k τ I h Q := by
  intro n
  induction n with
  | zero => intro k hw; unfold settle at hw; exact hw
  | succ n ih =>
    intro k hw
    unfold settle at hw
    split at hw
    · rename_i he; cases he; exact Wp.seq (ih _ hw)
    · rename_i he; cases he; exact Wp.skip (ih _ hw)
    · exact hw

/-- What is owed of regions that draw (Derived.Test.YtcafalcmfdnojaaDoorSE). -/
def DrawnOk (P : Program) (f : Ctl) (I : Ctx) (Q : Value → Mem → Prop) (cfg : Cfg) : Prop :=
  ∀ (id : Nat) (ops : Array Oper) (l : List Nat) (k : List Item) (τ : List Value) (kn : Kn) (h : Mem) (K : List Value → Kn → Tr), (∀ τ kn h, KnOk kn τ → holds P f I Q (K τ kn) h → Wp P f k τ I h Q) →
    favor cfg id ops l = true → KnOk kn τ → holds P f I Q (evR P cfg id true ops l τ kn [] K) h → Wp P f (.code (.region id ops true) :: k) τ I h Q

theorem ev_sound {fn : Func} (hfn : cfg.stopRet = true ∨ (f.rd = none ∧ f.ds = [])) (hf : P.funcs[f.fn]? = some fn) (hres : cfg.results = fn.results.toList) (hD : DrawnOk P f I Q cfg) :
    ∀ (n : Nat) (todo : List Item) (τ : List Value) (kn : Kn) (h : Mem), KnOk kn τ → holds P f I Q (ev P cfg n todo τ kn) h → Wp P f todo τ I h Q := by
  intro n
  induction n with
  | zero => intro todo τ kn h hk hh; exact Wp.live hh
  | succ n ih =>
    intro todo τ kn h hk hh
    refine Wp.live fun hl => ?_
    simp only [ev] at hh
    split at hh
    · split at hh
      · exact hh hl
      · rename_i hsr; exact ret_sound (hfn.resolve_left (by rw [hsr]; simp)) (.inl rfl) hf hres hh
    · split at hh
      · exact hh hl
      · rename_i hsr; exact ret_sound (hfn.resolve_left (by rw [hsr]; simp)) (.inr ⟨_, rfl⟩) hf hres hh
    · exact hh hl
    · exact Wp.skip (ih _ _ _ _ hk hh)
    · exact Wp.label (hh hl)
    · split at hh
      · exact Wp.seq (hh hl)
      · exact Wp.seq (ih _ _ _ _ hk hh)
    · exact Wp.block (ih _ _ _ _ hk hh)
    · exact Wp.scope (ih _ _ _ _ hk hh)
    · exact Wp.loop (hh hl)
    · split at hh
      · rename_i he; exact Wp.exit he (ih _ _ _ _ hk hh)
      · exact (hh hl).elim
    · split at hh
      · rename_i he; exact Wp.goto he (settle_sound _ _ (hh hl))
      · exact (hh hl).elim
    · split at hh
      · rename_i hl
        split at hl
        · exact Wp.cond (b := true) (hk _ _ hl) (fun _ => ih _ _ _ _ hk hh) (fun h => by cases h)
        · cases hl
      · rename_i hl
        split at hl
        · exact Wp.cond (b := false) (hk _ _ hl) (fun h => by cases h) (fun _ => ih _ _ _ _ hk hh)
        · cases hl
      · split at hh
        · rename_i b hb
          exact Wp.cond hb (fun hb' => ih _ _ _ _ hk ((hh hl).1 hb')) (fun hb' => ih _ _ _ _ hk ((hh hl).2 hb'))
        · exact (hh hl).elim
    · split at hh
      · rename_i hd
        subst hd
        split at hh
        · split at hh
          · rename_i hfav; exact hD _ _ _ _ _ _ _ _ (fun τ kn h hk hh => ih _ _ _ _ hk hh) hfav hk hh
          · exact (hh hl).elim
        · exact (hh hl).elim
      · rename_i id ops draw k hd
        obtain rfl : draw = false := by simpa using hd
        exact Wp.region (evR_sound (fun τ kn h hk hh => ih _ _ _ _ hk hh) _ _ _ _ hk hh)
    · exact hh hl
    · exact Wp.inBlock (ih _ _ _ _ hk hh)
    · exact Wp.inScope (ih _ _ _ _ hk hh)
    · exact Wp.inLoop (hh hl)
    · exact (hh hl).elim
end
end Go.Proofs.YtcafalcmfdnojaaDoorS
