/- All regions' trees are sound; a function's contract out of its tree. -/
import Derived.Test.YtcafalcmfdnojaaDoorSG
set_option linter.unusedVariables false
namespace Go.Proofs.YtcafalcmfdnojaaDoorS
section
variable {P : Program} {I : Ctx} {cfg : Cfg} {f : Ctl} {Q : Value → Mem → Prop}

theorem pairs_of {rid : Nat} {ops : Array Oper} {pre : List (List Nat)} {un : Nat → Nat → Bool} : ∀ {l : List Nat}, pairsOk cfg rid ops pre un l = true → Pairs un (cl cfg rid) pre ops l
  | [], _ => trivial
  | x :: r, h => by
    simp only [pairsOk, Bool.and_eq_true, List.all_eq_true] at h
    refine ⟨fun y hy => ?_, pairs_of h.2⟩
    obtain ⟨⟨h1, h2⟩, h3⟩ := h.1 y hy
    refine ⟨by simpa using h1, by simpa using h2, ?_⟩
    rw [Bool.or_eq_true] at h3
    rcases h3 with h3 | h3
    · exact .inl (by simpa using h3)
    · right
      split at h3
      · rename_i ox oy hx hy
        rw [Bool.and_eq_true] at h3
        refine ⟨ox, oy, hx, hy, h3.1, ?_⟩
        have h4 := h3.2
        unfold allowed
        exact h4
      · cases h3

theorem facts_of {rid : Nat} {ops : Array Oper} {l : List Nat} (h : favor cfg rid ops l = true) : Facts (cfg.un rid) (cl cfg rid) (cfg.pre rid) ops ∧ Pairs (cfg.un rid) (cl cfg rid) (cfg.pre rid) ops l ∧
    l.length = ops.size ∧ (∀ i, i < ops.size → i ∈ l) ∧ (∀ i ∈ l, i < ops.size) := by
  unfold favor at h
  simp only [Bool.and_eq_true, List.all_eq_true, decide_eq_true_eq, Bool.or_eq_true, beq_iff_eq, List.mem_range, List.contains_iff_mem, List.any_eq_true, bne_iff_ne] at h
  obtain ⟨⟨⟨⟨⟨⟨h1, h2⟩, h3⟩, h4⟩, h5⟩, h6⟩, h7⟩ := h
  refine ⟨⟨fun i o => cl_le _ _ _, fun i o ho cs b he => ?_, h4, h5⟩, pairs_of h7, h1, h2, h3⟩
  have := h6 o (Array.mem_toList_iff.2 (Array.mem_of_getElem? ho))
  rw [he] at this
  cases this

theorem rwp_ex {α : Type} {h : Mem} (s : Sem α) : ∀ {R : α → Prop}, rwp P I h s R → ∃ a, rwp P I h s (fun x => x = a) ∧ R a := by
  induction s with
  | pure a => intro R hs; exact ⟨a, rfl, hs⟩
  | load m a k ih => intro R hs; obtain ⟨v, hc, hs⟩ := hs; obtain ⟨x, h1, h2⟩ := ih v hs; exact ⟨x, ⟨v, hc, h1⟩, h2⟩
  | shape r k ih => intro R hs; obtain ⟨cs, e, fz, hb, hs⟩ := hs; obtain ⟨x, h1, h2⟩ := ih _ hs; exact ⟨x, ⟨cs, e, fz, hb, h1⟩, h2⟩
  | frozen a k ih => intro R hs; obtain ⟨cs, e, fz, hb, hs⟩ := hs; obtain ⟨x, h1, h2⟩ := ih _ hs; exact ⟨x, ⟨cs, e, fz, hb, h1⟩, h2⟩
  | getObj r k ih => intro R hs; obtain ⟨o, hb, hn, hs⟩ := hs; obtain ⟨x, h1, h2⟩ := ih _ hs; exact ⟨x, ⟨o, hb, hn, h1⟩, h2⟩
  | program k ih => intro R hs; obtain ⟨x, h1, h2⟩ := ih _ hs; exact ⟨x, h1, h2⟩
  | mark m k ih => intro R hs; obtain ⟨x, h1, h2⟩ := ih hs; exact ⟨x, h1, h2⟩
  | _ => intro R hs; exact hs.elim
theorem rwp_v {h : Mem} (s : Sem Value) (K : Next → Prop) : rwp P I h (do pure (.value (← s))) K = rwp P I h s (fun x => K (.value x)) := by
  rw [rwp_bind]; rfl

theorem pinAll_out {t : Tr} {h : Mem} (hl : Live I h) : ∀ {ps : Pins}, holds P f I Q (pinAll ps t) h → (∀ p ∈ ps, rwp P I h p.2.1 (fun nx => nx = .value p.2.2)) ∧ holds P f I Q t h
  | [], hh => ⟨fun p hp => by simp at hp, hh⟩
  | p :: ps, hh => by
    obtain ⟨h1, h2⟩ := hh hl
    obtain ⟨h3, h4⟩ := pinAll_out hl h2
    refine ⟨fun q hq => ?_, h4⟩
    rcases List.mem_cons.1 hq with rfl | hq
    · exact h1
    · exact h3 q hq

theorem op_cl0 {rid i : Nat} {o : Oper} {τ : List Value} {kk : Value → Tr} {h : Mem} (hl : Live I h) (hc : cl cfg rid i o = 0) (hh : holds P f I Q (evOp P cfg rid i o τ kk) h) :
    ∃ v, Quiet P I (execOp (evl τ) o) v ∧ Sure P cfg rid i o τ v ∧ holds P f I Q (kk v) h := by
  have fin : (∃ v, still P (execOp (evl τ) o) = some (.value v) ∧ holds P f I Q (kk v) h) → ∃ v, Quiet P I (execOp (evl τ) o) v ∧ Sure P cfg rid i o τ v ∧ holds P f I Q (kk v) h :=
    fun ⟨v, hv, hk⟩ => ⟨v, Quiet.of_still hv, fun _ _ => hv, hk⟩
  unfold cl at hc
  unfold evOp at hh
  split at hc
  · cases hc
  · cases hc
  · rename_i hn
    simp only [hn] at hh
    split at hc
    · rename_i hpc
      rw [Bool.and_eq_true] at hpc
      obtain ⟨dst, op, type, pos, after, guard⟩ := o
      obtain ⟨hpc, hfn⟩ := hpc
      simp only at hfn
      unfold isFn at hfn
      split at hfn
      · rename_i ff args ats
        simp only at hh
        split at hh
        · rename_i g first captured hfv
          rw [hpc] at hh
          obtain ⟨l, hp, hk⟩ := hh hl
          refine ⟨_, ?_, fun _ hmv => ?_, hk⟩
          · have he : first ++ Array.map (evl τ) args ++ captured = ⟨first.toList ++ (args.toList.map (evl τ)) ++ captured.toList⟩ := by
              apply Array.ext'; simp
            have h2 : execOp (evl τ) { dst := dst, op := .call { callee := .value ff, args := args, argTypes := ats }, type := type, pos := pos, after := after, guard := guard } = callFunc g ⟨first.toList ++ (args.toList.map (evl τ)) ++ captured.toList⟩ := by
              unfold execOp
              simp only [resolve, hfv, Deferred.ofValue, pure_bind, invoke, he]
            rw [h2]
            exact Quiet.of_call hp
          · rcases hmv with ⟨x, hx | hx⟩ | ⟨c, x, y, hx⟩ <;> cases hx
        · rw [hpc] at hh; exact (hh hl).elim
        · exact (hh hl).elim
      · cases hfn
    refine fin ?_
    unfold cls at hc
    split at hc <;> rename_i hop <;> first | cases hc | skip
    all_goals simp only [hop] at hh
    all_goals first | exact evPure_sound hl hh | (split at hh <;> first | exact evPure_sound hl hh | simp_all)
theorem rd_out {s : Sem Value} {sh : Sh} {kk : Value → Tr} {h : Mem} (hl : Live I h) (hh : holds P f I Q (.rd s sh fun l => kk (sh.val l)) h) : ∃ v, rwp P I h (do pure (.value (← s)) : Sem Next) (fun nx => nx = .value v) ∧ holds P f I Q (kk v) h := by
  obtain ⟨v, h1, l, rfl, h2⟩ := rwp_ex _ (show rwp P I h s (fun v => ∃ l, v = sh.val l ∧ holds P f I Q (kk (sh.val l)) h) from hh hl)
  refine ⟨sh.val l, ?_, h2⟩
  rw [rwp_v]
  exact rwp_mono _ h1 fun x hx => by rw [hx]
theorem op_cl1 {rid i : Nat} {o : Oper} {τ : List Value} {kk : Value → Tr} {h : Mem} (hl : Live I h) (hc : cl cfg rid i o = 1) (hh : holds P f I Q (evOp P cfg rid i o τ kk) h) :
    ∃ v, rwp P I h (execOp (evl τ) o) (fun nx => nx = .value v) ∧ holds P f I Q (kk v) h := by
  unfold cl at hc
  unfold evOp at hh
  split at hc
  · rename_i sh hn
    simp only [hn] at hh
    obtain ⟨nx, h1, l, rfl, h2⟩ := rwp_ex _ (show rwp P I h (execOp (evl τ) o) (fun nx => ∃ l, nx = .value (sh.val l) ∧ holds P f I Q (kk (sh.val l)) h) from hh hl)
    exact ⟨_, h1, h2⟩
  · cases hc
  · rename_i hn
    simp only [hn] at hh
    replace hc : cls o.op = 1 := by
      split at hc
      · cases hc
      · exact hc
    unfold cls at hc
    obtain ⟨dst, op, type, pos, after, guard⟩ := o
    split at hc <;> rename_i hop <;> first | cases hc | skip
    all_goals simp only at hop
    all_goals subst hop
    all_goals exact rd_out hl hh

theorem al_still {α : Type} {a : α} (X : Sem α) (F : α → Sem Next) : still P X = some a → al P (X >>= F) = al P (F a) := by
  show _ → al P (Sem.bind X F) = al P (F a)
  induction X with
  | pure b => intro hs; simp only [still, Option.some.injEq] at hs; subst hs; rfl
  | program k ih => intro hs; simp only [Sem.bind, al]; exact ih _ hs
  | _ => intro hs; simp [still] at hs
theorem still_underlying {t : TypeId} {u : TypeDesc} (h : P.underlying t = some u) : still P (underlying t) = some u := by
  show still P (Sem.bind program _) = _
  simp only [program, Sem.bind, still]
  rw [h]; rfl
theorem still_typeInfo {t : TypeId} {u : TypeInfo} (h : P.info? t = some u) : still P (typeInfo t) = some u := by
  show still P (Sem.bind program _) = _
  simp only [program, Sem.bind, still]
  rw [h]; rfl
theorem still_bind {α β : Type} {a : α} (X : Sem α) (F : α → Sem β) : still P X = some a → still P (X >>= F) = still P (F a) := by
  show _ → still P (Sem.bind X F) = still P (F a)
  induction X with
  | pure b => intro hs; simp only [still, Option.some.injEq] at hs; subst hs; rfl
  | program k ih => intro hs; simp only [Sem.bind, still]; exact ih _ hs
  | _ => intro hs; simp [still] at hs
theorem swp_still' {α β : Type} {a : α} (s : Sem α) {F : α → Sem β} {h : Mem} {R : β → Mem → Prop} : still P s = some a → swp P I (s >>= F) h R → swp P I (F a) h R := by
  show _ → swp P I (Sem.bind s F) h R → _
  induction s with
  | pure b => intro hs; simp only [still, Option.some.injEq] at hs; subst hs; exact id
  | program k ih => intro hs; simp only [Sem.bind, still, swp] at *; exact ih _ hs
  | _ => intro hs; simp [still] at hs
theorem swp_noRoom {α : Type} {y : Nat} {F : Unit → Sem α} {h : Mem} {R : α → Mem → Prop} (hs : swp P I (askRoom y >>= F) h R) : swp P I (F ()) h R := by
  unfold askRoom at hs
  split at hs
  · exact hs
  · exact hs
theorem al_noRoom {y : Nat} {F : Unit → Sem Next} : al P (askRoom y >>= F) = al P (F ()) := by
  unfold askRoom
  split
  · rfl
  · rfl
theorem swp_panic {α : Type} {m : String} {h : Mem} {R : α → Mem → Prop} (hs : swp P I (runtimePanic (.error m)) h R) : False := hs
theorem swp_asInt {α : Type} {v : Value} {F : Int → Sem α} {h : Mem} {R : α → Mem → Prop} (hs : swp P I (asInt v >>= F) h R) : ∃ k x, v = .int k x ∧ swp P I (F x) h R := by
  cases v with
  | int k x => exact ⟨k, x, rfl, swp_still' (a := x) _ rfl hs⟩
  | pointer a => cases a <;> exact False.elim hs
  | _ => exact False.elim hs
theorem mk_al {t : TypeId} {L C : Value} {h : Mem} {R : Value → Mem → Prop} (hs : swp P I (Instr.makeSlice t L C) h R) :
    ∃ ob F, AlOk P (do pure (.value (← Instr.makeSlice t L C)) : Sem Next) ob F ∧ ∀ g, g ∉ keys h → I g = none → R (F g) ((g, ob) :: h) := by
  unfold Instr.makeSlice at hs ⊢
  cases hu : P.underlying t with
  | none => simp only [underlying, swp_bind, swp_program, hu, swp_stuck] at hs
  | some u =>
    replace hs := swp_still' _ (still_underlying hu) hs
    cases u with
    | slice e =>
      obtain ⟨ik, x, hL, h1⟩ := swp_asInt hs
      obtain ⟨ik2, y, hC, h2⟩ := swp_asInt h1
      clear hs h1
      subst hL
      subst hC
      cases hi : P.info? e with
      | none => simp only [typeInfo, swp_bind, swp_program, hi, swp_stuck] at h2
      | some ti =>
        have h3 := swp_still' _ (still_typeInfo hi) h2
        clear h2
        have hsz : still P (sizeOf e) = some ti.size := by
          unfold sizeOf
          rw [still_bind _ _ (still_typeInfo hi)]
          rfl
        dsimp only at h3
        split at h3
        · exfalso
          split at h3
          · exact False.elim h3
          · split at h3
            · exact False.elim h3
            · cases hf : (Question.extern "makeslice.lenOrCap" 2).forced with
              | true => exact False.elim (h3.1 hf)
              | false => exact False.elim (h3.2 hf 0)
        · rename_i hbad
          have h4 := swp_still' _ hsz (swp_noRoom h3)
          clear h3
          have fin : ∀ zc : Array Value, al P (do pure (.value (← Instr.makeSlice t (.int ik x) (.int ik2 y))) : Sem Next) = some (.cells ((Array.range ((IntKind.i64.wrap y).toNat * ti.size)).map (zc[· % zc.size]!)) e, fun g => pure (.value (.slice (some ⟨g, 0, none⟩) (IntKind.i64.wrap x).toNat (IntKind.i64.wrap y).toNat))) →
              swp P I (newRow e ((Array.range ((IntKind.i64.wrap y).toNat * ti.size)).map (zc[· % zc.size]!)) >>= fun a => pure (Value.slice (some a) (IntKind.i64.wrap x).toNat (IntKind.i64.wrap y).toNat)) h R →
              ∃ ob F, AlOk P (do pure (.value (← Instr.makeSlice t (.int ik x) (.int ik2 y))) : Sem Next) ob F ∧ ∀ g, g ∉ keys h → I g = none → R (F g) ((g, ob) :: h) :=
            fun zc hal hw => ⟨_, fun g => .slice (some ⟨g, 0, none⟩) (IntKind.i64.wrap x).toNat (IntKind.i64.wrap y).toNat, ⟨_, hal, fun g => rfl⟩, fun g hg hI => hw g hg hI⟩
          have pre : ∀ r, al P (do
                let v ← (do
                  let n ← sizeOf e
                  if (IntKind.i64.wrap y).toNat * n = 0 then do
                      let zero ← pure #[]
                      let a ← newRow e (Array.map (fun x => zero[x % zero.size]!) (Array.range ((IntKind.i64.wrap y).toNat * n)))
                      pure (Value.slice (some a) (IntKind.i64.wrap x).toNat (IntKind.i64.wrap y).toNat)
                    else do
                      let w ← zeroValue e
                      let zero ← pure w.cells
                      let a ← newRow e (Array.map (fun x => zero[x % zero.size]!) (Array.range ((IntKind.i64.wrap y).toNat * n)))
                      pure (Value.slice (some a) (IntKind.i64.wrap x).toNat (IntKind.i64.wrap y).toNat) : Sem Value)
                pure (Next.value v) : Sem Next) = r → al P (do pure (.value (← Instr.makeSlice t (.int ik x) (.int ik2 y))) : Sem Next) = r := by
            rintro r rfl
            unfold Instr.makeSlice
            simp only [bind_assoc]
            rw [al_still _ _ (still_underlying hu)]
            simp only [bind_assoc]
            rw [al_still (a := x) _ _ rfl, al_still (a := y) _ _ rfl, al_still _ _ (still_typeInfo hi)]
            rw [if_neg hbad, bind_assoc, al_noRoom]
            simp only [bind_assoc]
          by_cases h0 : (IntKind.i64.wrap y).toNat * ti.size = 0
          · rw [if_pos h0] at h4
            refine fin #[] (pre _ ?_) h4
            rw [bind_assoc, al_still _ _ hsz, if_pos h0]
            rfl
          · rw [if_neg h0] at h4
            cases hz : ti.zero with
            | none => simp only [zeroValue, typeInfo, swp_bind, swp_program, hi, swp_pure, hz] at h4; exact False.elim h4
            | some z =>
              have hzv : still P (zeroValue e) = some z := by
                unfold zeroValue
                rw [still_bind _ _ (still_typeInfo hi), hz]
                rfl
              have h5 := swp_still' _ hzv h4
              refine fin z.cells (pre _ ?_) h5
              rw [bind_assoc, al_still _ _ hsz, if_neg h0, bind_assoc, al_still _ _ hzv]
              rfl
    | _ => exact False.elim hs
theorem op_cl2 {rid i : Nat} {o : Oper} {τ : List Value} {kk : Value → Tr} {h : Mem} (hl : Live I h) (hc : cl cfg rid i o = 2) (hh : holds P f I Q (evOp P cfg rid i o τ kk) h) :
    ∃ ob F, AlOk P (execOp (evl τ) o) ob F ∧ ∀ g, g ∉ keys h → I g = none → holds P f I Q (kk (F g)) ((g, ob) :: h) := by
  unfold cl at hc
  unfold evOp at hh
  split at hc
  · cases hc
  · cases hc
  · rename_i hn
    simp only [hn] at hh
    replace hc : cls o.op = 2 := by
      split at hc
      · cases hc
      · exact hc
    unfold cls at hc
    obtain ⟨dst, op, type, pos, after, guard⟩ := o
    split at hc <;> rename_i hop <;> first | cases hc | skip
    all_goals simp only at hop
    all_goals subst hop
    · rename_i t
      have hh := hh hl
      simp only [ Instr.alloc, zeroValue, typeInfo, newVar, newRow, swp_bind, swp_program] at hh
      cases hi : P.info? t with
      | none => simp only [hi, swp_stuck] at hh
      | some ti =>
        simp only [hi, swp_pure] at hh
        cases hz : ti.zero with
        | none => simp only [hz] at hh; exact hh.elim
        | some z =>
          simp only [hz, swp_pure, swp_newObj] at hh
          refine ⟨.cells z.cells t, fun g => .pointer (some ⟨g, 0, none⟩), ⟨fun g => pure (.value (.pointer (some ⟨g, 0, none⟩))), ?_, fun g => rfl⟩, fun g hg hI => ?_⟩
          · simp only [execOp, Instr.alloc, zeroValue, typeInfo]
            show al P ((Sem.program .pure >>= fun p => _) : Sem Next) = _
            simp only [al, bind, Sem.bind, hi, pure, hz, newVar, newRow, newObj]
          · obtain ⟨l, h1, h2⟩ := hh g hg hI
            rw [← h1] at h2
            exact h2
    · rename_i t x
      refine ⟨.cells (evl τ x).cells t, fun g => .pointer (some ⟨g, 0, none⟩), ⟨_, rfl, fun g => rfl⟩, fun g hg hI => ?_⟩
      obtain ⟨l, h1, h2⟩ := (show ∀ g, g ∉ keys h → I g = none → ∃ l, Value.pointer (some ⟨g, 0, none⟩) = shBlk.val l ∧ holds P f I Q (kk (shBlk.val l)) ((g, .cells (evl τ x).cells t) :: h) from hh hl) g hg hI
      rw [← h1] at h2
      exact h2
    · rename_i t n ps
      have hh := hh hl
      simp only [ Instr.buildSlice, underlying, sizeOf, zeroValue, typeInfo, newRow, swp_bind, swp_program] at hh
      cases hu : P.underlying t with
      | none => simp only [hu, swp_stuck] at hh
      | some u =>
        simp only [hu, swp_pure] at hh
        cases u with
        | slice e =>
          simp only [swp_bind, swp_program] at hh
          cases hi : P.info? e with
          | none => simp only [hi, swp_stuck] at hh
          | some ti =>
            simp only [hi, swp_pure] at hh
            split at hh
            · exact hh.elim
            · rename_i hbig
              by_cases h0 : n * ti.size = 0
              · cases hf : Instr.fill (fun i => some (i * ti.size, ti.size)) ((Array.range (n * ti.size)).map ((#[] : Array Value)[· % ((#[] : Array Value)).size]!)) (ps.map fun x => (x.1, evl τ x.2)).toList with
                | none => simp only [if_pos h0, pure_bind, hf, swp_stuck] at hh
                | some cells =>
                  simp only [if_pos h0, pure_bind, bind_assoc, hf, swp_bind, swp_newObj, swp_pure] at hh
                  refine ⟨.cells cells e, fun g => .slice (some ⟨g, 0, none⟩) n n, ⟨fun g => pure (.value (.slice (some ⟨g, 0, none⟩) n n)), ?_, fun g => rfl⟩, fun g hg hI => ?_⟩
                  · simp only [execOp, Instr.buildSlice, sizeOf, zeroValue, bind_assoc]
                    rw [al_still _ _ (still_underlying hu)]
                    simp only [bind_assoc]
                    rw [al_still _ _ (still_typeInfo hi)]
                    simp only [pure_bind, if_neg hbig, if_pos h0]
                    simp only [hf]; rfl
                  · obtain ⟨l, h1, h2⟩ := hh g hg hI
                    rw [← h1] at h2
                    exact h2
              · cases hzv : ti.zero with
                | none => simp only [if_neg h0, swp_bind, swp_program, hi, swp_pure, hzv] at hh; exact hh.elim
                | some z =>
                  simp only [if_neg h0, swp_bind, swp_program, hi, swp_pure, hzv] at hh
                  cases hf : Instr.fill (fun i => some (i * ti.size, ti.size)) ((Array.range (n * ti.size)).map (z.cells[· % (z.cells).size]!)) (ps.map fun x => (x.1, evl τ x.2)).toList with
                  | none => simp only [ pure_bind, hf, swp_stuck] at hh
                  | some cells =>
                    simp only [ pure_bind, bind_assoc, hf, swp_bind, swp_newObj, swp_pure] at hh
                    refine ⟨.cells cells e, fun g => .slice (some ⟨g, 0, none⟩) n n, ⟨fun g => pure (.value (.slice (some ⟨g, 0, none⟩) n n)), ?_, fun g => rfl⟩, fun g hg hI => ?_⟩
                    · simp only [execOp, Instr.buildSlice, sizeOf, zeroValue, bind_assoc]
                      rw [al_still _ _ (still_underlying hu)]
                      simp only [bind_assoc]
                      rw [al_still _ _ (still_typeInfo hi)]
                      simp only [pure_bind, if_neg hbig, if_neg h0, bind_assoc]
                      rw [al_still _ _ (still_typeInfo hi)]; simp only [hzv, pure_bind, hf]; rfl
                    · obtain ⟨l, h1, h2⟩ := hh g hg hI
                      rw [← h1] at h2
                      exact h2
        | _ => exact hh.elim
    · rename_i t lx cx
      obtain ⟨ob, F, ha, hk⟩ := mk_al (hh hl)
      refine ⟨ob, F, ha, fun g hg hI => ?_⟩
      obtain ⟨l, h1, h2⟩ := hk g hg hI
      have h2 : holds P f I Q (kk (shSl.val l)) ((g, ob) :: h) := h2
      rw [← h1] at h2
      exact h2
theorem evR_drawn {rid : Nat} {ops : Array Oper} {k : List Item} {K : List Value → Kn → Tr} (hK : ∀ τ kn h, KnOk kn τ → holds P f I Q (K τ kn) h → Wp P f k τ I h Q) :
    ∀ (l : List Nat) (τ : List Value) (kn : Kn) (h : Mem) (pn : Pins), (∀ i ∈ l, i < ops.size) → Live I h → KnOk kn τ → holds P f I Q (evR P cfg rid true ops l τ kn pn K) h →
      regL P I (cfg.un rid) (cl cfg rid) ops l τ h pn (fun τ h _ => Wp P f k τ I h Q) := by
  intro l
  induction l with
  | nil => intro τ kn h pn _ hl hk hh; exact hK _ _ _ hk hh
  | cons i r ih =>
    intro τ kn h pn hlt hl hk hh
    have hi := hlt i List.mem_cons_self
    have ho : ops[i]? = some ops[i] := Array.getElem?_eq_getElem hi
    generalize ops[i] = o at ho
    have hlt' : ∀ j ∈ r, j < ops.size := fun j hj => hlt j (List.mem_cons_of_mem _ hj)
    simp only [evR, ho, Bool.true_and] at hh
    simp only [regL, ho]
    have run : ∀ (τ : List Value) (kn : Kn), KnOk kn τ → wtd ops o τ = true → holds P f I Q (evOp P cfg rid i o τ fun v =>
          pinAll (if (cl cfg rid i o == 3) = true then List.filter (fun p => cfg.un rid p.fst i) pn else [])
            (evR P cfg rid true ops r (putl τ o.dst v) (kn.after (cfg.hint rid i).isSome o τ.length) (if (cl cfg rid i o == 1) = true then (i, execOp (evl τ) o, v) :: pn else pn) K)) h →
        stO P I (cfg.un rid) ops i (cl cfg rid i o) o τ h pn (fun τ' h' pn' => regL P I (cfg.un rid) (cl cfg rid) ops r τ' h' pn' (fun τ h _ => Wp P f k τ I h Q)) := by
      intro τ kn hk hw hh
      unfold stO
      rw [if_pos hw]
      have hle := cl_le (cfg := cfg) rid i o
      have sure : cl cfg rid i o ≠ 0 → ∀ v, Sure P cfg rid i o τ v := by
        intro hne v h1 h2
        exfalso
        apply hne
        have h3 : cfg.hint rid i = none := by simpa using h1
        unfold cl
        rw [h3]
        rcases h2 with ⟨x, h2 | h2⟩ | ⟨c, x, y, h2⟩ <;> rw [h2] <;> simp [isFn, cls]
      rcases (show cl cfg rid i o = 0 ∨ cl cfg rid i o = 1 ∨ cl cfg rid i o = 2 ∨ cl cfg rid i o = 3 by omega) with hc | hc | hc | hc
      · obtain ⟨v, hv, hsu, hh⟩ := op_cl0 hl hc hh
        simp only [hc]
        refine ⟨v, hv, ih _ _ _ _ hlt' hl (hk.after (cfg := cfg) (rid := rid) (i := i) (P := P) hsu) ?_⟩
        simpa [hc, pinAll] using hh
      · obtain ⟨v, hv, hh⟩ := op_cl1 hl hc hh
        simp only [hc]
        refine ⟨v, hv, ih _ _ _ _ hlt' hl (hk.after (cfg := cfg) (rid := rid) (i := i) (P := P) (sure (by omega) v)) ?_⟩
        simpa [hc, pinAll] using hh
      · obtain ⟨ob, F, ha, hh⟩ := op_cl2 hl hc hh
        simp only [hc]
        refine ⟨ob, F, ha, fun g hg hI hl' => ih _ _ _ _ hlt' hl' (hk.after (cfg := cfg) (rid := rid) (i := i) (P := P) (sure (by omega) (F g))) ?_⟩
        have := hh g hg hI
        simpa [hc, pinAll] using this
      · have hh := evOp_sound hl hh
        simp only [hc]
        refine opw_mono hh fun v h' hh hl' => ?_
        obtain ⟨h1, h2⟩ := pinAll_out hl' hh
        refine ⟨fun p hp hu => h1 p ?_, ih _ _ _ _ hlt' hl' (hk.after (cfg := cfg) (rid := rid) (i := i) (P := P) (sure (by omega) v)) ?_⟩
        · simp only [hc, beq_self_eq_true, if_true, List.mem_filter]; exact ⟨hp, hu⟩
        · simpa [hc] using h2
    have skp : ∀ (τ : List Value) (kn : Kn), KnOk kn τ → wtd ops o τ = false → holds P f I Q (evR P cfg rid true ops r (putl τ o.dst undef) (kn.undef o.dst) pn K) h →
        stO P I (cfg.un rid) ops i (cl cfg rid i o) o τ h pn (fun τ' h' pn' => regL P I (cfg.un rid) (cl cfg rid) ops r τ' h' pn' (fun τ h _ => Wp P f k τ I h Q)) := by
      intro τ kn hk hw hh
      unfold stO
      rw [if_neg (by simp [hw])]
      exact ih _ _ _ _ hlt' hl (hk.undef o.dst) hh
    cases hg : o.guard with
    | none =>
      simp only [hg] at hh
      exact run τ kn hk (by simp [wtd, Region.wanted, hg]) hh
    | some jw =>
      obtain ⟨j, want⟩ := jw
      simp only [hg] at hh
      cases hd : (ops[j]?).bind (·.dst) with
      | none => simp only [hd] at hh; exact (hh hl).elim
      | some d =>
        simp only [hd] at hh
        have hy := yielded_get (τ := τ) hd
        cases hlk : kn.lookup d with
        | some x =>
          have hx := hk d x hlk
          cases x with
          | some b =>
            simp only [hlk] at hh
            simp only at hx
            have hwd : wtd ops o τ = (b == want) := by
              simp only [wtd, Region.wanted, hg, hy, hx]; cases b <;> cases want <;> rfl
            split at hh
            · rename_i hb; exact run τ kn hk (hwd.trans hb) hh
            · rename_i hb; exact skp τ kn hk (hwd.trans (by simpa using hb)) hh
          | none =>
            simp only [hlk] at hh
            simp only at hx
            exact skp τ kn hk (by simp only [wtd, Region.wanted, hg, hy, hx]; cases want <;> rfl) hh
        | none =>
          simp only [hlk] at hh
          split at hh
          · rename_i b hb
            have hwd : wtd ops o τ = (b == want) := by
              simp only [wtd, Region.wanted, hg, hy, hb]; cases b <;> cases want <;> rfl
            have hne : Value.bool b ≠ undef := by simp [undef]
            have hs := set_same hb hne
            split at hh
            · rename_i hwt
              subst hwt
              cases b with
              | true => have h1 := (hh hl).1 rfl; simp only [hs] at h1; exact run τ _ (hk.know hb) (hwd.trans rfl) h1
              | false => have h1 := (hh hl).2 rfl; simp only [hs] at h1; exact skp τ _ (hk.know hb) (hwd.trans rfl) h1
            · rename_i hwt
              have hwf : want = false := by simpa using hwt
              subst hwf
              cases b with
              | true => have h1 := (hh hl).1 rfl; simp only [hs] at h1; exact skp τ _ (hk.know hb) (hwd.trans rfl) h1
              | false => have h1 := (hh hl).2 rfl; simp only [hs] at h1; exact run τ _ (hk.know hb) (hwd.trans rfl) h1
          · exact (hh hl).elim

theorem drawn_ok (hm : P.follows .mixedOrders = true) : DrawnOk P f I Q cfg := by
  intro id ops l k τ kn h K hK hfav hk hh
  refine Wp.live fun hl => ?_
  obtain ⟨hF, hP, hlen, hall, hlt⟩ := facts_of hfav
  have hr := evR_drawn (rid := id) hK l τ kn h [] hlt hl hk hh
  intro w0 K0 w hi b cs hb hkd hrd
  have hw : Wp P f (.inRegion ops (Region.linearise .any ops (w.tape w.drawn (.order b.fn id))) :: k) τ I h Q := by
    unfold Region.linearise
    refine lin_go hF _ _ _ l τ h [] (by simp) (fun i hi => ?_) hlt (fun i hi hni => absurd (hall i hi) hni) hP (by omega) hl hr
    have : i < (Array.replicate ops.size false).size := by simpa using hi
    simp [Array.getD, hi, hall i hi]
  obtain ⟨v, h', w', hq, hi', hs⟩ := hw w0 K0 _ (hi.draw (w.drawn + 1)) b cs hb hkd hrd
  refine ⟨v, h', w', hq, hi', Ends.head stepR_region_draw ?_⟩
  simpa only [Region.schedule, hm, Bool.true_or, if_true] using hs

/-- What the tree owes is all that is owed. -/
theorem of_tree' {fn : Func} {todo : List Item} {τ : List Value} {h : Mem} {t : Tr} (hfn : cfg.stopRet = true ∨ (f.rd = none ∧ f.ds = [])) (n : Nat) (ht : ev P cfg n todo τ [] = t) (hf : P.funcs[f.fn]? = some fn) (hres : cfg.results = fn.results.toList)
    (hm : P.follows .mixedOrders = true) (hh : holds P f I Q t h) : Wp P f todo τ I h Q := by
  subst ht
  exact ev_sound hfn hf hres (drawn_ok hm) n todo τ [] h (KnOk.nil τ) hh
theorem of_tree {g : FuncId} {fn : Func} {todo : List Item} {τ : List Value} {h : Mem} {t : Tr} (n : Nat) (ht : ev P cfg n todo τ [] = t) (hf : P.funcs[g]? = some fn) (hres : cfg.results = fn.results.toList)
    (hm : P.follows .mixedOrders = true) (hh : holds P { fn := g } I Q t h) : Wp P { fn := g } todo τ I h Q := of_tree' (.inr ⟨rfl, rfl⟩) n ht hf hres hm hh
end
end Go.Proofs.YtcafalcmfdnojaaDoorS
