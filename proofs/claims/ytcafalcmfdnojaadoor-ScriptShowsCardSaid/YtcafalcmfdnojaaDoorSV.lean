/- Structs held against each other. -/
import Derived.Test.YtcafalcmfdnojaaDoorSU
set_option linter.unusedVariables false
namespace Go.Proofs.YtcafalcmfdnojaaDoorS
section
variable {P : Program} {I : Ctx} {f : Ctl} {Q : Value → Mem → Prop} {h : Mem}
def partV (P : Program) (t : TypeId) (cs : Array Value) (off : Nat) : Option Value :=
  if aggB P t then (if aggY P t then (sizeB P t).map fun n => .agg (cs.extract off (off + n)) else none) else cs[off]?
theorem still_part {t : TypeId} {cs : Array Value} {off : Nat} {v : Value} (hp : partV P t cs off = some v) : still P (part t cs off) = some v := by
  unfold partV at hp
  unfold part
  split at hp
  · split at hp
    · rename_i h1 h2
      rw [still_bind _ _ (isAgg_yes h2)]
      cases hs : sizeB P t with
      | none => rw [hs] at hp; cases hp
      | some n =>
        rw [hs] at hp
        injection hp with hp
        subst hp
        simp only [if_true]
        rw [still_bind _ _ (still_size hs)]
        rfl
    · cases hp
  · rename_i h1
    rw [still_bind _ _ (isAgg_no (by simpa using h1))]
    simp only [Bool.false_eq_true, if_false, hp]
    rfl
def eqF (P : Program) (eq : TypeId → Value → Value → Option (List Bool)) (xs ys : Array Value) : List Field → Option (List Bool)
  | [] => some []
  | f :: fs => if f.name ≠ "_" then
      match partV P f.type xs f.offset, partV P f.type ys f.offset with
      | some a, some b => match eq f.type a b, eqF P eq xs ys fs with
        | some l, some m => some (l ++ m)
        | _, _ => none
      | _, _ => none
    else eqF P eq xs ys fs
/-- What a comparison compares. -/
def eqL (P : Program) : Nat → TypeId → Value → Value → Option (List Bool)
  | 0, _, _, _ => none
  | d + 1, t, x, y =>
    match P.underlying t, x, y with
    | some .bool, .bool a, .bool b => some [a == b]
    | some (.int _), .int k a, .int k' b => if k = k' then some [a == b] else none
    | some .string, .string a, .string b => some [a == b]
    | some (.struct fs), .agg xs, .agg ys => if P.stoodInHeld t then none else eqF P (eqL P d) xs ys fs.toList
    | _, _, _ => none
theorem still_equal (e : Nat) : ∀ (d : Nat) (t : TypeId) (x y : Value) (bs : List Bool), eqL P d t x y = some bs → still P (Op.equalIn (d + e) t x y) = some (bs.all id) := by
  intro d
  induction d with
  | zero => intro t x y bs hb; cases hb
  | succ d ih =>
    intro t x y bs hb
    unfold eqL at hb
    rw [show d + 1 + e = (d + e) + 1 by omega]
    unfold Op.equalIn
    cases hu : P.underlying t with
    | none => rw [hu] at hb; cases hb
    | some u =>
      rw [hu] at hb
      rw [still_bind _ _ (still_underlying hu)]
      split at hb
      · rename_i h1; injection h1 with h1; subst h1
        injection hb with hb; subst hb
        simp; rfl
      · rename_i h1; injection h1 with h1; subst h1
        split at hb
        · rename_i hk; subst hk
          injection hb with hb; subst hb
          simp; rfl
        · cases hb
      · rename_i h1; injection h1 with h1; subst h1
        injection hb with hb; subst hb
        simp; rfl
      · rename_i h1; injection h1 with h1; subst h1
        split at hb
        · cases hb
        rename_i fs xs ys hs
        have key : ∀ (l : List Field) (bs : List Bool), eqF P (eqL P d) xs ys l = some bs → still P (forIn l ((none, ()) : Option Bool × Unit) fun f __s =>
                if f.name ≠ "_" then do
                  let __do_lift ← part f.type xs f.offset
                  let __do_lift_1 ← part f.type ys f.offset
                  let __do_lift ← Op.equalIn (d + e) f.type __do_lift __do_lift_1
                  if (!__do_lift) = true then pure (ForInStep.done (some false, ()))
                    else pure (ForInStep.yield (none, ()))
                else pure (ForInStep.yield (none, ()))) = some (if bs.all id then (none, ()) else (some false, ())) := by
          intro l
          induction l with
          | nil => intro bs hb; injection hb with hb; subst hb; rfl
          | cons f l ihl =>
            intro bs hb
            unfold eqF at hb
            rw [List.forIn_cons]
            by_cases hn : f.name ≠ "_"
            · rw [if_pos hn] at hb
              simp only [if_pos hn]
              cases h1 : partV P f.type xs f.offset with
              | none => rw [h1] at hb; cases hb
              | some a =>
                cases h2 : partV P f.type ys f.offset with
                | none => rw [h1, h2] at hb; cases hb
                | some b =>
                  rw [h1, h2] at hb
                  simp only at hb
                  cases h3 : eqL P d f.type a b with
                  | none => rw [h3] at hb; cases hb
                  | some l1 =>
                    cases h4 : eqF P (eqL P d) xs ys l with
                    | none => rw [h3, h4] at hb; cases hb
                    | some l2 =>
                      rw [h3, h4] at hb
                      injection hb with hb
                      subst hb
                      have step : still P (do
                          let __do_lift ← part f.type xs f.offset
                          let __do_lift_1 ← part f.type ys f.offset
                          let __do_lift ← Op.equalIn (d + e) f.type __do_lift __do_lift_1
                          if (!__do_lift) = true then pure (ForInStep.done ((some false, ()) : Option Bool × Unit)) else pure (ForInStep.yield (none, ()))) = some (if l1.all id then ForInStep.yield (none, ()) else ForInStep.done (some false, ())) := by
                        rw [still_bind _ _ (still_part h1), still_bind _ _ (still_part h2), still_bind _ _ (ih _ _ _ _ h3)]
                        cases l1.all id <;> rfl
                      rw [still_bind _ _ step, List.all_append]
                      cases h5 : l1.all id with
                      | false => rfl
                      | true => rw [Bool.true_and]; exact ihl l2 h4
            · rw [if_neg hn] at hb
              simp only [if_neg hn]
              exact ihl bs hb
        simp only []
        rw [still_bind (a := P) _ _ rfl]
        simp only [hs, Bool.false_eq_true, if_false]
        rw [← Array.forIn_toList, still_bind _ _ (key _ _ hb)]
        cases bs.all id <;> rfl
      · cases hb
theorem still_eqGuard {op : BinOp} {t : TypeId} {x y : Operand} {a b : Array Value} (hg : P.eqGuardType P.depth t = false) : still P (eqGuard op t x y (.agg a) (.agg b)) = some () := by
  have hm : still P (do
      let __do_lift ← program
      let __do_lift_1 ← program
      if (!__do_lift.eqGuardType __do_lift_1.depth t) = true then pure ()
      else do
        let __do_lift ← Op.eqGuardIn Op.maxDepth t (Value.agg a) (Value.agg b)
        if __do_lift = true then unsupported (Unsupported.noEntry "binop/eql: two nil values of an interface type with methods, in a part of a struct or an array")
        else pure ()) = some () := by
    rw [still_bind (a := P) _ _ rfl, still_bind (a := P) _ _ rfl, hg]
    rfl
  cases op <;> first | rfl | exact hm
theorem rw_eqA {op : BinOp} (hop : op = .eql ∨ op = .neq) {t : TypeId} {x y : Operand} {a b : Array Value} {bs : List Bool} (hg : P.eqGuardType P.depth t = false) (he : eqL P 6 t (.agg a) (.agg b) = some bs) {R : Next → Prop}
    (hr : R (.value (.bool (if op matches .eql then bs.all id else !bs.all id)))) : rwp P I h (eqN op t x y (.agg a) (.agg b)) R := by
  have h1 : still P (Op.equal t (.agg a) (.agg b)) = some (bs.all id) := still_equal 9994 6 t _ _ _ he
  unfold eqN
  refine rwp_vN (rwp_still (still_eqGuard hg) ?_)
  rcases hop with rfl | rfl
  · exact rwp_still h1 hr
  · exact rwp_still h1 hr
theorem h_neqA {t : TypeId} {x y : Operand} {a b : Array Value} {k : (Nat → Leaf) → Tr} (bs : List Bool) (hg : P.eqGuardType P.depth t = false) (he : eqL P 6 t (.agg a) (.agg b) = some bs)
    (hk : holds P f I Q (k fun _ => { b := !bs.all id }) h) : holds P f I Q (.rdn (eqN .neq t x y (.agg a) (.agg b)) (.one (.sc .bool)) k) h := h_rdn _ (rw_eqA (.inr rfl) hg he rfl) hk
theorem h_eqlA {t : TypeId} {x y : Operand} {a b : Array Value} {k : (Nat → Leaf) → Tr} (bs : List Bool) (hg : P.eqGuardType P.depth t = false) (he : eqL P 6 t (.agg a) (.agg b) = some bs)
    (hk : holds P f I Q (k fun _ => { b := bs.all id }) h) : holds P f I Q (.rdn (eqN .eql t x y (.agg a) (.agg b)) (.one (.sc .bool)) k) h := h_rdn _ (rw_eqA (.inl rfl) hg he rfl) hk
end
end Go.Proofs.YtcafalcmfdnojaaDoorS
