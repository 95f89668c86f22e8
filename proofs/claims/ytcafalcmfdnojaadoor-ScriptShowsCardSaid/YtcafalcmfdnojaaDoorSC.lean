/- A piece of code as a tree of what it does to memory: reckoned by a function, and sound. -/
import Derived.Test.YtcafalcmfdnojaaDoorSB
set_option linter.unusedVariables false
namespace Go.Proofs.YtcafalcmfdnojaaDoorS

/-- What a value of a scalar kind is made of. -/
structure Leaf where
  i : Int := 0
  b : Bool := false
  s : ByteArray := ByteArray.empty
  A : Option Addr := none
  a : Addr := ⟨0, 0, none⟩
  n : Nat := 0
  c : Nat := 0
  v : Value := .nilFunc
inductive Sc where
  | int (k : IntKind) | bool | str | sl | blk | padr | ptr | row (n : Nat) | v
def Sc.val : Sc → Leaf → Value
  | .int k, l => .int k l.i
  | .bool, l => .bool l.b
  | .str, l => .string l.s
  | .sl, l => .slice l.A l.n l.c
  | .blk, l => .pointer (some ⟨l.n, 0, none⟩)
  | .padr, l => .pointer (some l.a)
  | .ptr, l => .pointer l.A
  | .row n, l => .slice (some ⟨l.n, 0, none⟩) n n
  | .v, l => l.v
inductive Sh1 where
  | sc (s : Sc) | agg (l : List Sc)
def scs : List Sc → (Nat → Leaf) → Nat → List Value
  | [], _, _ => []
  | s :: r, l, j => s.val (l j) :: scs r l (j + 1)
def Sh1.val : Sh1 → (Nat → Leaf) → Nat → Value
  | .sc s, l, j => s.val (l j)
  | .agg ss, l, j => .agg ⟨scs ss l j⟩
def Sh1.len : Sh1 → Nat
  | .sc _ => 1
  | .agg ss => ss.length
inductive Sh where
  | one (s : Sh1) | tup (l : List Sh1)
def tups : List Sh1 → (Nat → Leaf) → Nat → List Value
  | [], _, _ => []
  | s :: r, l, j => s.val l j :: tups r l (j + s.len)
def Sh.val : Sh → (Nat → Leaf) → Value
  | .one s, l => s.val l 0
  | .tup ss, l => .tuple ⟨tups ss l 0⟩
abbrev shBlk : Sh := .one (.sc .blk)
abbrev shSl : Sh := .one (.sc .sl)
abbrev shPadr : Sh := .one (.sc .padr)

inductive Tr where
  | done (v : Value)
  | stop (todo : List Item) (τ : List Value)
  | ite (b : Bool) (x y : Tr)
  | rd (s : Sem Value) (sh : Sh) (k : (Nat → Leaf) → Tr)
  | sem (s : Sem Value) (sh : Sh) (k : (Nat → Leaf) → Tr)
  | unit (s : Sem Unit) (k : Tr)
  | nx (s : Sem Next) (sh : Sh) (k : (Nat → Leaf) → Tr)
  | rdn (s : Sem Next) (sh : Sh) (k : (Nat → Leaf) → Tr)
  | call (f : FuncId) (args : List Value) (sh : Sh) (k : (Nat → Leaf) → Tr)
  | pcall (f : FuncId) (args : List Value) (sh : Sh) (k : (Nat → Leaf) → Tr)
  | yld (l : Nat) (args : List Value) (k : Bool → Tr)
  | pin (s : Sem Next) (v : Value) (k : Tr)
  | stuck

/-- A call that neither needs nor leaves anything of one's own: it comes to v whatever is held. -/
def PureFn (P : Program) (I : Ctx) (g : FuncId) (args : List Value) (v : Value) : Prop :=
  callable P g ∧ P.inits.idxOf? g = none ∧ ∀ h, Live I h → Fn P g ⟨args⟩ (plus I h) [] (fun u h1 => u = v ∧ h1 = [])
/-- What is owed of a tree. -/
def holds (P : Program) (f : Ctl) (I : Ctx) (Q : Value → Mem → Prop) : Tr → Mem → Prop
  | .done v, h => Live I h → Q v h
  | .stop todo τ, h => Live I h → Wp P f todo τ I h Q
  | .ite b x y, h => Live I h → (b = true → holds P f I Q x h) ∧ (b = false → holds P f I Q y h)
  | .rd s sh k, h => Live I h → rwp P I h s (fun v => ∃ l, v = sh.val l ∧ holds P f I Q (k l) h)
  | .sem s sh k, h => Live I h → swp P I s h (fun v h' => ∃ l, v = sh.val l ∧ holds P f I Q (k l) h')
  | .unit s k, h => Live I h → swp P I s h (fun _ h' => holds P f I Q k h')
  | .nx s sh k, h => Live I h → swp P I s h (fun nx h' => ∃ l, nx = .value (sh.val l) ∧ holds P f I Q (k l) h')
  | .rdn s sh k, h => Live I h → rwp P I h s (fun nx => ∃ l, nx = .value (sh.val l) ∧ holds P f I Q (k l) h)
  | .call g args sh k, h => Live I h → callable P g ∧ ∃ hc hr, h.Perm (hc ++ hr) ∧ Fn P g ⟨args⟩ (plus I hr) hc (fun v h1 => ∃ l, v = sh.val l ∧ holds P f I Q (k l) (h1 ++ hr))
  | .pcall g args sh k, h => Live I h → ∃ l, PureFn P I g args (sh.val l) ∧ holds P f I Q (k l) h
  | .yld l args k, h => Live I h → ∃ r : Loop, Has I h l (.loop r) ∧ args.length = r.params.size ∧ ∃ hc hr, h.Perm (hc ++ hr) ∧
      RoundFn P l r.fn ((r.params.zip ⟨args⟩).foldl (fun tmps (t, a) => tmps.setIfInBounds t a) r.tmps) r.assign r.body (plus I hr) hc (fun v h1 => ∃ b, v = .bool b ∧ holds P f I Q (k b) (h1 ++ hr))
  | .pin s v k, h => Live I h → rwp P I h s (fun nx => nx = .value v) ∧ holds P f I Q k h
  | .stuck, h => Live I h → False

structure Cfg where
  sh : TypeId → Sh
  hint : Nat → Nat → Option (Bool × Sh)
  ord : Nat → Option (List Nat)
  un : Nat → Nat → Nat → Bool
  pre : Nat → List (List Nat)
  fsh : FuncId → Sh
  results : List ResultVar
  /-- Regions ahead of which the tree is cut. -/
  cut : Nat → Bool := fun _ => false
  /-- Calls that come to the same wherever they stand. -/
  pcall : Nat → Nat → Bool := fun _ _ => false
  /-- The tree ends ahead of the frame's end. -/
  stopRet : Bool := false

def cutHere (cfg : Cfg) : Code → Bool
  | .region id _ _ => cfg.cut id
  | _ => false
def evPure (P : Program) (o : Oper) (τ : List Value) (kk : Value → Tr) : Tr :=
  match still P (execOp (evl τ) o) with
  | some (.value v) => kk v
  | _ => .stuck
def evOp (P : Program) (cfg : Cfg) (rid i : Nat) (o : Oper) (τ : List Value) (kk : Value → Tr) : Tr :=
  match cfg.hint rid i with
  | some (true, sh) => .rdn (execOp (evl τ) o) sh (fun l => kk (sh.val l))
  | some (false, sh) => .nx (execOp (evl τ) o) sh (fun l => kk (sh.val l))
  | none =>
    match o.op with
    | .load t a => .rd (Instr.loadAt t (evl τ a)) (cfg.sh t) (fun l => kk ((cfg.sh t).val l))
    | .store t a x => .unit (Instr.storeAt t (evl τ a) (evl τ x)) (kk undef)
    | .alloc t => .sem (Instr.alloc t true (.tuple #[])) shBlk (fun l => kk (shBlk.val l))
    | .box t x => .sem (Instr.box t (evl τ x)) shBlk (fun l => kk (shBlk.val l))
    | .buildSlice t n ps => .sem (Instr.buildSlice t n (ps.map fun (i, x) => (i, evl τ x))) (.one (.sc (.row n))) (fun l => kk ((Sh.one (.sc (.row n))).val l))
    | .makeSlice t l c => .sem (Instr.makeSlice t (evl τ l) (evl τ c)) shSl (fun l => kk (shSl.val l))
    | .indexAddr t x ix => .rd (Instr.indexAt t (evl τ x) (evl τ ix)) shPadr (fun l => kk (shPadr.val l))
    | .index t x ix => .rd (Instr.index t (evl τ x) (evl τ ix)) (cfg.sh o.type) (fun l => kk ((cfg.sh o.type).val l))
    | .slice t x lo hi mx => .rd (Instr.sliceAt t (evl τ x) (lo.map (evl τ)) (hi.map (evl τ)) (mx.map (evl τ))) (cfg.sh o.type) (fun l => kk ((cfg.sh o.type).val l))
    | .call c =>
      match c.callee with
      | .value f =>
        match evl τ f with
        | .func (.func g) first captured =>
          match cfg.pcall rid i with
          | false => .call g (first.toList ++ (c.args.toList.map (evl τ)) ++ captured.toList) (cfg.fsh g) (fun l => kk ((cfg.fsh g).val l))
          | true => .pcall g (first.toList ++ (c.args.toList.map (evl τ)) ++ captured.toList) (cfg.fsh g) (fun l => kk ((cfg.fsh g).val l))
        | .func (.yield l) first captured =>
          match cfg.pcall rid i with
          | false => .yld l (first.toList ++ (c.args.toList.map (evl τ))) (fun b => kk (.bool b))
          | true => .stuck
        | _ => .stuck
      | .builtin b =>
        match b with
        | .len | .cap | .min | .max => evPure P o τ kk
        | _ => .nx (execOp (evl τ) o) (cfg.sh o.type) (fun l => kk ((cfg.sh o.type).val l))
      | .invoke .. => .stuck
    | _ => evPure P o τ kk

abbrev Kn := List (Nat × Option Bool)
def Kn.drop (kn : Kn) (d : Option Tmp) : Kn := match d with | some d => kn.filter (fun p => p.1 != d) | none => kn
def Kn.undef (kn : Kn) (d : Option Tmp) : Kn := match d with | some d => (d, none) :: kn | none => kn
/-- What is known of what is moved. -/
def Kn.src (kn : Kn) : Operand → Option (Option Bool)
  | .tmp t => kn.lookup t
  | .const (.bool b) => some (some b)
  | _ => none
def Kn.mv (kn : Kn) : Op → Option (Option Bool)
  | .move x | .assign x => kn.src x
  | .pick (.tmp c) a b => (match kn.lookup c with | some (some true) => kn.src a | some (some false) => kn.src b | _ => none)
  | _ => none
def Kn.after (kn : Kn) (hinted : Bool) (o : Oper) (len : Nat) : Kn :=
  match o.dst with
  | none => kn
  | some d =>
    match (if hinted then none else kn.mv o.op) with
    | some x => if d < len then (d, x) :: kn.drop (some d) else kn.drop (some d)
    | none => kn.drop (some d)
abbrev Pins := List (Nat × Sem Next × Value)
def pinAll : Pins → Tr → Tr
  | [], t => t
  | p :: r, t => .pin p.2.1 p.2.2 (pinAll r t)
/-- The classes: 0 asks the program alone, 1 reads, 2 makes a block, 3 whatever else. -/
def cls : Op → Nat
  | .load .. | .indexAddr .. | .index .. | .slice .. => 1
  | .alloc _ | .box .. | .buildSlice .. | .makeSlice .. => 2
  | .store .. | .insert .. | .ready _ | .waits _ | .makeMap .. | .makeChan .. | .lookup .. | .mapUpdate .. | .mapEntry .. | .entryStore .. | .range .. | .next .. | .entry _ | .typeAssert .. | .go _ | .defer _ | .panic _ | .send .. | .recv .. | .select .. => 3
  | .call { callee := .builtin .len, .. } | .call { callee := .builtin .cap, .. } | .call { callee := .builtin .min, .. } | .call { callee := .builtin .max, .. } => 0
  | .call _ => 3
  | _ => 0

def isFn : Op → Bool
  | .call { callee := .value _, .. } => true
  | _ => false
def cl (cfg : Cfg) (rid i : Nat) (o : Oper) : Nat := match cfg.hint rid i with | some (true, _) => 1 | some (false, _) => 3 | none => if cfg.pcall rid i && isFn o.op then 0 else cls o.op

def evR (P : Program) (cfg : Cfg) (rid : Nat) (dr : Bool) (ops : Array Oper) : List Nat → List Value → Kn → Pins → (List Value → Kn → Tr) → Tr
  | [], τ, kn, _, K => K τ kn
  | i :: r, τ, kn, pn, K =>
    match ops[i]? with
    | none => evR P cfg rid dr ops r τ kn pn K
    | some o =>
      let run := fun (τ : List Value) (kn : Kn) => evOp P cfg rid i o τ (fun v =>
        pinAll (if dr && cl cfg rid i o == 3 then pn.filter (fun p => cfg.un rid p.1 i) else [])
          (evR P cfg rid dr ops r (putl τ o.dst v) (kn.after (cfg.hint rid i).isSome o τ.length) (if dr && cl cfg rid i o == 1 then (i, execOp (evl τ) o, v) :: pn else pn) K))
      let skp := fun (τ : List Value) (kn : Kn) => evR P cfg rid dr ops r (putl τ o.dst undef) (kn.undef o.dst) pn K
      match o.guard with
      | none => run τ kn
      | some (j, want) =>
        match (ops[j]?).bind (·.dst) with
        | none => .stuck
        | some d =>
          match kn.lookup d with
          | some (some b) => if b == want then run τ kn else skp τ kn
          | some none => skp τ kn
          | none =>
            match τ.getD d undef with
            | .bool b =>
              if want then .ite b (run (τ.set d (.bool true)) ((d, some true) :: kn)) (skp (τ.set d (.bool false)) ((d, some false) :: kn))
              else .ite b (skp (τ.set d (.bool true)) ((d, some true) :: kn)) (run (τ.set d (.bool false)) ((d, some false) :: kn))
            | _ => .stuck

def evRes (cfg : Cfg) (τ : List Value) : List ResultVar → List Value → Tr
  | [], acc => .done (match acc with | [v] => v | vs => .tuple ⟨vs⟩)
  | .tmp t :: r, acc => evRes cfg τ r (acc ++ [τ.getD t undef])
  | .cell a t :: r, acc =>
    match τ.getD a undef with
    | .pointer (some ad) => .rd (loadVar t ad) (cfg.sh t) (fun l => evRes cfg τ r (acc ++ [(cfg.sh t).val l]))
    | _ => .stuck

/-- What an operation waits for. -/
def dp (ops : Array Oper) (i : Nat) : List Nat := ((ops[i]?).map (fun o => (o.after.toList.filter (fun e => Region.binds .any e)).map (·.on))).getD []
def pairsOk (cfg : Cfg) (rid : Nat) (ops : Array Oper) (pre : List (List Nat)) (un : Nat → Nat → Bool) : List Nat → Bool
  | [] => true
  | x :: r => (r.all fun y =>
      x != y && !(dp ops x).contains y && ((pre.getD y []).contains x ||
        (match ops[x]?, ops[y]? with
         | some ox, some oy => ox.apart ops oy && (match cl cfg rid x ox, cl cfg rid y oy with
           | 3, 3 | 3, 1 | 2, 3 | 2, 1 => false
           | 1, 3 => un x y
           | _, _ => true)
         | _, _ => false))) && pairsOk cfg rid ops pre un r
/-- In this order the region may be walked: any other order comes to the same. -/
def favor (cfg : Cfg) (rid : Nat) (ops : Array Oper) (l : List Nat) : Bool :=
  let pre := cfg.pre rid
  let un := cfg.un rid
  (l.length == ops.size && (List.range ops.size).all (fun i => l.contains i) && l.all (fun i => decide (i < ops.size))) &&
  ((List.range ops.size).all fun i => ((pre.getD i []).all fun x => (dp ops i).contains x || (dp ops i).any fun y => (pre.getD y []).contains x)) &&
  ((List.range ops.size).all fun i => (dp ops i).all fun x => decide (x < ops.size) && x != i) && ops.toList.all (fun o => match o.op with | .select .. => false | _ => true) &&
  pairsOk cfg rid ops pre un l

/-- Through what does nothing. -/
def settle : Nat → List Item → List Item
  | n + 1, .code (.seq a b) :: k => settle n (.code a :: .code b :: k)
  | n + 1, .code .skip :: k => settle n k
  | _, k => k

def ev (P : Program) (cfg : Cfg) : Nat → List Item → List Value → Kn → Tr
  | 0, todo, τ, _ => .stop todo τ
  | n + 1, todo, τ, kn =>
    match todo with
    | [] => match cfg.stopRet with | true => .stop [] τ | false => evRes cfg τ cfg.results []
    | .code .ret :: k => match cfg.stopRet with | true => .stop (.code .ret :: k) τ | false => evRes cfg τ cfg.results []
    | .code (.rangeFunc g ps as bd) :: k => .stop (.code (.rangeFunc g ps as bd) :: k) τ
    | .code .skip :: k => ev P cfg n k τ kn
    | .code (.label _) :: k => .stop k τ
    | .code (.seq a b) :: k => if cutHere cfg a then .stop (.code a :: .code b :: k) τ else ev P cfg n (.code a :: .code b :: k) τ kn
    | .code (.block id c) :: k => ev P cfg n (.code c :: .inBlock id :: k) τ kn
    | .code (.scope c) :: k => ev P cfg n (.code c :: .inScope c :: k) τ kn
    | .code (.loop c) :: k => .stop (.code c :: .inLoop c :: k) τ
    | .code (.exit id) :: k =>
      match exitTo id k with
      | some k' => ev P cfg n k' τ kn
      | none => .stuck
    | .code (.goto l) :: k =>
      match gotoIn l k with
      | some k' => .stop (settle 50 k') τ
      | none => .stuck
    | .code (.cond c x y) :: k =>
      match (match c with | .tmp t => kn.lookup t | _ => none) with
      | some (some true) => ev P cfg n (.code x :: k) τ kn
      | some (some false) => ev P cfg n (.code y :: k) τ kn
      | _ =>
        match evl τ c with
        | .bool b => .ite b (ev P cfg n (.code x :: k) τ kn) (ev P cfg n (.code y :: k) τ kn)
        | _ => .stuck
    | .code (.region id ops draw) :: k =>
      if draw then
        match cfg.ord id with
        | some l => if favor cfg id ops l then evR P cfg id true ops l τ kn [] (fun τ kn => ev P cfg n k τ kn) else .stuck
        | none => .stuck
      else evR P cfg id false ops (List.range ops.size) τ kn [] (fun τ kn => ev P cfg n k τ kn)
    | .beginRound :: k => .stop (.beginRound :: k) τ
    | .inBlock _ :: k => ev P cfg n k τ kn
    | .inScope _ :: k => ev P cfg n k τ kn
    | .inLoop c :: k => .stop (.code c :: .inLoop c :: k) τ
    | _ => .stuck
end Go.Proofs.YtcafalcmfdnojaaDoorS
