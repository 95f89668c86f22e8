import Derived.Laws.Sem
import Derived.Test.YtadanegddceleaaGreatqaa
set_option linter.unusedSimpArgs false
set_option linter.unusedVariables false
set_option maxRecDepth 20000
namespace Go.Proofs.YtadanegddceleaaGreatS
structure jT where
 i:Int:=0
 b:Bool:=false
 s:ByteArray:=ByteArray.empty
 A:Option Addr:=none
 a:Addr:=⟨0,0,none⟩
 n:Nat:=0
 c:Nat:=0
 M:Option Nat:=none
 v:Value:= .nilFunc
inductive Sc where
 |int (k:IntKind)|bool|str|sl|blk|padr|ptr|mp|row (n:Nat)|v
def Sc.val:Sc→jT→Value
 | .int k,l=> .int k l.i
 | .bool,l=> .bool l.b
 | .str,l=> .string l.s
 | .sl,l=> .slice l.A l.n l.c
 | .blk,l=> .pointer (some ⟨l.n,0,none⟩)
 | .padr,l=> .pointer (some l.a)
 | .ptr,l=> .pointer l.A
 | .mp,l=> .map l.M
 | .row n,l=> .slice (some ⟨l.n,0,none⟩) n n
 | .v,l=>l.v
inductive Sh1 where
 |sc (s:Sc)|agg (l:List Sc)
def scs:List Sc→(Nat→jT)→Nat→List Value
 |[],_,_=>[]
 |s::r,l,j=>s.val (l j)::scs r l (j+1)
def Sh1.val:Sh1→(Nat→jT)→Nat→Value
 | .sc s,l,j=>s.val (l j)
 | .agg ss,l,j=> .agg ⟨scs ss l j⟩
def Sh1.len:Sh1→Nat
 | .sc _=>1
 | .agg ss=>ss.length
inductive Sh where
 |one (s:Sh1)|tup (l:List Sh1)
def Th:List Sh1→(Nat→jT)→Nat→List Value
 |[],_,_=>[]
 |s::r,l,j=>s.val l j::Th r l (j+s.len)
def Sh.val:Sh→(Nat→jT)→Value
 | .one s,l=>s.val l 0
 | .tup ss,l=> .tuple ⟨Th ss l 0⟩
abbrev DB:Sh:= .one (.sc .blk)
abbrev LG:Sh:= .one (.sc .sl)
abbrev Ay:Sh:= .one (.sc .padr)
inductive Tr where
 |done (v:Value)
 |stop (todo:List Item) (τ:List Value)
 |stopU (todo:List Item) (τ:(Nat→Value)→List Value)
 |ite (b:Bool) (x y:Tr)
 |rd (s:Sem Value) (sh:Sh) (k:(Nat→jT)→Tr)
 |sem (s:Sem Value) (sh:Sh) (k:(Nat→jT)→Tr)
 |unit (s:Sem Unit) (k:Tr)
 |nx (s:Sem Next) (sh:Sh) (k:(Nat→jT)→Tr)
 |gen (s:Sem Next) (sh:Sh) (k:(Nat→jT)→Tr)
 |rdn (s:Sem Next) (sh:Sh) (k:(Nat→jT)→Tr)
 |call (f:FuncId) (args:List Value) (sh:Sh) (k:(Nat→jT)→Tr)
 |pcall (f:FuncId) (args:List Value) (sh:Sh) (k:(Nat→jT)→Tr)
 |yld (l:Nat) (args:List Value) (k:Bool→Tr)
 |pin (s:Sem Next) (v:Value) (k:Tr)
 |stuck
def PH(P:Program)(I:Ctx)(g:FuncId)(args:List Value)(v:Value):Prop:=
 af P g∧P.inits.idxOf? g=none∧ ∀h,dJ I h→Fn P g ⟨args⟩ (plus I h) [] (fun u h1=>u=v∧h1=[])
def holds(P:Program)(f:Ctl)(I:Ctx)(Q:Value→Mem→Prop):Tr→Mem→Prop
 | .done v,h=>dJ I h→Q v h
 | .stop todo τ,h=>dJ I h→Wp P f todo τ I h Q
 | .stopU todo τ,h=>dJ I h→ ∀u,Wp P f todo (τ u) I h Q
 | .ite b x y,h=>dJ I h→(b=true→holds P f I Q x h)∧(b=false→holds P f I Q y h)
 | .rd s sh k,h=>dJ I h→rwp P I h s (fun v=> ∃l,v=sh.val l∧holds P f I Q (k l) h)
 | .sem s sh k,h=>dJ I h→swp P I s h (fun v h'=> ∃l,v=sh.val l∧holds P f I Q (k l) h')
 | .unit s k,h=>dJ I h→swp P I s h (fun _ h'=>holds P f I Q k h')
 | .nx s sh k,h=>dJ I h→swp P I s h (fun nx h'=> ∃l,nx= .value (sh.val l)∧holds P f I Q (k l) h')
 | .gen s sh k,h=>dJ I h→swp P I s h (fun nx h'=>nxw P I nx h' (fun v h2=> ∃l,v=sh.val l∧holds P f I Q (k l) h2))
 | .rdn s sh k,h=>dJ I h→rwp P I h s (fun nx=> ∃l,nx= .value (sh.val l)∧holds P f I Q (k l) h)
 | .call g args sh k,h=>dJ I h→af P g∧ ∃hc hr,h.Perm (hc++hr)∧Fn P g ⟨args⟩ (plus I hr) hc (fun v h1=> ∃l,v=sh.val l∧holds P f I Q (k l) (h1++hr))
 | .pcall g args sh k,h=>dJ I h→ ∃l,PH P I g args (sh.val l)∧holds P f I Q (k l) h
 | .yld l args k,h=>dJ I h→ ∃r:Loop,Has I h l (.loop r)∧args.length=r.params.size∧ ∃hc hr,h.Perm (hc++hr)∧
   bU P l r.fn ((r.params.zip ⟨args⟩).foldl (fun tmps (t,a)=>tmps.setIfInBounds t a) r.tmps) r.assign r.body (plus I hr) hc (fun v h1=> ∃b,v= .bool b∧holds P f I Q (k b) (h1++hr))
 | .pin s v k,h=>dJ I h→rwp P I h s (fun nx=>nx= .value v)∧holds P f I Q k h
 | .stuck,h=>dJ I h→False
structure Cfg where
 sh:TypeId→Sh
 hint:Nat→Nat→Option (Bool×Sh)
 ord:Nat→Option (List Nat)
 un:Nat→Nat→Nat→Bool
 pre:Nat→List (List Nat)
 fsh:FuncId→Sh
 results:List ResultVar
 cut:Nat→Bool:=fun _=>false
 pcall:Nat→Nat→Bool:=fun _ _=>false
 gen:Nat→Nat→Bool:=fun _ _=>false
 stopRet:Bool:=false
def Qo(cfg:Cfg):Code→Bool
 | .region id _ _=>cfg.cut id
 |_=>false
def G3(P:Program)(o:Oper)(τ:List Value)(kk:Value→Tr):Tr:=
 match bq P (execOp (evl τ) o)with
 |some (.value v)=>kk v
 |_=> .stuck
def JA(P:Program)(cfg:Cfg)(rid i:Nat)(o:Oper)(τ:List Value)(kk:Value→Tr):Tr:=
 match cfg.hint rid i with
 |some (true,sh)=> .rdn (execOp (evl τ) o) sh (fun l=>kk (sh.val l))
 |some (false,sh)=>match cfg.gen rid i with|true=> .gen (execOp (evl τ) o) sh (fun l=>kk (sh.val l))|false=> .nx (execOp (evl τ) o) sh (fun l=>kk (sh.val l))
 |none=>
  match o.op with
  | .load t a=> .rd (Instr.loadAt t (evl τ a)) (cfg.sh t) (fun l=>kk ((cfg.sh t).val l))
  | .store t a x=> .unit (Instr.storeAt t (evl τ a) (evl τ x)) (kk undef)
  | .alloc t=> .sem (Instr.alloc t true (.tuple #[])) DB (fun l=>kk (DB.val l))
  | .box t x=> .sem (Instr.box t (evl τ x)) DB (fun l=>kk (DB.val l))
  | .buildSlice t n ps=> .sem (Instr.buildSlice t n (ps.map fun(i,x)=>(i,evl τ x))) (.one (.sc (.row n))) (fun l=>kk ((Sh.one (.sc (.row n))).val l))
  | .makeSlice t l c=> .sem (Instr.makeSlice t (evl τ l) (evl τ c)) LG (fun l=>kk (LG.val l))
  | .indexAddr t x ix=> .rd (Instr.indexAt t (evl τ x) (evl τ ix)) Ay (fun l=>kk (Ay.val l))
  | .index t x ix=> .rd (Instr.index t (evl τ x) (evl τ ix)) (cfg.sh o.type) (fun l=>kk ((cfg.sh o.type).val l))
  | .slice t x lo hi mx=> .rd (Instr.sliceAt t (evl τ x) (lo.map (evl τ)) (hi.map (evl τ)) (mx.map (evl τ))) (cfg.sh o.type) (fun l=>kk ((cfg.sh o.type).val l))
  | .call c=>
   match c.callee with
   | .value f=>
    match evl τ f with
    | .func (.func g) first captured=>
     match cfg.pcall rid i with
     |false=> .call g (first.toList++(c.args.toList.map (evl τ))++captured.toList) (cfg.fsh g) (fun l=>kk ((cfg.fsh g).val l))
     |true=> .pcall g (first.toList++(c.args.toList.map (evl τ))++captured.toList) (cfg.fsh g) (fun l=>kk ((cfg.fsh g).val l))
    | .func (.yield l) first captured=>
     match cfg.pcall rid i with
     |false=> .yld l (first.toList++(c.args.toList.map (evl τ))) (fun b=>kk (.bool b))
     |true=> .stuck
    |_=> .stuck
   | .builtin b=>
    match b with
    | .len| .cap| .min| .max=>G3 P o τ kk
    |_=> .nx (execOp (evl τ) o) (cfg.sh o.type) (fun l=>kk ((cfg.sh o.type).val l))
   | .invoke .. => .stuck
  |_=>G3 P o τ kk
abbrev Kn:=List (Nat×Option Bool)
def Kn.drop(kn:Kn)(d:Option Tmp):Kn:=match d with|some d=>kn.filter (fun p=>p.1 !=d)|none=>kn
def Kn.undef(kn:Kn)(d:Option Tmp):Kn:=match d with|some d=>(d,none)::kn|none=>kn
def Kn.src(kn:Kn):Operand→Option (Option Bool)
 | .tmp t=>kn.lookup t
 | .const (.bool b)=>some (some b)
 |_=>none
def Kn.mv(kn:Kn):Op→Option (Option Bool)
 | .move x| .assign x=>kn.src x
 | .pick (.tmp c) a b=>(match kn.lookup c with|some (some true)=>kn.src a|some (some false)=>kn.src b|_=>none)
 |_=>none
def Kn.after(kn:Kn)(hinted:Bool)(o:Oper)(len:Nat):Kn:=
 match o.dst with
 |none=>kn
 |some d=>
  match(if hinted then none else kn.mv o.op)with
  |some x=>if d<len then(d,x)::kn.drop (some d)else kn.drop (some d)
  |none=>kn.drop (some d)
abbrev Jw:=List (Nat×Sem Next×Value)
def z8:Jw→Tr→Tr
 |[],t=>t
 |p::r,t=> .pin p.2.1 p.2.2 (z8 r t)
def cls:Op→Nat
 | .load .. | .indexAddr .. | .index .. | .slice .. =>1
 | .alloc _| .box .. | .buildSlice .. | .makeSlice .. =>2
 | .store .. | .insert .. | .ready _| .waits _| .makeMap .. | .makeChan .. | .lookup .. | .mapUpdate .. | .mapEntry .. | .entryStore .. | .range .. | .next .. | .entry _| .typeAssert .. | .go _| .defer _| .panic _| .send .. | .recv .. | .select .. =>3
 | .call {callee:= .builtin .len,..}| .call {callee:= .builtin .cap,..}| .call {callee:= .builtin .min,..}| .call {callee:= .builtin .max,..}=>0
 | .call _=>3
 |_=>0
def SV:Op→Bool
 | .call {callee:= .value _,..}=>true
 |_=>false
def cl(cfg:Cfg)(rid i:Nat)(o:Oper):Nat:=match cfg.hint rid i with|some (true,_)=>1|some (false,_)=>3|none=>if cfg.pcall rid i&&SV o.op then 0 else cls o.op
def evR(P:Program)(cfg:Cfg)(rid:Nat)(dr:Bool)(ops:Array Oper):List Nat→List Value→Kn→Jw→(List Value→Kn→Tr)→Tr
 |[],τ,kn,_,K=>K τ kn
 |i::r,τ,kn,pn,K=>
  match ops[i]? with
  |none=>evR P cfg rid dr ops r τ kn pn K
  |some o=>
   let run:=fun(τ:List Value) (kn:Kn)=>JA P cfg rid i o τ (fun v=>
    z8 (if dr&&cl cfg rid i o==3 then pn.filter (fun p=>cfg.un rid p.1 i)else[])
     (evR P cfg rid dr ops r (lT τ o.dst v) (kn.after (cfg.hint rid i).isSome o τ.length) (if dr&&cl cfg rid i o==1 then(i,execOp (evl τ) o,v)::pn else pn) K))
   let skp:=fun(τ:List Value) (kn:Kn)=>evR P cfg rid dr ops r (lT τ o.dst undef) (kn.undef o.dst) pn K
   match o.guard with
   |none=>run τ kn
   |some (j,want)=>
    match(ops[j]?).bind (·.dst)with
    |none=> .stuck
    |some d=>
     match kn.lookup d with
     |some (some b)=>if b==want then run τ kn else skp τ kn
     |some none=>skp τ kn
     |none=>
      match τ.getD d undef with
      | .bool b=>
       if want then .ite b (run (τ.set d (.bool true)) ((d,some true)::kn)) (skp (τ.set d (.bool false)) ((d,some false)::kn))
       else .ite b (skp (τ.set d (.bool true)) ((d,some true)::kn)) (run (τ.set d (.bool false)) ((d,some false)::kn))
      |_=> .stuck
def GQ(cfg:Cfg)(τ:List Value):List ResultVar→List Value→Tr
 |[],acc=> .done (match acc with|[v]=>v|vs=> .tuple ⟨vs⟩)
 | .tmp t::r,acc=>GQ cfg τ r (acc++[τ.getD t undef])
 | .cell a t::r,acc=>
  match τ.getD a undef with
  | .pointer (some ad)=> .rd (loadVar t ad) (cfg.sh t) (fun l=>GQ cfg τ r (acc++[(cfg.sh t).val l]))
  |_=> .stuck
def dp(ops:Array Oper)(i:Nat):List Nat:=((ops[i]?).map (fun o=>(o.after.toList.filter (fun e=>Region.binds .any e)).map (·.on))).getD []
def Fu(cfg:Cfg)(rid:Nat)(ops:Array Oper)(pre:List (List Nat))(un:Nat→Nat→Bool):List Nat→Bool
 |[]=>true
 |x::r=>(r.all fun y=>
   x !=y&& !(dp ops x).contains y&&((pre.getD y []).contains x||
    (match ops[x]?,ops[y]? with
     |some ox,some oy=>ox.apart ops oy&&(match cl cfg rid x ox,cl cfg rid y oy with
      |3,3|3,1|2,3|2,1=>false
      |1,3=>un x y
      |_,_=>true)
     |_,_=>false)))&&Fu cfg rid ops pre un r
def Pb(cfg:Cfg)(rid:Nat)(ops:Array Oper)(l:List Nat):Bool:=
 let pre:=cfg.pre rid
 let un:=cfg.un rid
 (l.length==ops.size&&(List.range ops.size).all (fun i=>l.contains i)&&l.all (fun i=>decide (i<ops.size)))&&
 ((List.range ops.size).all fun i=>((pre.getD i []).all fun x=>(dp ops i).contains x||(dp ops i).any fun y=>(pre.getD y []).contains x))&&
 ((List.range ops.size).all fun i=>(dp ops i).all fun x=>decide (x<ops.size)&&x !=i)&&ops.toList.all (fun o=>match o.op with| .select .. =>false|_=>true)&&
 Fu cfg rid ops pre un l
def settle:Nat→List Item→List Item
 |n+1,.code (.seq a b)::k=>settle n (.code a:: .code b::k)
 |n+1,.code .skip::k=>settle n k
 |_,k=>k
def ev(P:Program)(cfg:Cfg):Nat→List Item→List Value→Kn→Tr
 |0,todo,τ,_=> .stop todo τ
 |n+1,todo,τ,kn=>
  match todo with
  |[]=>match cfg.stopRet with|true=> .stop [] τ|false=>GQ cfg τ cfg.results []
  | .code .ret::k=>match cfg.stopRet with|true=> .stop (.code .ret::k) τ|false=>GQ cfg τ cfg.results []
  | .code (.rangeFunc g ps as bd)::k=> .stop (.code (.rangeFunc g ps as bd)::k) τ
  | .code .skip::k=>ev P cfg n k τ kn
  | .code (.label _)::k=> .stop k τ
  | .code (.seq a b)::k=>if Qo cfg a then .stop (.code a:: .code b::k) τ else ev P cfg n (.code a:: .code b::k) τ kn
  | .code (.block id c)::k=>ev P cfg n (.code c:: .inBlock id::k) τ kn
  | .code (.scope c)::k=>ev P cfg n (.code c:: .inScope c::k) τ kn
  | .code (.loop c)::k=> .stop (.code c:: .inLoop c::k) τ
  | .code (.exit id)::k=>
   match exitTo id k with
   |some k'=>ev P cfg n k' τ kn
   |none=> .stuck
  | .code (.goto l)::k=>
   match gotoIn l k with
   |some k'=> .stop (settle 50 k') τ
   |none=> .stuck
  | .code (.cond c x y)::k=>
   match(match c with| .tmp t=>kn.lookup t|_=>none)with
   |some (some true)=>ev P cfg n (.code x::k) τ kn
   |some (some false)=>ev P cfg n (.code y::k) τ kn
   |_=>
    match evl τ c with
    | .bool b=> .ite b (ev P cfg n (.code x::k) τ kn) (ev P cfg n (.code y::k) τ kn)
    |_=> .stuck
  | .code (.region id ops draw)::k=>
   if draw then
    match cfg.ord id with
    |some l=>if Pb cfg id ops l then evR P cfg id true ops l τ kn [] (fun τ kn=>ev P cfg n k τ kn)else .stuck
    |none=> .stuck
   else evR P cfg id false ops (List.range ops.size) τ kn [] (fun τ kn=>ev P cfg n k τ kn)
  | .beginRound::k=> .stop (.beginRound::k) τ
  | .inBlock _::k=>ev P cfg n k τ kn
  | .inScope _::k=>ev P cfg n k τ kn
  | .inLoop c::k=> .stop (.code c:: .inLoop c::k) τ
  |_=> .stuck
section
variable {P:Program} {I:Ctx} {cfg:Cfg} {f:Ctl} {Q:Value→Mem→Prop}
theorem Fo(s:Sem Value)(h:Mem)(K:Next→Mem→Prop):swp P I (do pure (.value (←s))) h K=swp P I s h (fun x h'=>K (.value x) h'):=by
 rw[aS];rfl
theorem SS(s:Sem Unit)(h:Mem)(K:Next→Mem→Prop):swp P I (do s;pure .skip) h K=swp P I s h (fun _ h'=>K .skip h'):=by
 rw[aS];rfl
theorem tY{g:FuncId}{args:Array Value}{h:Mem}{K:Next→Mem→Prop}(hc:af P g)(hk:K (.enter g args) h):swp P I (callFunc g args) h K:=by
 obtain⟨fn,h1,h2,h3⟩:=hc
 unfold callFunc
 simp only[aS,gr,h1,h2,h3]
 exact hk
theorem gf{o:Oper}{τ:List Value}{kk:Value→Tr}{h:Mem}(hl:dJ I h)(hh:holds P f I Q (G3 P o τ kk) h): ∃v,bq P (execOp (evl τ) o)=some (.value v)∧holds P f I Q (kk v) h:=by
 unfold G3 at hh
 split at hh
 ·rename_i v hv;exact⟨v,hv,hh⟩
 ·exact(hh hl).elim
theorem vf{o:Oper}{τ:List Value}{h:Mem}{K:Value→Mem→Prop}(hh: ∃v,bq P (execOp (evl τ) o)=some (.value v)∧K v h):opw P I o τ h K:=by
 obtain⟨v,hv,hk⟩:=hh
 exact dj _ (d8 _ hv hk)
theorem Ea{rid i:Nat}{o:Oper}{τ:List Value}{kk:Value→Tr}{h:Mem}(hl:dJ I h)(hh:holds P f I Q (JA P cfg rid i o τ kk) h):
  opw P I o τ h (fun v h'=>holds P f I Q (kk v) h'):=by
 have out: ∀{sh:Sh} {v:Value} {h:Mem},(∃l,v=sh.val l∧holds P f I Q (kk (sh.val l)) h)→holds P f I Q (kk v) h:=by
  rintro sh v h ⟨l,rfl,hl⟩;exact hl
 unfold JA at hh
 split at hh
 ·refine dj _ (jk _ (hh hl) ?_)
  rintro nx ⟨l,rfl,hl⟩
  exact hl
 ·split at hh
  ·refine cL _ (hh hl) ?_
   intro nx h' hn
   exact E6 hn fun v h2 hv=>out hv
  ·refine cL _ (hh hl) ?_
   rintro nx h' ⟨l,rfl,hl⟩
   exact hl
 ·obtain⟨dst,op,type,pos,after,guard⟩:=o
  unfold opw execOp
  split at hh<;>rename_i hop<;>simp only at hop⊢ <;>(try simp only[hop])
  ·rw[Fo];exact cL _ (dj _ (Q:=fun v h'=> ∃l,v=(cfg.sh _).val l∧holds P f I Q (kk ((cfg.sh _).val l)) h') (hh hl)) fun v h' hv=>out hv
  ·rw[SS];exact hh hl
  ·rw[Fo];exact cL _ (hh hl) fun v h' hv=>out hv
  ·rw[Fo];exact cL _ (hh hl) fun v h' hv=>out hv
  ·rw[Fo];exact cL _ (hh hl) fun v h' hv=>out hv
  ·rw[Fo];exact cL _ (hh hl) fun v h' hv=>out hv
  ·rw[Fo];exact cL _ (dj _ (Q:=fun v h'=> ∃l,v=Ay.val l∧holds P f I Q (kk (Ay.val l)) h') (hh hl)) fun v h' hv=>out hv
  ·rw[Fo];exact cL _ (dj _ (Q:=fun v h'=> ∃l,v=(cfg.sh _).val l∧holds P f I Q (kk ((cfg.sh _).val l)) h') (hh hl)) fun v h' hv=>out hv
  ·rw[Fo];exact cL _ (dj _ (Q:=fun v h'=> ∃l,v=(cfg.sh _).val l∧holds P f I Q (kk ((cfg.sh _).val l)) h') (hh hl)) fun v h' hv=>out hv
  ·rename_i c
   split at hh
   ·rename_i fv hcal
    split at hh
    ·rename_i g first captured hfv
     have he:first++Array.map (evl τ) c.args++captured=⟨first.toList++(c.args.toList.map (evl τ))++captured.toList⟩:=by
      apply Array.ext';simp
     split at hh
     ·obtain⟨hcal',hf⟩:=hh hl
      simp only[resolve,hcal,hfv,Deferred.ofValue,aS,iF,invoke]
      refine tY hcal' fun hl=>?_
      obtain⟨hc,hr,hp,hf⟩:=hf
      refine⟨hc,hr,hp,?_⟩
      rw[he]
      exact hf.mono fun v h1 hv=>out hv
     ·obtain⟨l,⟨hcal',_,hf⟩,hk⟩:=hh hl
      simp only[resolve,hcal,hfv,Deferred.ofValue,aS,iF,invoke]
      refine tY hcal' fun hl=>⟨[],h,List.Perm.refl _,?_⟩
      rw[he]
      refine(hf h hl).mono ?_
      rintro v h1 ⟨rfl,rfl⟩
      exact hk
    ·rename_i l first captured hfv
     split at hh
     case h_2=>exact(hh hl).elim
     obtain⟨r,hr,hlen,hc,hr',hp,hf⟩:=hh hl
     have he:first++Array.map (evl τ) c.args=⟨first.toList++(c.args.toList.map (evl τ))⟩:=by
      apply Array.ext';simp
     simp only[resolve,hcal,hfv,Deferred.ofValue,aS,iF,invoke,he,Instr.yield,Instr.getLoop,getObj]
     refine⟨_,hr,(fun _ _ _=>by simp),?_⟩
     show swp P I (if(⟨first.toList++List.map (evl τ) c.args.toList⟩:Array Value).size≠r.params.size then _ else _) h _
     rw[if_neg (by rw[show(⟨first.toList++List.map (evl τ) c.args.toList⟩:Array Value).size=(first.toList++List.map (evl τ) c.args.toList).length from rfl,hlen];exact fun h=>h rfl)]
     refine fun hl=>⟨hc,hr',hp,hf.mono ?_⟩
     rintro v h1 ⟨b,rfl,hk⟩
     exact hk
    ·exact(hh hl).elim
   ·rename_i b hcal
    split at hh
    ·have h1:=vf (K:=fun v h'=>holds P f I Q (kk v) h') (I:=I) (gf hl hh);unfold opw execOp at h1;simpa only[hop]using h1
    ·have h1:=vf (K:=fun v h'=>holds P f I Q (kk v) h') (I:=I) (gf hl hh);unfold opw execOp at h1;simpa only[hop]using h1
    ·have h1:=vf (K:=fun v h'=>holds P f I Q (kk v) h') (I:=I) (gf hl hh);unfold opw execOp at h1;simpa only[hop]using h1
    ·have h1:=vf (K:=fun v h'=>holds P f I Q (kk v) h') (I:=I) (gf hl hh);unfold opw execOp at h1;simpa only[hop]using h1
    ·have h1:swp P I _ h _:=hh hl
     unfold execOp at h1
     simp only[hop]at h1
     refine cL _ h1 ?_
     rintro nx h' ⟨l,rfl,hl⟩
     exact hl
   ·exact(hh hl).elim
  ·have h1:=vf (K:=fun v h'=>holds P f I Q (kk v) h') (I:=I) (gf hl hh)
   unfold opw execOp at h1
   exact h1
def wk(kn:Kn)(τ:List Value):Prop:= ∀d x,kn.lookup d=some x→match x with|some b=>τ.getD d undef= .bool b|none=>τ.getD d undef=undef
theorem wk.nil(τ:List Value):wk [] τ:=fun d x h=>by simp at h
theorem yJ(d e:Nat): ∀(kn:Kn),List.lookup e (kn.filter (fun p=>p.1 !=d))=if e=d then none else List.lookup e kn
 |[]=>by simp
 |(p1,p2)::kn=>by
  have ih:=yJ d e kn
  rw[List.filter_cons]
  by_cases hp:p1=d
  ·subst hp
   simp only[bne_self_eq_false,Bool.false_eq_true,if_false]
   rw[ih]
   by_cases he:e=p1
   ·rw[if_pos he,if_pos he]
   ·have h2:(e==p1)=false:=by simp[he]
    rw[if_neg he,if_neg he,List.lookup_cons,h2]
  ·have h1:(p1 !=d)=true:=by simp[hp]
   simp only[h1,if_true]
   rw[List.lookup_cons,List.lookup_cons,ih]
   by_cases he:e=p1
   ·subst he;simp[hp]
   ·have h2:(e==p1)=false:=by simp[he]
    simp only[h2]
theorem Iq(kn:Kn)(d e:Nat):List.lookup e (kn.drop (some d))=if e=d then none else List.lookup e kn:=yJ d e kn
theorem uM{o:Oper}{τ:List Value}{x:Operand}{v:Value}(ho:o.op= .move x∨o.op= .assign x)(h:bq P (execOp (evl τ) o)=some (.value v)):v=evl τ x:=by
 unfold execOp at h
 rcases ho with ho|ho<;>simp only[ho]at h<;>(have h2:some (Next.value (evl τ x))=some (.value v):=h)<;>simpa using h2.symm
theorem tK{o:Oper}{τ:List Value}{c:Nat}{x y:Operand}{v:Value}{b:Bool}(ho:o.op= .pick (.tmp c) x y)(hc:τ.getD c undef= .bool b)(h:bq P (execOp (evl τ) o)=some (.value v)):
  v=if b then evl τ x else evl τ y:=by
 unfold execOp at h
 simp only[ho]at h
 have hc':evl τ (.tmp c)= .bool b:=hc
 simp only[hc']at h
 have h2:some (Next.value (if b=true then evl τ x else evl τ y))=some (.value v):=h
 simpa using h2.symm
def RQ(P:Program)(cfg:Cfg)(rid i:Nat)(o:Oper)(τ:List Value)(v:Value):Prop:=
 (cfg.hint rid i).isSome=false→(∃x,o.op= .move x∨o.op= .assign x)∨(∃c x y,o.op= .pick c x y)→bq P (execOp (evl τ) o)=some (.value v)
theorem HG{rid i:Nat}{o:Oper}{τ:List Value}{kk:Value→Tr}{h:Mem}(hl:dJ I h)(hh:holds P f I Q (JA P cfg rid i o τ kk) h):
  opw P I o τ h (fun v h'=>holds P f I Q (kk v) h'∧RQ P cfg rid i o τ v):=by
 by_cases hq:(cfg.hint rid i).isSome=false∧((∃x,o.op= .move x∨o.op= .assign x)∨(∃c x y,o.op= .pick c x y))
 ·obtain⟨hn,ho⟩:=hq
  have hn':cfg.hint rid i=none:=by simpa using hn
  have he:JA P cfg rid i o τ kk=G3 P o τ kk:=by
   unfold JA
   rw[hn']
   rcases ho with⟨x,ho|ho⟩|⟨c,x,y,ho⟩<;>simp only[ho]
  rw[he]at hh
  obtain⟨v,hv,hk⟩:=gf hl hh
  exact vf ⟨v,hv,hk,fun _ _=>hv⟩
 ·exact m8 (Ea hl hh) fun v h' hv=>⟨hv,fun h1 h2=>absurd ⟨h1,h2⟩ hq⟩
theorem q6{τ:List Value}{d e:Nat}{v:Value}(h:e≠d):(τ.set d v).getD e undef=τ.getD e undef:=by
 simp[List.getD_eq_getElem?_getD,List.getElem?_set_ne (Ne.symm h)]
theorem wk.put{kn:Kn}{τ:List Value}(hk:wk kn τ)(dst:Option Tmp)(v:Value):wk (kn.drop dst) (lT τ dst v):=by
 cases dst with
 |none=>exact hk
 |some d=>
  intro e x hx
  rw[Iq]at hx
  split at hx
  ·cases hx
  ·rename_i hne
   have:=hk e x hx
   cases x with
   |some b=>exact(q6 hne).trans this
   |none=>exact(q6 hne).trans this
def kv:Option Bool→Value
 |some b=> .bool b
 |none=>Go.undef
theorem wk.get{kn:Kn}{τ:List Value}(hk:wk kn τ){d:Nat}{x:Option Bool}(h:kn.lookup d=some x):τ.getD d Go.undef=kv x:=by
 have:=hk d x h
 cases x<;>exact this
theorem wk.src{kn:Kn}{τ:List Value}(hk:wk kn τ){x:Operand}{y:Option Bool}(h:kn.src x=some y):evl τ x=kv y:=by
 unfold Kn.src at h
 split at h
 ·exact hk.get h
 ·simp only[Option.some.injEq]at h;subst h;rfl
 ·cases h
theorem wk.mv{kn:Kn}{τ:List Value}{o:Oper}{v:Value}{x:Option Bool}(hk:wk kn τ)(hx:kn.mv o.op=some x)
  (hs:(∃x,o.op= .move x∨o.op= .assign x)∨(∃c x y,o.op= .pick c x y)→bq P (execOp (evl τ) o)=some (.value v)):v=kv x:=by
 generalize ho:o.op=op at hx
 unfold Kn.mv at hx
 split at hx
 ·rename_i z
  rw[uM (.inl ho) (hs (.inl ⟨z,.inl ho⟩))];exact hk.src hx
 ·rename_i z
  rw[uM (.inr ho) (hs (.inl ⟨z,.inr ho⟩))];exact hk.src hx
 ·rename_i c a b
  have hst:=hs (.inr ⟨_,_,_,ho⟩)
  split at hx
  ·rename_i hc;rw[tK ho (hk.get hc) hst];exact hk.src hx
  ·rename_i hc;rw[tK ho (hk.get hc) hst];exact hk.src hx
  ·cases hx
 ·cases hx
theorem wk.after{kn:Kn}{τ:List Value}{rid i:Nat}{o:Oper}{v:Value}(hk:wk kn τ)(hs:RQ P cfg rid i o τ v):wk (kn.after (cfg.hint rid i).isSome o τ.length) (lT τ o.dst v):=by
 unfold Kn.after
 cases hd:o.dst with
 |none=>exact hk
 |some d=>
  have h0:=hk.put (some d) v
  simp only[]
  cases hn:(cfg.hint rid i).isSome with
  |true=>simp only[if_true];exact h0
  |false=>
   simp only[Bool.false_eq_true,if_false]
   cases hx:kn.mv o.op with
   |none=>exact h0
   |some x=>
    simp only[]
    split
    ·rename_i hlt
     have hv:=hk.mv hx (fun h=>hs hn h)
     intro e y hy
     rw[List.lookup_cons]at hy
     by_cases he:e=d
     ·subst he
      simp at hy
      subst hy
      have hg:(lT τ (some e) v).getD e Go.undef=kv x:=by
       simp[lT,List.getD_eq_getElem?_getD,hlt,hv]
      cases x<;>exact hg
     ·have h2:(e==d)=false:=by simpa using he
      rw[h2]at hy
      exact h0 e y hy
    ·exact h0
theorem wk.undef{kn:Kn}{τ:List Value}(hk:wk kn τ)(dst:Option Tmp):wk (kn.undef dst) (lT τ dst undef):=by
 cases dst with
 |none=>exact hk
 |some d=>
  intro e x hx
  simp only[Kn.undef,List.lookup_cons]at hx
  by_cases he:e=d
  ·subst he
   simp at hx
   subst hx
   show(τ.set e Go.undef).getD e Go.undef=Go.undef
   rw[List.getD_eq_getElem?_getD,List.getElem?_set,if_pos rfl]
   split<;>rfl
  ·have:(e==d)=false:=by simpa using he
   simp only[this]at hx
   have:=hk e x hx
   cases x with
   |some b=>exact(q6 he).trans this
   |none=>exact(q6 he).trans this
theorem wk.know{kn:Kn}{τ:List Value}(hk:wk kn τ){d:Nat}{b:Bool}(hd:τ.getD d Go.undef= .bool b):wk ((d,some b)::kn) τ:=by
 intro e x hx
 simp only[List.lookup_cons]at hx
 by_cases he:e=d
 ·subst he
  simp at hx
  subst hx
  exact hd
 ·have:(e==d)=false:=by simpa using he
  simp only[this]at hx
  exact hk e x hx
theorem Jt{τ:List Value}{d:Nat}{v:Value}(hd:τ.getD d undef=v)(hv:v≠undef):τ.set d v=τ:=by
 have hlt:d<τ.length:=by
  rcases Nat.lt_or_ge d τ.length with h|h
  ·exact h
  ·rw[List.getD_eq_getElem?_getD,List.getElem?_eq_none h]at hd;exact absurd hd.symm hv
 apply List.ext_getElem?
 intro j
 rw[List.getElem?_set]
 split
 ·rename_i hj;subst hj
  rw[List.getD_eq_getElem?_getD,List.getElem?_eq_getElem hlt]at hd
  rw[List.getElem?_eq_getElem hlt]
  simpa using hd.symm
 ·rfl
theorem C6{ops:Array Oper}{τ:List Value}{j d:Nat}(hd:(ops[j]?).bind (·.dst)=some d):yielded ops (act τ).tmps j=match τ.getD d undef with| .bool b=>some b|_=>none:=by
 unfold yielded
 rw[hd]
 simp only[Option.bind_some,act,List.getD_eq_getElem?_getD]
 have:(({toList:=τ}:Array Value)[d]?)=τ[d]? :=by simp
 rw[this]
 cases τ[d]? with
 |none=>rfl
 |some v=>cases v<;>rfl
theorem BK{ops:Array Oper}{i:Nat}{r:List Nat}{o:Oper}{τ:List Value}{h:Mem}{KK:List Value→Mem→Prop}(ho:ops[i]? =some o)
  (hw:Region.wanted o (yielded ops (act τ).tmps)=true)(hs:opw P I o τ h (fun v h'=>Ie P I ops r (lT τ o.dst v) h' KK)):Ie P I ops (i::r) τ h KK:=by
 intro _;simp only[ho,hw,if_true];exact hs
theorem BF{ops:Array Oper}{i:Nat}{r:List Nat}{o:Oper}{τ:List Value}{h:Mem}{KK:List Value→Mem→Prop}(ho:ops[i]? =some o)
  (hw:Region.wanted o (yielded ops (act τ).tmps)=false)(hs:Ie P I ops r (lT τ o.dst undef) h KK):Ie P I ops (i::r) τ h KK:=by
 intro _;simp only[ho,hw];exact hs
theorem Nk{rid:Nat}{ops:Array Oper}{KK:List Value→Mem→Prop}{K:List Value→Kn→Tr}(hK: ∀τ kn h,wk kn τ→holds P f I Q (K τ kn) h→KK τ h):
  ∀(l:List Nat) (τ:List Value) (kn:Kn) (h:Mem),wk kn τ→holds P f I Q (evR P cfg rid false ops l τ kn [] K) h→Ie P I ops l τ h KK:=by
 intro l
 induction l with
 |nil=>intro τ kn h hk hh;exact hK _ _ _ hk hh
 |cons i r ih=>
  intro τ kn h hk hh
  simp only[evR]at hh
  by_cases hl:dJ I h
  case neg=>simp only[Ie];exact fun h=>absurd h hl
  cases ho:ops[i]? with
  |none=>simp only[ho]at hh;simp only[Ie,ho];exact fun _=>ih _ _ _ hk hh
  |some o=>
   simp only[ho,Bool.false_and,Bool.false_eq_true,if_false,z8]at hh
   have run: ∀(τ:List Value) (kn:Kn),wk kn τ→holds P f I Q (JA P cfg rid i o τ fun v=>evR P cfg rid false ops r (lT τ o.dst v) (kn.after (cfg.hint rid i).isSome o τ.length) [] K) h→
     opw P I o τ h (fun v h'=>Ie P I ops r (lT τ o.dst v) h' KK):=fun τ kn hk hh=>
    m8 (HG hl hh) fun v h' hv=>ih _ _ _ (hk.after hv.2) hv.1
   have skp: ∀(τ:List Value) (kn:Kn),wk kn τ→holds P f I Q (evR P cfg rid false ops r (lT τ o.dst undef) (kn.undef o.dst) [] K) h→Ie P I ops r (lT τ o.dst undef) h KK:=
    fun τ kn hk hh=>ih _ _ _ (hk.undef o.dst) hh
   cases hg:o.guard with
   |none=>
    simp only[hg]at hh
    exact BK ho (by simp[Region.wanted,hg]) (run τ kn hk hh)
   |some jw=>
    obtain⟨j,want⟩:=jw
    simp only[hg]at hh
    cases hd:(ops[j]?).bind (·.dst)with
    |none=>simp only[hd]at hh;exact(hh hl).elim
    |some d=>
     simp only[hd]at hh
     have hy:=C6 (τ:=τ) hd
     cases hlk:kn.lookup d with
     |some x=>
      have hx:=hk d x hlk
      cases x with
      |some b=>
       simp only[hlk]at hh
       simp only at hx
       have hwd:Region.wanted o (yielded ops (act τ).tmps)=(b==want):=by
        simp only[Region.wanted,hg,hy,hx];cases b<;>cases want<;>rfl
       split at hh
       ·rename_i hb;exact BK ho (hwd.trans hb) (run τ kn hk hh)
       ·rename_i hb;exact BF ho (hwd.trans (by simpa using hb)) (skp τ kn hk hh)
      |none=>
       simp only[hlk]at hh
       simp only at hx
       exact BF ho (by simp only[Region.wanted,hg,hy,hx];cases want<;>rfl) (skp τ kn hk hh)
     |none=>
      simp only[hlk]at hh
      split at hh
      ·rename_i b hb
       have hwd:Region.wanted o (yielded ops (act τ).tmps)=(b==want):=by
        simp only[Region.wanted,hg,hy,hb];cases b<;>cases want<;>rfl
       have hne:Value.bool b≠undef:=by simp[undef]
       have hs:=Jt hb hne
       split at hh
       ·rename_i hwt
        subst hwt
        cases b with
        |true=>have h1:=(hh hl).1 rfl;simp only[hs]at h1;exact BK ho (hwd.trans rfl) (run τ _ (hk.know hb) h1)
        |false=>have h1:=(hh hl).2 rfl;simp only[hs]at h1;exact BF ho (hwd.trans rfl) (skp τ _ (hk.know hb) h1)
       ·rename_i hwt
        have hwf:want=false:=by simpa using hwt
        subst hwf
        cases b with
        |true=>have h1:=(hh hl).1 rfl;simp only[hs]at h1;exact BF ho (hwd.trans rfl) (skp τ _ (hk.know hb) h1)
        |false=>have h1:=(hh hl).2 rfl;simp only[hs]at h1;exact BK ho (hwd.trans rfl) (run τ _ (hk.know hb) h1)
      ·exact(hh hl).elim
def wg(τ:List Value):ResultVar→Sem Value
 | .tmp t=>pure (τ.getD t undef)
 | .cell a t=>do loadVar t (←asAddr (τ.getD a undef))
def CN(vs:List Value):Value:=match vs with|[v]=>v|vs=> .tuple ⟨vs⟩
theorem Qt(vs:List Value):(if h:(⟨vs⟩:Array Value).size=1 then(⟨vs⟩:Array Value)[0]else .tuple ⟨vs⟩)=CN vs:=by
 match vs with
 |[]=>rfl
 |[v]=>rfl
 |a::b::r=>simp[CN]
theorem Eo(fn:Func)(τ:List Value):results fn ⟨τ⟩=(do let vs←fn.results.toList.mapM (wg τ);pure (CN vs)):=by
 unfold results
 have h2:(fun x:ResultVar=>match x with
  | .tmp t=>(pure ((⟨τ⟩:Array Value).getD t undef):Sem Value)
  | .cell a t=>do loadVar t (←asAddr ((⟨τ⟩:Array Value).getD a undef)))=wg τ:=by
  funext x
  cases x<;>simp[wg]
 show(do let vs←fn.results.mapM (fun x:ResultVar=>match x with
  | .tmp t=>(pure ((⟨τ⟩:Array Value).getD t undef):Sem Value)
  | .cell a t=>do loadVar t (←asAddr ((⟨τ⟩:Array Value).getD a undef)));pure (if h:vs.size=1 then vs[0]else .tuple vs))=_
 rw[h2,Array.mapM_eq_mapM_toList]
 simp only[bind_map_left]
 congr 1
 funext vs
 exact congrArg pure (Qt vs)
theorem wZ{τ:List Value}{h:Mem}(hl:dJ I h): ∀(rs:List ResultVar) (acc:List Value),holds P f I Q (GQ cfg τ rs acc) h→
  rwp P I h (rs.mapM (wg τ)) (fun vs=>Q (CN (acc++vs)) h)
 |[],acc,hh=>by
  simp only[List.mapM_nil,u9,List.append_nil]
  exact hh hl
 | .tmp t::r,acc,hh=>by
  simp only[GQ]at hh
  simp only[List.mapM_cons,wg,cH,u9]
  refine jk _ (wZ hl r _ hh) fun vs hq=>?_
  simpa using hq
 | .cell a t::r,acc,hh=>by
  simp only[GQ]at hh
  split at hh
  ·rename_i ad hd
   simp only[List.mapM_cons,wg,cH,hd,asAddr,u9]
   refine jk _ (hh hl) ?_
   rintro v ⟨l,rfl,hl'⟩
   refine jk _ (wZ hl r _ hl') fun vs hq=>?_
   simpa using hq
  ·exact(hh hl).elim
theorem GA{fn:Func}{todo:List Item}{τ:List Value}{h:Mem}(hfn:f.rd=none∧f.ds=[])(ht:todo=[]∨ ∃k,todo= .code .ret::k)(hf:P.funcs[f.fn]? =some fn)(hres:cfg.results=fn.results.toList)
  (hh:holds P f I Q (GQ cfg τ cfg.results []) h):Wp P f todo τ I h Q:=by
 refine Wp.live fun hl=>Wp.ret hfn ht hf ?_
 rw[Eo,cH]
 have h1:=wZ hl _ _ hh
 rw[hres]at h1
 simpa using h1
theorem Gc{τ:List Value}{h:Mem}: ∀(n:Nat) (k:List Item),Wp P f (settle n k) τ I h Q→Wp P f k τ I h Q:=by
 intro n
 induction n with
 |zero=>intro k hw;unfold settle at hw;exact hw
 |succ n ih=>
  intro k hw
  unfold settle at hw
  split at hw
  ·rename_i he;cases he;exact Wp.seq (ih _ hw)
  ·rename_i he;cases he;exact Wp.skip (ih _ hw)
  ·exact hw
def Mu(P:Program)(f:Ctl)(I:Ctx)(Q:Value→Mem→Prop)(cfg:Cfg):Prop:=
 ∀(id:Nat) (ops:Array Oper) (l:List Nat) (k:List Item) (τ:List Value) (kn:Kn) (h:Mem) (K:List Value→Kn→Tr),(∀τ kn h,wk kn τ→holds P f I Q (K τ kn) h→Wp P f k τ I h Q)→
  Pb cfg id ops l=true→wk kn τ→holds P f I Q (evR P cfg id true ops l τ kn [] K) h→Wp P f (.code (.region id ops true)::k) τ I h Q
theorem N4{fn:Func}(hfn:cfg.stopRet=true∨(f.rd=none∧f.ds=[]))(hf:P.funcs[f.fn]? =some fn)(hres:cfg.results=fn.results.toList)(hD:Mu P f I Q cfg):
  ∀(n:Nat) (todo:List Item) (τ:List Value) (kn:Kn) (h:Mem),wk kn τ→holds P f I Q (ev P cfg n todo τ kn) h→Wp P f todo τ I h Q:=by
 intro n
 induction n with
 |zero=>intro todo τ kn h hk hh;exact Wp.live hh
 |succ n ih=>
  intro todo τ kn h hk hh
  refine Wp.live fun hl=>?_
  simp only[ev]at hh
  split at hh
  ·split at hh
   ·exact hh hl
   ·rename_i hsr;exact GA (hfn.resolve_left (by rw[hsr];simp)) (.inl rfl) hf hres hh
  ·split at hh
   ·exact hh hl
   ·rename_i hsr;exact GA (hfn.resolve_left (by rw[hsr];simp)) (.inr ⟨_,rfl⟩) hf hres hh
  ·exact hh hl
  ·exact Wp.skip (ih _ _ _ _ hk hh)
  ·exact Wp.label (hh hl)
  ·split at hh
   ·exact Wp.seq (hh hl)
   ·exact Wp.seq (ih _ _ _ _ hk hh)
  ·exact Wp.block (ih _ _ _ _ hk hh)
  ·exact Wp.scope (ih _ _ _ _ hk hh)
  ·exact Wp.loop (hh hl)
  ·split at hh
   ·rename_i he;exact Wp.exit he (ih _ _ _ _ hk hh)
   ·exact(hh hl).elim
  ·split at hh
   ·rename_i he;exact Wp.goto he (Gc _ _ (hh hl))
   ·exact(hh hl).elim
  ·split at hh
   ·rename_i hl
    split at hl
    ·exact Wp.cond (b:=true) (hk _ _ hl) (fun _=>ih _ _ _ _ hk hh) (fun h=>by cases h)
    ·cases hl
   ·rename_i hl
    split at hl
    ·exact Wp.cond (b:=false) (hk _ _ hl) (fun h=>by cases h) (fun _=>ih _ _ _ _ hk hh)
    ·cases hl
   ·split at hh
    ·rename_i b hb
     exact Wp.cond hb (fun hb'=>ih _ _ _ _ hk ((hh hl).1 hb')) (fun hb'=>ih _ _ _ _ hk ((hh hl).2 hb'))
    ·exact(hh hl).elim
  ·split at hh
   ·rename_i hd
    subst hd
    split at hh
    ·split at hh
     ·rename_i hfav;exact hD _ _ _ _ _ _ _ _ (fun τ kn h hk hh=>ih _ _ _ _ hk hh) hfav hk hh
     ·exact(hh hl).elim
    ·exact(hh hl).elim
   ·rename_i id ops draw k hd
    obtain rfl:draw=false:=by simpa using hd
    exact Wp.region (Nk (fun τ kn h hk hh=>ih _ _ _ _ hk hh) _ _ _ _ hk hh)
  ·exact hh hl
  ·exact Wp.inBlock (ih _ _ _ _ hk hh)
  ·exact Wp.inScope (ih _ _ _ _ hk hh)
  ·exact Wp.inLoop (hh hl)
  ·exact(hh hl).elim
end
section
variable {P:Program} {I:Ctx} {cfg:Cfg} {f:Ctl} {Q:Value→Mem→Prop}
theorem dJ.tail{p:Nat×Obj}{h:Mem}(hl:dJ I (p::h)):dJ I h:=by
 obtain⟨w0,K0,w,hi⟩:=hl
 exact⟨w0,K0,w,Inv.drop (g:=[p]) (hi.perm (List.perm_append_comm (l₁:=[p])))⟩
theorem dJ.fresh{h:Mem}(hl:dJ I h)(o:Obj): ∃g,g∉keys h∧I g=none∧dJ I ((g,o)::h):=by
 obtain⟨w0,K0,w,hi⟩:=hl
 obtain⟨h1,h2,h3⟩:=hi.new o
 exact⟨_,h1,h2,_,_,_,h3⟩
theorem PC{o:Oper}{τ:List Value}{h:Mem}{K:Value→Mem→Prop}(hl:dJ I h)(hw:opw P I o τ h K): ∃v h',dJ I h'∧K v h':=by
 obtain⟨w0,K0,w,hi⟩:=hl
 obtain⟨nx,w1,h1,hr,hn,hi1⟩:=EJ (w0:=w0) (K0:=K0) _ hw hi
 cases nx with
 |value v=>exact⟨v,h1,⟨_,_,_,hi1⟩,hn⟩
 |skip=>exact⟨undef,h1,⟨_,_,_,hi1⟩,hn⟩
 |enter g args=>
  obtain⟨hc,hr',hp,hf⟩:=hn ⟨w0,K0,w1,hi1⟩
  obtain⟨e,w2,fr,⟨v,h2,rfl,⟨h3,rfl,hq⟩,hi2⟩,_⟩:=hf.frame.2 w0 K0 w1 (hi1.perm hp) []
  exact⟨v,_,⟨_,_,_,hi2⟩,hq⟩
 |round l g tmps as bd=>
  obtain⟨hc,hr',hp,hf⟩:=hn ⟨w0,K0,w1,hi1⟩
  obtain⟨v,h2,w2,⟨h3,rfl,hq⟩,hi2,_⟩:=hf.frame w0 K0 w1 (hi1.perm hp) default []
  exact⟨v,_,⟨_,_,_,hi2⟩,hq⟩
 |_=>exact hn.elim
theorem IE{o:Oper}{τ:List Value}{h g:Mem}{K:Value→Mem→Prop}(p:h.Perm g)(hw:opw P I o τ h K):opw P I o τ g (fun v g'=> ∃h',h'.Perm g'∧K v h'):=by
 refine cL _ (JC _ p hw) ?_
 rintro nx g' ⟨h',hp,hn⟩
 cases nx with
 |value v=>exact⟨h',hp,hn⟩
 |skip=>exact⟨h',hp,hn⟩
 |enter f args=>
  intro hl
  obtain⟨hc,hr,hp',hf⟩:=hn (hl.perm hp.symm)
  exact⟨hc,hr,hp.symm.trans hp',hf.mono fun v h1 hq=>⟨_,List.Perm.refl _,hq⟩⟩
 |round l g tmps as bd=>
  intro hl
  obtain⟨hc,hr,hp',hf⟩:=hn (hl.perm hp.symm)
  exact⟨hc,hr,hp.symm.trans hp',hf.mono fun v h1 hq=>⟨_,List.Perm.refl _,hq⟩⟩
 |_=>exact hn.elim
theorem k9{hr g:Mem}(hg: ∀b,b∈keys g→I b=none){b:Nat}{o:Obj}(h:plus I hr b=some o):plus I (hr++g) b=some o:=by
 unfold plus at*
 cases hf:hr.find? (fun p=>p.1==b)with
 |some p=>rw[hf]at h;rw[List.find?_append,hf];exact h
 |none=>
  rw[hf]at h
  have hn:b∉keys g:=fun hk=>by rw[hg b hk]at h;cases h
  rw[List.find?_append,hf,Gf hn]
  exact h
theorem Mz{o:Oper}{τ:List Value}{h g:Mem}{K:Value→Mem→Prop}(hg: ∀b,b∈keys g→I b=none)(hw:opw P I o τ h K):
  opw P I o τ (h++g) (fun v h'=> ∃h1,h'=h1++g∧K v h1):=by
 refine cL _ (Gz g _ hw) ?_
 rintro nx g' ⟨h1,rfl,hn⟩
 cases nx with
 |value v=>exact⟨h1,rfl,hn⟩
 |skip=>exact⟨h1,rfl,hn⟩
 |enter f args=>
  intro hl
  obtain⟨hc,hr,hp,hf⟩:=hn hl.left
  refine⟨hc,hr++g,(hp.append_right g).trans (by rw[List.append_assoc]),(hf.sub fun b o hb=>k9 hg hb).mono fun v h2 hq=>⟨h2++hr,by rw[List.append_assoc],hq⟩⟩
 |round l f' tmps as bd=>
  intro hl
  obtain⟨hc,hr,hp,hf⟩:=hn hl.left
  refine⟨hc,hr++g,(hp.append_right g).trans (by rw[List.append_assoc]),(hf.sub fun b o hb=>k9 hg hb).mono fun v h2 hq=>⟨h2++hr,by rw[List.append_assoc],hq⟩⟩
 |_=>exact hn.elim
def al(P:Program):Sem Next→Option (Obj×(Nat→Sem Next))
 | .program k=>al P (k P)
 | .mark _ k=>al P k
 | .new o k=>some (o,k)
 |_=>none
def NW(P:Program)(s:Sem Next)(ob:Obj)(F:Nat→Value):Prop:= ∃k,al P s=some (ob,k)∧ ∀g,bq P (k g)=some (.value (F g))
theorem NW.det{s:Sem Next}{ob ob':Obj}{F F':Nat→Value}(h:NW P s ob F)(h':NW P s ob' F'):ob=ob'∧F=F':=by
 obtain⟨k,h1,h2⟩:=h
 obtain⟨k',h3,h4⟩:=h'
 rw[h1]at h3
 injection h3 with h3
 injection h3 with h5 h6
 subst h5;subst h6
 refine⟨rfl,funext fun g=>?_⟩
 have:=(h2 g).symm.trans (h4 g)
 injection this with this
 injection this
theorem NW.swp{ob:Obj}{F:Nat→Value}{h:Mem}(s:Sem Next):NW P s ob F→ ∀{K:Next→Mem→Prop},(∀g,g∉keys h→I g=none→K (.value (F g)) ((g,ob)::h))→swp P I s h K:=by
 induction s with
 |new o k ih=>
  rintro⟨k',h1,h2⟩ K hk
  simp only[al,Option.some.injEq,Prod.mk.injEq]at h1
  obtain⟨rfl,rfl⟩:=h1
  exact fun g hg hI=>dj _ (d8 _ (h2 g) (hk g hg hI))
 |program k ih=>rintro⟨k',h1,h2⟩ K hk;exact ih P ⟨k',h1,h2⟩ hk
 |mark m k ih=>rintro⟨k',h1,h2⟩ K hk;exact ih ⟨k',h1,h2⟩ hk
 |_=>rintro⟨k',h1,h2⟩;simp[al]at h1
abbrev KP:=List Value→Mem→Jw→Prop
def wtd(ops:Array Oper)(o:Oper)(τ:List Value):Bool:=Region.wanted o (yielded ops (act τ).tmps)
def AC(P:Program)(I:Ctx)(s:Sem Next)(v:Value):Prop:=
 (∀(h:Mem) (K:Value→Mem→Prop),dJ I h→K v h→swp P I s h (fun nx h'=>nxw P I nx h' K))∧
 ∀(h:Mem) (v':Value),dJ I h→swp P I s h (fun nx h'=>nxw P I nx h' (fun u _=>u=v'))→v=v'
theorem AC.det{s:Sem Next}{v v':Value}{h:Mem}(hl:dJ I h)(a:AC P I s v)(b:AC P I s v'):v=v':=a.2 h v' hl (b.1 h _ hl rfl)
theorem EV{α:Type}{a:α}{h:Mem}{R:α→Mem→Prop}(s:Sem α):bq P s=some a→swp P I s h R→R a h:=by
 induction s with
 |pure b=>intro hs hw;simp only[bq,Option.some.injEq]at hs;subst hs;exact hw
 |program k ih=>intro hs hw;exact ih P hs hw
 |_=>intro hs;simp[bq]at hs
theorem AC.of_still{s:Sem Next}{v:Value}(hs:bq P s=some (.value v)):AC P I s v:=
 ⟨fun _ _ _ hk=>dj _ (d8 _ hs hk),fun _ _ _ hw=>EV (R:=fun nx h'=>nxw P I nx h' _) s hs hw⟩
theorem S0{g:FuncId}{args:Array Value}{w:World}{a b:Value}{R R':World→Prop}(h:Calls P g args w fun e w'=>e= .returned a∧R w')(h':Calls P g args w fun e w'=>e= .returned b∧R' w')
  (hi:P.inits.idxOf? g=none):a=b:=by
 have h2:Calls P g args w fun| .returned v,w'=>v=a∧R w'|_,_=>False:=h.mono fun e w' ⟨he,q⟩=>by subst he;exact⟨rfl,q⟩
 have h2':Calls P g args w fun| .returned v,w'=>v=b∧R' w'|_,_=>False:=h'.mono fun e w' ⟨he,q⟩=>by subst he;exact⟨rfl,q⟩
 obtain⟨n,v,w1,e1,r1⟩:=h2.done hi
 obtain⟨m,v',w2,e2,r2⟩:=h2'.done hi
 have x:=runN_ended e1 m
 have y:=runN_ended e2 n
 rw[Nat.add_comm,x]at y
 injection y with ho hw
 injection ho with hv
 rw[←r1.1,←r2.1,hv]
theorem uW{g:FuncId}{args:Array Value}{w:World}(hc:af P g):(callFunc g args).run P w= .ok (.enter g args) w:=by
 obtain⟨fn,h1,h2,h3⟩:=hc
 unfold callFunc
 simp only[bind,program,Sem.bind,Sem.run,h1,h2,h3]
 rfl
theorem AC.of_call{g:FuncId}{args:Array Value}{v:Value}(hp:PH P I g args.toList v):AC P I (callFunc g args) v:=by
 obtain⟨hc,hin,hf⟩:=hp
 refine⟨fun h K hl hk=>tY hc fun hl=>⟨[],h,List.Perm.refl _,(hf h hl).mono ?_⟩,fun h v' hl hw=>?_⟩
 ·rintro u h1 ⟨rfl,rfl⟩;exact hk
 ·obtain⟨w0,K0,w,hi⟩:=hl
  obtain⟨nx,w1,h1,hr,hn,hi1⟩:=EJ (w0:=w0) (K0:=K0) _ hw hi
  rw[uW hc]at hr
  injection hr with e1 e2
  subst e1;subst e2
  obtain⟨hc',hr',hp',hf'⟩:=hn ⟨_,_,_,hi1⟩
  have c1:=(hf h1 ⟨_,_,_,hi1⟩).frame.2 w0 K0 w (by simpa using hi1)
  have c2:=hf'.frame.2 w0 K0 w (hi1.perm hp')
  exact S0 (R:=fun _=>True) (R':=fun _=>True) (c1.mono fun e w' ⟨u,h',he,⟨_,_,hu,_⟩,_⟩=>⟨by rw[he,hu],trivial⟩) (c2.mono fun e w' ⟨u,h',he,⟨_,_,hu⟩,_⟩=>⟨by rw[he,hu],trivial⟩) hin
def stO(P:Program)(I:Ctx)(un:Nat→Nat→Bool)(ops:Array Oper)(i c:Nat)(o:Oper)(τ:List Value)(h:Mem)(pn:Jw)(K:KP):Prop:=
 if wtd ops o τ then
  match c with
  |0=> ∃v,AC P I (execOp (evl τ) o) v∧K (lT τ o.dst v) h pn
  |1=> ∃v,rwp P I h (execOp (evl τ) o) (fun nx=>nx= .value v)∧K (lT τ o.dst v) h ((i,execOp (evl τ) o,v)::pn)
  |2=> ∃ob F,NW P (execOp (evl τ) o) ob F∧ ∀g,g∉keys h→I g=none→dJ I ((g,ob)::h)→K (lT τ o.dst (F g)) ((g,ob)::h) pn
  |_+3=>opw P I o τ h (fun v h'=>dJ I h'→(∀p∈pn,un p.1 i=true→rwp P I h' p.2.1 (fun nx=>nx= .value p.2.2))∧K (lT τ o.dst v) h' pn)
 else K (lT τ o.dst undef) h pn
def yE(K:KP):Prop:= ∀τ h h' pn pn',K τ h pn→h.Perm h'→(∀p∈pn',p∈pn)→K τ h' pn'
section
variable {un:Nat→Nat→Bool} {ops:Array Oper} {i c j d:Nat} {o x y:Oper} {τ:List Value} {h:Mem} {pn:Jw} {K K':KP}
theorem xE(hl:dJ I h)(hk: ∀τ' h' pn',dJ I h'→(∃u,τ'=lT τ o.dst u)→K τ' h' pn'→K' τ' h' pn')(hs:stO P I un ops i c o τ h pn K):stO P I un ops i c o τ h pn K':=by
 unfold stO at*
 split
 ·rename_i hw
  rw[if_pos hw]at hs
  split
  ·obtain⟨v,h1,h2⟩:=hs;exact⟨v,h1,hk _ _ _ hl ⟨_,rfl⟩ h2⟩
  ·obtain⟨v,h1,h2⟩:=hs;exact⟨v,h1,hk _ _ _ hl ⟨_,rfl⟩ h2⟩
  ·obtain⟨ob,F,h1,h2⟩:=hs;exact⟨ob,F,h1,fun g hg hI hl'=>hk _ _ _ hl' ⟨_,rfl⟩ (h2 g hg hI hl')⟩
  ·exact m8 hs fun v h' hh hl'=>⟨(hh hl').1,hk _ _ _ hl' ⟨_,rfl⟩ (hh hl').2⟩
 ·rename_i hw
  rw[if_neg hw]at hs
  exact hk _ _ _ hl ⟨_,rfl⟩ hs
theorem BJ(hl:dJ I h)(hs:stO P I un ops i c o τ h pn K): ∃τ' h' pn',dJ I h'∧(∃u,τ'=lT τ o.dst u)∧K τ' h' pn':=by
 unfold stO at hs
 split at hs
 ·split at hs
  ·obtain⟨v,h1,h2⟩:=hs;exact⟨_,_,_,hl,⟨_,rfl⟩,h2⟩
  ·obtain⟨v,h1,h2⟩:=hs;exact⟨_,_,_,hl,⟨_,rfl⟩,h2⟩
  ·obtain⟨ob,F,h1,h2⟩:=hs
   obtain⟨g,hg,hI,hl'⟩:=hl.fresh ob
   exact⟨_,_,_,hl',⟨_,rfl⟩,h2 g hg hI hl'⟩
  ·obtain⟨v,h',hl',hh⟩:=PC hl hs
   exact⟨_,_,_,hl',⟨_,rfl⟩,(hh hl').2⟩
 ·exact⟨_,_,_,hl,⟨_,rfl⟩,hs⟩
theorem Ec(hK:yE K){h':Mem}{pn':Jw}(p:h.Perm h')(hp: ∀q∈pn',q∈pn)(hs:stO P I un ops i c o τ h pn K):stO P I un ops i c o τ h' pn' K:=by
 unfold stO at*
 split
 ·rename_i hw
  rw[if_pos hw]at hs
  split
  ·obtain⟨v,h1,h2⟩:=hs;exact⟨v,h1,hK _ _ _ _ _ h2 p hp⟩
  ·obtain⟨v,h1,h2⟩:=hs
   exact⟨v,wX (fun z hz=>p.mem_iff.1 hz) _ h1,hK _ _ _ _ _ h2 p fun q hq=>by
    rcases List.mem_cons.1 hq with hq|hq
    ·exact List.mem_cons.2 (.inl hq)
    ·exact List.mem_cons.2 (.inr (hp q hq))⟩
  ·obtain⟨ob,F,h1,h2⟩:=hs
   exact⟨ob,F,h1,fun g hg hI hl=>hK _ _ _ _ _ (h2 g (fun hm=>hg ((keys_perm p).mem_iff.1 hm)) hI (hl.perm (p.symm.cons _))) (p.cons _) hp⟩
  ·refine m8 (IE p hs) ?_
   rintro v h2 ⟨h1,hp1,hh⟩ hl
   obtain⟨h3,h4⟩:=hh (hl.perm hp1.symm)
   exact⟨fun q hq hu=>wX (fun z hz=>hp1.mem_iff.1 hz) _ (h3 q (hp q hq) hu),hK _ _ _ _ _ h4 hp1 hp⟩
 ·rename_i hw
  rw[if_neg hw]at hs
  exact hK _ _ _ _ _ hs p hp
theorem yE.stO(hK:yE K):yE (fun τ h pn=>stO P I un ops i c o τ h pn K):=fun τ h h' pn pn' hs p hp=>Ec hK p hp hs
theorem qG(τ:List Value){dx dy:Option Tmp}(v u:Value)(hd: ∀d,dx=some d→dy≠some d):lT (lT τ dx v) dy u=lT (lT τ dy u) dx v:=by
 cases dx with
 |none=>rfl
 |some d=>
  cases dy with
  |none=>rfl
  |some e=>
   have hne:d≠e:=fun he=>hd d rfl (he▸rfl)
   simp only[lT]
   exact List.set_comm _ _ hne
theorem B5(hs: ∀cs b,o.op≠ .select cs b){dx:Option Tmp}(v:Value)(hd: ∀d,dx=some d→d∉o.looksAt ops):execOp (evl (lT τ dx v)) o=execOp (evl τ) o:=by
 rw[←yK _ [],←yK _ [],←Do]
 exact execOp_put o hs _ dx v hd
theorem E4{dx:Option Tmp}(v:Value)(hd: ∀d,dx=some d→d∉o.looksAt ops):wtd ops o (lT τ dx v)=wtd ops o τ:=by
 unfold wtd
 rw[←Do]
 exact wanted_put o _ dx v hd
theorem Ft(hs: ∀cs b,o.op≠ .select cs b){dx:Option Tmp}(v:Value)(hd: ∀d,dx=some d→d∉o.looksAt ops)(hd2: ∀d,dx=some d→o.dst≠some d):
  stO P I un ops i c o (lT τ dx v) h pn K=stO P I un ops i c o τ h pn (fun τ' h' pn'=>K (lT τ' dx v) h' pn'):=by
 unfold stO
 rw[E4 v hd]
 simp only[B5 hs v hd,qG τ (dx:=dx) (dy:=o.dst) v _ hd2,opw]
end
def I7(P:Program)(I:Ctx)(un:Nat→Nat→Bool)(c:Nat→Oper→Nat)(ops:Array Oper):List Nat→List Value→Mem→Jw→KP→Prop
 |[],τ,h,pn,K=>K τ h pn
 |i::r,τ,h,pn,K=>match ops[i]? with
  |none=>False
  |some o=>stO P I un ops i (c i o) o τ h pn (fun τ' h' pn'=>I7 P I un c ops r τ' h' pn' K)
theorem Cr{un:Nat→Nat→Bool}{c:Nat→Oper→Nat}{ops:Array Oper}{K:KP}(hK:yE K): ∀l,yE (fun τ h pn=>I7 P I un c ops l τ h pn K)
 |[]=>hK
 |i::r=>by
  have ih:=Cr (un:=un) (c:=c) (ops:=ops) hK r
  intro τ h h' pn pn' hs p hp
  simp only[I7]at hs⊢
  split
  ·rename_i ho;simp only[ho]at hs
  ·rename_i o ho;simp only[ho]at hs;exact Ec ih p hp hs
def xf(un:Nat→Nat→Bool)(i j cx cy:Nat):Bool:=match cx,cy with
 |3,3|3,1|2,3|2,1=>false
 |1,3=>un i j
 |_,_=>true
theorem O1{un:Nat→Nat→Bool}{ops:Array Oper}{i j cx cy:Nat}{x y:Oper}{τ:List Value}{h:Mem}{pn:Jw}{K:KP}(hl:dJ I h)(hK:yE K)
  (hap:x.apart ops y=true)(hsx: ∀cs b,x.op≠ .select cs b)(hsy: ∀cs b,y.op≠ .select cs b)(hcx:cx≤3)(hcy:cy≤3)(hal:xf un i j cx cy=true)
  (hs:stO P I un ops i cx x τ h pn (fun τ' h' pn'=>stO P I un ops j cy y τ' h' pn' K)):
  stO P I un ops j cy y τ h pn (fun τ' h' pn'=>stO P I un ops i cx x τ' h' pn' K):=by
 obtain⟨a1,a2,a3⟩:=Oper.apart_spec hap
 have a2': ∀d,y.dst=some d→x.dst≠some d:=fun d hd he=>a2 d he hd
 have ex: ∀τ u,execOp (evl (lT τ y.dst u)) x=execOp (evl τ) x:=fun τ u=>B5 (ops:=ops) hsx u a3
 have ey: ∀τ u,execOp (evl (lT τ x.dst u)) y=execOp (evl τ) y:=fun τ u=>B5 (ops:=ops) hsy u a1
 have wx: ∀τ u,wtd ops x (lT τ y.dst u)=wtd ops x τ:=fun τ u=>E4 u a3
 have wy: ∀τ u,wtd ops y (lT τ x.dst u)=wtd ops y τ:=fun τ u=>E4 u a1
 have yq: ∀v,(∀τ' h' pn',(∃u,τ'=lT τ x.dst u)→stO P I un ops j cy y τ' h' pn' K→K (lT τ' y.dst v) h' pn')→
   stO P I un ops i cx x (lT τ y.dst v) h pn K:=by
  intro v hv
  rw[Ft hsx v a3 a2']
  exact xE hl (fun τ' h' pn' _ ht hh=>hv τ' h' pn' ht hh) hs
 by_cases hwx:wtd ops x τ=true
 ·by_cases hwy:wtd ops y τ=true
  ·rcases(show cx=0∨cx=1∨cx=2∨cx=3 by omega)with rfl|rfl|rfl|rfl
   ·
    unfold stO at hs
    rw[if_pos hwx]at hs
    obtain⟨v,hv,hs⟩:=hs
    rw[show(if wtd ops y (lT τ x.dst v)=true then _ else _)=stO P I un ops j cy y (lT τ x.dst v) h pn K from rfl,Ft hsy v a1 a2]at hs
    refine xE hl ?_ hs
    rintro τ' h' pn' _ ⟨u,rfl⟩ hk
    unfold stO
    show(if wtd ops x _=true then _ else _)
    rw[if_pos (by rw[wx];exact hwx)]
    exact⟨v,by rw[ex];exact hv,hk⟩
   ·rcases(show cy=0∨cy=1∨cy=2∨cy=3 by omega)with rfl|rfl|rfl|rfl
    ·obtain⟨τ',h',pn',hl',⟨u,rfl⟩,hh⟩:=BJ hl hs
     unfold stO at hh
     rw[if_pos (by rw[wy];exact hwy)]at hh
     obtain⟨v,hv,_⟩:=hh
     rw[ey]at hv
     unfold stO
     rw[if_pos hwy]
     refine⟨v,hv,yq v ?_⟩
     rintro τ' h' pn' ⟨u,rfl⟩ hh
     unfold stO at hh
     rw[if_pos (by rw[wy];exact hwy)]at hh
     obtain⟨v',hv',hk⟩:=hh
     rw[ey]at hv'
     obtain rfl:=hv.det hl hv'
     exact hk
    ·unfold stO at hs
     rw[if_pos hwx]at hs
     obtain⟨v,hv,hs⟩:=hs
     rw[if_pos (by rw[wy];exact hwy)]at hs
     obtain⟨u,hu,hk⟩:=hs
     rw[ey]at hu hk
     unfold stO
     rw[if_pos hwy]
     refine⟨u,hu,?_⟩
     show(if wtd ops x _=true then _ else _)
     rw[if_pos (by rw[wx];exact hwx)]
     refine⟨v,by rw[ex];exact hv,?_⟩
     rw[ex,←qG τ v u a2]
     exact hK _ _ _ _ _ hk (List.Perm.refl _) (fun q hq=>by
      simp only[List.mem_cons]at hq⊢
      rcases hq with hq|hq|hq
      ·exact .inr (.inl hq)
      ·exact .inl hq
      ·exact .inr (.inr hq))
    ·unfold stO at hs
     rw[if_pos hwx]at hs
     obtain⟨v,hv,hs⟩:=hs
     rw[if_pos (by rw[wy];exact hwy)]at hs
     obtain⟨ob,F,ha,hk⟩:=hs
     rw[ey]at ha
     unfold stO
     rw[if_pos hwy]
     refine⟨ob,F,ha,fun g hg hI hl'=>?_⟩
     show(if wtd ops x _=true then _ else _)
     rw[if_pos (by rw[wx];exact hwx)]
     refine⟨v,by rw[ex];exact wX (fun z hz=>List.mem_cons_of_mem _ hz) _ hv,?_⟩
     rw[ex,←qG τ v (F g) a2]
     exact hk g hg hI hl'
    ·unfold stO at hs
     rw[if_pos hwx]at hs
     obtain⟨v,hv,hs⟩:=hs
     rw[if_pos (by rw[wy];exact hwy)]at hs
     have hs':opw P I y (lT τ x.dst v) h _:=hs
     unfold opw at hs'
     rw[ey]at hs'
     unfold stO
     rw[if_pos hwy]
     refine m8 hs' fun u h' hh hl'=>?_
     obtain⟨hp,hk⟩:=hh hl'
     refine⟨fun p hp'=>hp p (List.mem_cons_of_mem _ hp'),?_⟩
     show(if wtd ops x _=true then _ else _)
     rw[if_pos (by rw[wx];exact hwx)]
     refine⟨v,by rw[ex];exact hp _ List.mem_cons_self hal,?_⟩
     rw[ex,←qG τ v u a2]
     exact hk
   ·rcases(show cy=0∨cy=1∨cy=2∨cy=3 by omega)with rfl|rfl|rfl|rfl
    ·obtain⟨τ',h',pn',hl',⟨u,rfl⟩,hh⟩:=BJ hl hs
     unfold stO at hh
     rw[if_pos (by rw[wy];exact hwy)]at hh
     obtain⟨v,hv,_⟩:=hh
     rw[ey]at hv
     unfold stO
     rw[if_pos hwy]
     refine⟨v,hv,yq v ?_⟩
     rintro τ' h' pn' ⟨u,rfl⟩ hh
     unfold stO at hh
     rw[if_pos (by rw[wy];exact hwy)]at hh
     obtain⟨v',hv',hk⟩:=hh
     rw[ey]at hv'
     obtain rfl:=hv.det hl hv'
     exact hk
    ·simp[xf]at hal
    ·unfold stO at hs
     rw[if_pos hwx]at hs
     obtain⟨ob,F,ha,hs⟩:=hs
     obtain⟨g0,hg0,hI0,hl0⟩:=hl.fresh ob
     have h1:(if wtd ops y (lT τ x.dst (F g0))=true then _ else _):=hs g0 hg0 hI0 hl0
     rw[if_pos (by rw[wy];exact hwy)]at h1
     obtain⟨ob2,F2,ha2,_⟩:=h1
     rw[ey]at ha2
     unfold stO
     rw[if_pos hwy]
     refine⟨ob2,F2,ha2,fun g' hg' hI' hl'=>?_⟩
     show(if wtd ops x _=true then _ else _)
     rw[if_pos (by rw[wx];exact hwx)]
     refine⟨ob,F,by rw[ex];exact ha,fun g hg hI hl2=>?_⟩
     have hsw:((g,ob)::(g',ob2)::h).Perm ((g',ob2)::(g,ob)::h):=List.Perm.swap _ _ _
     rw[il,List.mem_cons,not_or]at hg
     have h2:(if wtd ops y (lT τ x.dst (F g))=true then _ else _):=hs g hg.2 hI (hl2.perm hsw).tail
     rw[if_pos (by rw[wy];exact hwy)]at h2
     obtain⟨ob3,F3,ha3,h3⟩:=h2
     rw[ey]at ha3
     obtain⟨rfl,rfl⟩:=ha2.det ha3
     have h4:=h3 g' (by rw[il,List.mem_cons,not_or];exact⟨fun e=>hg.1 e.symm,hg'⟩) hI' (hl2.perm hsw)
     rw[←qG τ (F g) (F2 g') a2]
     exact hK _ _ _ _ _ h4 hsw.symm (fun q hq=>hq)
    ·simp[xf]at hal
   ·rcases(show cy=0∨cy=1∨cy=2∨cy=3 by omega)with rfl|rfl|rfl|rfl
    ·obtain⟨τ',h',pn',hl',⟨u,rfl⟩,hh⟩:=BJ hl hs
     unfold stO at hh
     rw[if_pos (by rw[wy];exact hwy)]at hh
     obtain⟨v,hv,_⟩:=hh
     rw[ey]at hv
     unfold stO
     rw[if_pos hwy]
     refine⟨v,hv,yq v ?_⟩
     rintro τ' h' pn' ⟨u,rfl⟩ hh
     unfold stO at hh
     rw[if_pos (by rw[wy];exact hwy)]at hh
     obtain⟨v',hv',hk⟩:=hh
     rw[ey]at hv'
     obtain rfl:=hv.det hl hv'
     exact hk
    ·simp[xf]at hal
    ·obtain⟨τ',h',pn',hl',⟨u,rfl⟩,hh⟩:=BJ hl hs
     unfold stO at hh
     rw[if_pos (by rw[wy];exact hwy)]at hh
     obtain⟨ob,F,ha,_⟩:=hh
     rw[ey]at ha
     unfold stO at hs
     rw[if_pos hwx]at hs
     unfold stO
     rw[if_pos hwy]
     refine⟨ob,F,ha,fun g hg hI hlg=>?_⟩
     show(if wtd ops x _=true then _ else _)
     rw[if_pos (by rw[wx];exact hwx)]
     have hs2:opw P I x (lT τ y.dst (F g)) h (fun v h'=>dJ I h'→(∀p∈pn,un p.1 i=true→rwp P I h' p.2.1 (fun nx=>nx= .value p.2.2))∧stO P I un ops j 2 y (lT τ x.dst v) h' pn K):=by
      unfold opw
      rw[ex]
      exact hs
     have hgI: ∀b,b∈keys [(g,ob)]→I b=none:=by
      intro b hb
      simp at hb
      subst hb
      exact hI
     have hs3:=IE (List.perm_append_comm (l₁:=h) (l₂:=[(g,ob)])) (Mz hgI hs2)
     refine m8 hs3 ?_
     rintro v h3 ⟨h2,hp2,h1,rfl,hh⟩ hl3
     have hp3:h3.Perm ((g,ob)::h1):=hp2.symm.trans (List.perm_append_comm (l₁:=h1) (l₂:=[(g,ob)]))
     have hl4:=hl3.perm hp3
     obtain⟨hp,hk⟩:=hh hl4.tail
     refine⟨fun p hp' hu=>wX (fun z hz=>hp3.mem_iff.2 (List.mem_cons_of_mem _ hz)) _ (hp p hp' hu),?_⟩
     unfold stO at hk
     rw[if_pos (by rw[wy];exact hwy)]at hk
     obtain⟨ob3,F3,ha3,h5⟩:=hk
     rw[ey]at ha3
     obtain⟨rfl,rfl⟩:=ha.det ha3
     have hnd:=hl4.nd
     rw[il,List.nodup_cons]at hnd
     have h6:=h5 g hnd.1 hI hl4
     rw[←qG τ v (F g) a2]
     exact hK _ _ _ _ _ h6 hp3.symm (fun q hq=>hq)
    ·simp[xf]at hal
  ·
   have hwy':wtd ops y τ=false:=by simpa using hwy
   unfold stO
   rw[if_neg hwy]
   refine yq undef ?_
   rintro τ' h' pn' ⟨u,rfl⟩ hh
   unfold stO at hh
   rw[if_neg (by rw[wy,hwy'];simp)]at hh
   exact hh
 ·
  have hwx':wtd ops x τ=false:=by simpa using hwx
  unfold stO at hs
  rw[if_neg hwx]at hs
  rw[show(if wtd ops y (lT τ x.dst undef)=true then _ else _)=stO P I un ops j cy y (lT τ x.dst undef) h pn K from rfl,Ft hsy undef a1 a2]at hs
  refine xE hl ?_ hs
  rintro τ' h' pn' _ ⟨u,rfl⟩ hk
  unfold stO
  rw[if_neg (by rw[wx,hwx'];simp)]
  exact hk
end
end Go.Proofs.YtadanegddceleaaGreatS
