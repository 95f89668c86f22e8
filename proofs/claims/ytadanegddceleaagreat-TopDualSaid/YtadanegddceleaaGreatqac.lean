import Derived.Test.YtadanegddceleaaGreatChecked
import Derived.KernelRfl
import Derived.Test.YtadanegddceleaaGreatqab
set_option linter.unusedSimpArgs false
set_option linter.unusedVariables false
set_option maxRecDepth 20000
namespace Go.Proofs.YtadanegddceleaaGreatS
section
variable {P:Program} {I:Ctx} {cfg:Cfg} {f:Ctl} {Q:Value→Mem→Prop}
theorem Rs(o:Op):cls o≤3:=by unfold cls;split<;>omega
theorem RD(rid i:Nat)(o:Oper):cl cfg rid i o≤3:=by unfold cl;split<;>first|omega|(split<;>first|omega|exact Rs _)
def SM(un:Nat→Nat→Bool)(c:Nat→Oper→Nat)(ops:Array Oper)(i j:Nat):Prop:=
 ∃x y,ops[i]? =some x∧ops[j]? =some y∧x.apart ops y=true∧xf un i j (c i x) (c j y)=true
structure QP (un:Nat→Nat→Bool) (c:Nat→Oper→Nat) (pre:List (List Nat)) (ops:Array Oper):Prop where
 le: ∀i o,c i o≤3
 sel: ∀(i:Nat) (o:Oper),ops[i]? =some o→ ∀cs b,o.op≠ .select cs b
 pre: ∀i,i<ops.size→ ∀x∈pre.getD i [],x∈dp ops i∨ ∃y∈dp ops i,x∈pre.getD y []
 dp: ∀i,i<ops.size→ ∀x∈dp ops i,x<ops.size∧x≠i
def Hk(un:Nat→Nat→Bool)(c:Nat→Oper→Nat)(pre:List (List Nat))(ops:Array Oper):List Nat→Prop
 |[]=>True
 |x::r=>(∀y∈r,x≠y∧y∉dp ops x∧(x∈pre.getD y []∨SM un c ops x y))∧Hk un c pre ops r
theorem Hk.append{un:Nat→Nat→Bool}{c:Nat→Oper→Nat}{pre:List (List Nat)}{ops:Array Oper}{B:List Nat}{i:Nat}: ∀{A:List Nat},Hk un c pre ops (A++i::B)→
  Hk un c pre ops (A++B)∧(∀x∈A,x≠i∧(x∈pre.getD i []∨SM un c ops x i))∧i∉B
 |[],h=>⟨h.2,fun x hx=>by simp at hx,fun hm=>(h.1 i hm).1 rfl⟩
 |a::A,h=>by
  obtain⟨h1,h2,h3⟩:=Hk.append h.2
  refine⟨⟨fun y hy=>h.1 y ?_,h1⟩,fun x hx=>?_,h3⟩
  ·rcases List.mem_append.1 hy with hy|hy
   ·exact List.mem_append_left _ hy
   ·exact List.mem_append_right _ (List.mem_cons_of_mem _ hy)
  ·rcases List.mem_cons.1 hx with rfl|hx
   ·have:=h.1 i (List.mem_append_right _ List.mem_cons_self)
    exact⟨this.1,this.2.2⟩
   ·exact h2 x hx
theorem BZ{un:Nat→Nat→Bool}{c:Nat→Oper→Nat}{pre:List (List Nat)}{ops:Array Oper}{K:KP}(hF:QP un c pre ops)(hK:yE K){i:Nat}{B:List Nat}:
  ∀{A:List Nat},(∀x∈A,SM un c ops x i)→ ∀{τ:List Value} {h:Mem} {pn:Jw},dJ I h→I7 P I un c ops (A++i::B) τ h pn K→I7 P I un c ops (i::(A++B)) τ h pn K
 |[],_,_,_,_,_,hr=>hr
 |x::A,hA,τ,h,pn,hl,hr=>by
  obtain⟨ox,oi,hx,hi,hap,hal⟩:=hA x List.mem_cons_self
  simp only[List.cons_append,I7,hx]at hr
  simp only[List.cons_append,I7,hi,hx]
  refine O1 hl (Cr hK _) hap (hF.sel _ _ hx) (hF.sel _ _ hi) (hF.le _ _) (hF.le _ _) hal ?_
  refine xE hl ?_ hr
  intro τ' h' pn' hl' _ hh
  have:=BZ hF hK (A:=A) (fun y hy=>hA y (List.mem_cons_of_mem _ hy)) hl' hh
  simp only[I7,hi]at this
  exact this
theorem Rp{un:Nat→Nat→Bool}{ops:Array Oper}{i c:Nat}{o:Oper}{rest:List Nat}{k:List Item}{τ:List Value}{h:Mem}{pn:Jw}(ho:ops[i]? =some o)(hc:c≤3)
  (hs:stO P I un ops i c o τ h pn (fun τ' h' pn'=>dJ I h'→Wp P f (.inRegion ops rest::k) τ' I h' Q))(hl:dJ I h):Wp P f (.inRegion ops (i::rest)::k) τ I h Q:=by
 unfold stO at hs
 split at hs
 ·rename_i hw
  refine Wp.op ho hw ?_
  split at hs
  ·obtain⟨v,hv,hk⟩:=hs;exact hv.1 _ _ hl (hk hl)
  ·obtain⟨v,hv,hk⟩:=hs
   refine dj _ (jk _ hv ?_)
   rintro nx rfl
   exact hk hl
  ·obtain⟨ob,F,ha,hk⟩:=hs
   exact NW.swp _ ha fun g hg hI=>Wp.live fun hl'=>hk g hg hI hl' hl'
  ·exact m8 hs fun v h' hh=>Wp.live fun hl'=>(hh hl').2 hl'
 ·rename_i hw
  have hsk:=fun(b:Frame) (cs:List Frame) (w:World)=>stepR_op_skip (P:=P) (b:=b) (a:=act τ f.ds) (k:=k) (cs:=cs) (w:=w) (ops:=ops) (i:=i) (rest:=rest)
   (by simp only[wtd]at hw;simp[ho];simpa[act]using hw)
  simp only[ho,Option.bind_some,Do]at hsk
  exact Wp.go_ (fun b cs w _=>hsk b cs w) (hs hl)
theorem GM{ops:Array Oper}{listed:Array Bool}{i:Nat}:i∈Region.ready .any ops listed↔i<ops.size∧listed.getD i true=false∧ ∀x∈dp ops i,listed.getD x false=true:=by
 unfold Region.ready dp
 rw[List.mem_filter,List.mem_range]
 constructor
 ·rintro⟨h1,h2⟩
  have ho:ops[i]? =some ops[i]:=Array.getElem?_eq_getElem h1
  rw[ho]at h2⊢
  simp only[Option.map_some,Option.getD_some,Bool.and_eq_true,Bool.not_eq_true',Array.all_eq_true',Bool.or_eq_true]at h2⊢
  refine⟨h1,h2.1,fun x hx=>?_⟩
  obtain⟨e,he,rfl⟩:=List.mem_map.1 hx
  obtain⟨he1,he2⟩:=List.mem_filter.1 he
  rcases h2.2 e (by simpa using he1)with h3|h3
  ·rw[he2]at h3;cases h3
  ·exact h3
 ·rintro⟨h1,h2,h3⟩
  refine⟨h1,?_⟩
  have ho:ops[i]? =some ops[i]:=Array.getElem?_eq_getElem h1
  rw[ho]at h3⊢
  simp only[Option.map_some,Option.getD_some,Bool.and_eq_true,Bool.not_eq_true',Array.all_eq_true',Bool.or_eq_true]at h3⊢
  refine⟨h2,fun e he=>?_⟩
  cases hb:Region.binds .any e with
  |false=>exact .inl rfl
  |true=>exact .inr (h3 _ (List.mem_map.2 ⟨e,List.mem_filter.2 ⟨by simpa using he,hb⟩,rfl⟩))
theorem Rq{un:Nat→Nat→Bool}{c:Nat→Oper→Nat}{pre:List (List Nat)}{ops:Array Oper}{k:List Item}(hF:QP un c pre ops):
  ∀(fuel t:Nat) (listed:Array Bool) (L:List Nat) (τ:List Value) (h:Mem) (pn:Jw),listed.size=ops.size→(∀i,i<ops.size→(listed.getD i true=false↔i∈L))→(∀i∈L,i<ops.size)→
   (∀i,i<ops.size→i∉L→ ∀x∈pre.getD i [],x∉L)→Hk un c pre ops L→L.length≤fuel→dJ I h→I7 P I un c ops L τ h pn (fun τ h _=>Wp P f k τ I h Q)→
   Wp P f (.inRegion ops (Region.linearise.go .any ops fuel t listed [])::k) τ I h Q:=by
 intro fuel
 induction fuel with
 |zero=>
  intro t listed L τ h pn hsz hL hlt hcl hp hlen hl hr
  have hL0:L=[]:=List.eq_nil_of_length_eq_zero (by omega)
  subst hL0
  exact Wp.regs hr
 |succ fuel ih=>
  intro t listed L τ h pn hsz hL hlt hcl hp hlen hl hr
  simp only[Region.linearise.go]
  change Wp P f (.inRegion ops (match(Region.ready .any ops listed)[t%(Region.ready .any ops listed).length]? with
   |some i=>Region.linearise.go .any ops fuel (t/(Region.ready .any ops listed).length) (listed.setIfInBounds i true) [i]
   |none=>[].reverse)::k) τ I h Q
  have getf: ∀x,x<ops.size→(listed.getD x false=true↔x∉L):=by
   intro x hx
   have h1:=hL x hx
   have h2:listed.getD x false=listed.getD x true:=by
    have:x<listed.size:=by omega
    simp[Array.getD,this]
   rw[h2]
   constructor
   ·intro h3 h4;rw[h1.2 h4]at h3;cases h3
   ·intro h3
    cases hg:listed.getD x true with
    |true=>rfl
    |false=>exact absurd (h1.1 hg) h3
  cases hi:(Region.ready .any ops listed)[t%(Region.ready .any ops listed).length]? with
  |none=>
   have hnil:Region.ready .any ops listed=[]:=by
    cases hr:Region.ready .any ops listed with
    |nil=>rfl
    |cons x xs=>
     rw[hr]at hi
     have hlt:t%(x::xs).length<(x::xs).length:=Nat.mod_lt _ (by simp)
     simp at hi
     simp at hlt
     omega
   have hL0:L=[]:=by
    cases L with
    |nil=>rfl
    |cons y r=>
     exfalso
     have hy:=hlt y List.mem_cons_self
     have:y∈Region.ready .any ops listed:=by
      refine GM.2 ⟨hy,(hL y hy).2 List.mem_cons_self,fun x hx=>?_⟩
      obtain⟨hx1,hx2⟩:=hF.dp y hy x hx
      refine(getf x hx1).2 fun hm=>?_
      rcases List.mem_cons.1 hm with hm|hm
      ·exact hx2 hm
      ·exact(hp.1 x hm).2.1 hx
     rw[hnil]at this
     cases this
   subst hL0
   exact Wp.regs hr
  |some i=>
   obtain⟨hlt',hun,hpr⟩:=GM.1 (List.mem_of_getElem? hi)
   have hiL:=(hL i hlt').1 hun
   have hprL: ∀x∈dp ops i,x∉L:=fun x hx=>(getf x (hF.dp i hlt' x hx).1).1 (hpr x hx)
   have hpreL: ∀x∈pre.getD i [],x∉L:=by
    intro x hx
    rcases hF.pre i hlt' x hx with h1|⟨y,hy,h1⟩
    ·exact hprL x h1
    ·exact hcl y (hF.dp i hlt' y hy).1 (hprL y hy) x h1
   obtain⟨A,B,rfl⟩:=List.append_of_mem hiL
   obtain⟨hp1,hp2,hp3⟩:=hp.append
   have hA: ∀x∈A,SM un c ops x i:=by
    intro x hx
    rcases(hp2 x hx).2 with h1|h1
    ·exact absurd (List.mem_append_left _ hx) (hpreL x h1)
    ·exact h1
   have hK:yE (fun τ h (_:Jw)=>Wp P f k τ I h Q):=fun τ h h' pn pn' hw p _=>hw.perm p
   have hb:=BZ hF hK hA hl hr
   have ho:ops[i]? =some ops[i]:=Array.getElem?_eq_getElem hlt'
   simp only[I7,ho]at hb
   simp only[]
   rw[linearise_go_acc,List.reverse_singleton,List.singleton_append]
   refine Rp ho (hF.le _ _) (xE hl ?_ hb) hl
   intro τ' h' pn' hl' _ hh _
   have hmem: ∀x,x∈A++B→x∈A++i::B:=by
    intro x hx
    rcases List.mem_append.1 hx with hx|hx
    ·exact List.mem_append_left _ hx
    ·exact List.mem_append_right _ (List.mem_cons_of_mem _ hx)
   have hiAB:i∉A++B:=by
    intro hm
    rcases List.mem_append.1 hm with hm|hm
    ·exact(hp2 i hm).1 rfl
    ·exact hp3 hm
   refine ih _ _ (A++B) τ' h' pn' (by simp[hsz]) (fun j hj=>?_) (fun j hj=>hlt j (hmem j hj)) (fun j hj hjn x hx hxm=>?_) hp1 (by simp at hlen⊢;omega) hl' hh
   ·by_cases hji:j=i
    ·subst hji
     have:j<listed.size:=by omega
     simp only[Array.getD,Array.size_setIfInBounds,this,dif_pos]
     constructor
     ·intro h1;simp at h1
     ·intro h1;exact absurd h1 hiAB
    ·have h1:=hL j hj
     have:j<listed.size:=by omega
     have h2:(listed.setIfInBounds i true).getD j true=listed.getD j true:=by
      simp only[Array.getD,Array.size_setIfInBounds,this,dif_pos]
      exact Array.getElem_setIfInBounds_ne this (Ne.symm hji)
     rw[h2,h1]
     simp only[List.mem_append,List.mem_cons]
     constructor
     ·rintro(h3|h3|h3)
      ·exact .inl h3
      ·exact absurd h3 hji
      ·exact .inr h3
     ·rintro(h3|h3)
      ·exact .inl h3
      ·exact .inr (.inr h3)
   ·by_cases hji:j=i
    ·subst hji;exact hpreL x hx (hmem x hxm)
    ·refine hcl j hj (fun hm=>hjn ?_) x hx (hmem x hxm)
     simp only[List.mem_append,List.mem_cons]at hm⊢
     rcases hm with h3|h3|h3
     ·exact .inl h3
     ·exact absurd h3 hji
     ·exact .inr h3
end
section
variable {P:Program} {I:Ctx} {cfg:Cfg} {f:Ctl} {Q:Value→Mem→Prop}
theorem Jr{rid:Nat}{ops:Array Oper}{pre:List (List Nat)}{un:Nat→Nat→Bool}: ∀{l:List Nat},Fu cfg rid ops pre un l=true→Hk un (cl cfg rid) pre ops l
 |[],_=>trivial
 |x::r,h=>by
  simp only[Fu,Bool.and_eq_true,List.all_eq_true]at h
  refine⟨fun y hy=>?_,Jr h.2⟩
  obtain⟨⟨h1,h2⟩,h3⟩:=h.1 y hy
  refine⟨by simpa using h1,by simpa using h2,?_⟩
  rw[Bool.or_eq_true]at h3
  rcases h3 with h3|h3
  ·exact .inl (by simpa using h3)
  ·right
   split at h3
   ·rename_i ox oy hx hy
    rw[Bool.and_eq_true]at h3
    refine⟨ox,oy,hx,hy,h3.1,?_⟩
    have h4:=h3.2
    unfold xf
    exact h4
   ·cases h3
theorem O5{rid:Nat}{ops:Array Oper}{l:List Nat}(h:Pb cfg rid ops l=true):QP (cfg.un rid) (cl cfg rid) (cfg.pre rid) ops∧Hk (cfg.un rid) (cl cfg rid) (cfg.pre rid) ops l∧
  l.length=ops.size∧(∀i,i<ops.size→i∈l)∧(∀i∈l,i<ops.size):=by
 unfold Pb at h
 simp only[Bool.and_eq_true,List.all_eq_true,decide_eq_true_eq,Bool.or_eq_true,beq_iff_eq,List.mem_range,List.contains_iff_mem,List.any_eq_true,bne_iff_ne]at h
 obtain⟨⟨⟨⟨⟨⟨h1,h2⟩,h3⟩,h4⟩,h5⟩,h6⟩,h7⟩:=h
 refine⟨⟨fun i o=>RD _ _ _,fun i o ho cs b he=>?_,h4,h5⟩,Jr h7,h1,h2,h3⟩
 have:=h6 o (Array.mem_toList_iff.2 (Array.mem_of_getElem? ho))
 rw[he]at this
 cases this
theorem PV{α:Type}{h:Mem}(s:Sem α): ∀{R:α→Prop},rwp P I h s R→ ∃a,rwp P I h s (fun x=>x=a)∧R a:=by
 induction s with
 |pure a=>intro R hs;exact⟨a,rfl,hs⟩
 |load m a k ih=>intro R hs;obtain⟨v,hc,hs⟩:=hs;obtain⟨x,h1,h2⟩:=ih v hs;exact⟨x,⟨v,hc,h1⟩,h2⟩
 |shape r k ih=>intro R hs;obtain⟨cs,e,fz,hb,hs⟩:=hs;obtain⟨x,h1,h2⟩:=ih _ hs;exact⟨x,⟨cs,e,fz,hb,h1⟩,h2⟩
 |frozen a k ih=>intro R hs;obtain⟨cs,e,fz,hb,hs⟩:=hs;obtain⟨x,h1,h2⟩:=ih _ hs;exact⟨x,⟨cs,e,fz,hb,h1⟩,h2⟩
 |getObj r k ih=>intro R hs;obtain⟨o,hb,hn,hs⟩:=hs;obtain⟨x,h1,h2⟩:=ih _ hs;exact⟨x,⟨o,hb,hn,h1⟩,h2⟩
 |program k ih=>intro R hs;obtain⟨x,h1,h2⟩:=ih _ hs;exact⟨x,h1,h2⟩
 |mark m k ih=>intro R hs;obtain⟨x,h1,h2⟩:=ih hs;exact⟨x,h1,h2⟩
 |_=>intro R hs;exact hs.elim
theorem Sq{h:Mem}(s:Sem Value)(K:Next→Prop):rwp P I h (do pure (.value (←s))) K=rwp P I h s (fun x=>K (.value x)):=by
 rw[cH];rfl
theorem Eu{t:Tr}{h:Mem}(hl:dJ I h): ∀{ps:Jw},holds P f I Q (z8 ps t) h→(∀p∈ps,rwp P I h p.2.1 (fun nx=>nx= .value p.2.2))∧holds P f I Q t h
 |[],hh=>⟨fun p hp=>by simp at hp,hh⟩
 |p::ps,hh=>by
  obtain⟨h1,h2⟩:=hh hl
  obtain⟨h3,h4⟩:=Eu hl h2
  refine⟨fun q hq=>?_,h4⟩
  rcases List.mem_cons.1 hq with rfl|hq
  ·exact h1
  ·exact h3 q hq
theorem SD{rid i:Nat}{o:Oper}{τ:List Value}{kk:Value→Tr}{h:Mem}(hl:dJ I h)(hc:cl cfg rid i o=0)(hh:holds P f I Q (JA P cfg rid i o τ kk) h):
  ∃v,AC P I (execOp (evl τ) o) v∧RQ P cfg rid i o τ v∧holds P f I Q (kk v) h:=by
 have fin:(∃v,bq P (execOp (evl τ) o)=some (.value v)∧holds P f I Q (kk v) h)→ ∃v,AC P I (execOp (evl τ) o) v∧RQ P cfg rid i o τ v∧holds P f I Q (kk v) h:=
  fun⟨v,hv,hk⟩=>⟨v,AC.of_still hv,fun _ _=>hv,hk⟩
 unfold cl at hc
 unfold JA at hh
 split at hc
 ·cases hc
 ·cases hc
 ·rename_i hn
  simp only[hn]at hh
  split at hc
  ·rename_i hpc
   rw[Bool.and_eq_true]at hpc
   obtain⟨dst,op,type,pos,after,guard⟩:=o
   obtain⟨hpc,hfn⟩:=hpc
   simp only at hfn
   unfold SV at hfn
   split at hfn
   ·rename_i ff args ats
    simp only at hh
    split at hh
    ·rename_i g first captured hfv
     rw[hpc]at hh
     obtain⟨l,hp,hk⟩:=hh hl
     refine⟨_,?_,fun _ hmv=>?_,hk⟩
     ·have he:first++Array.map (evl τ) args++captured=⟨first.toList++(args.toList.map (evl τ))++captured.toList⟩:=by
       apply Array.ext';simp
      have h2:execOp (evl τ) {dst:=dst,op:= .call {callee:= .value ff,args:=args,argTypes:=ats},type:=type,pos:=pos,after:=after,guard:=guard}=callFunc g ⟨first.toList++(args.toList.map (evl τ))++captured.toList⟩:=by
       unfold execOp
       simp only[resolve,hfv,Deferred.ofValue,pure_bind,invoke,he]
      rw[h2]
      exact AC.of_call hp
     ·rcases hmv with⟨x,hx|hx⟩|⟨c,x,y,hx⟩<;>cases hx
    ·rw[hpc]at hh;exact(hh hl).elim
    ·exact(hh hl).elim
   ·cases hfn
  refine fin ?_
  unfold cls at hc
  split at hc<;>rename_i hop<;>first|cases hc|skip
  all_goals simp only[hop]at hh
  all_goals first|exact gf hl hh|(split at hh<;>first|exact gf hl hh|simp_all)
theorem Sy{s:Sem Value}{sh:Sh}{kk:Value→Tr}{h:Mem}(hl:dJ I h)(hh:holds P f I Q (.rd s sh fun l=>kk (sh.val l)) h): ∃v,rwp P I h (do pure (.value (←s)):Sem Next) (fun nx=>nx= .value v)∧holds P f I Q (kk v) h:=by
 obtain⟨v,h1,l,rfl,h2⟩:=PV _ (show rwp P I h s (fun v=> ∃l,v=sh.val l∧holds P f I Q (kk (sh.val l)) h)from hh hl)
 refine⟨sh.val l,?_,h2⟩
 rw[Sq]
 exact jk _ h1 fun x hx=>by rw[hx]
theorem RT{rid i:Nat}{o:Oper}{τ:List Value}{kk:Value→Tr}{h:Mem}(hl:dJ I h)(hc:cl cfg rid i o=1)(hh:holds P f I Q (JA P cfg rid i o τ kk) h):
  ∃v,rwp P I h (execOp (evl τ) o) (fun nx=>nx= .value v)∧holds P f I Q (kk v) h:=by
 unfold cl at hc
 unfold JA at hh
 split at hc
 ·rename_i sh hn
  simp only[hn]at hh
  obtain⟨nx,h1,l,rfl,h2⟩:=PV _ (show rwp P I h (execOp (evl τ) o) (fun nx=> ∃l,nx= .value (sh.val l)∧holds P f I Q (kk (sh.val l)) h)from hh hl)
  exact⟨_,h1,h2⟩
 ·cases hc
 ·rename_i hn
  simp only[hn]at hh
  replace hc:cls o.op=1:=by
   split at hc
   ·cases hc
   ·exact hc
  unfold cls at hc
  obtain⟨dst,op,type,pos,after,guard⟩:=o
  split at hc<;>rename_i hop<;>first|cases hc|skip
  all_goals simp only at hop
  all_goals subst hop
  all_goals exact Sy hl hh
theorem jp{α:Type}{a:α}(X:Sem α)(F:α→Sem Next):bq P X=some a→al P (X>>=F)=al P (F a):=by
 show _→al P (Sem.bind X F)=al P (F a)
 induction X with
 |pure b=>intro hs;simp only[bq,Option.some.injEq]at hs;subst hs;rfl
 |program k ih=>intro hs;simp only[Sem.bind,al];exact ih _ hs
 |_=>intro hs;simp[bq]at hs
theorem ap{t:TypeId}{u:TypeDesc}(h:P.underlying t=some u):bq P (underlying t)=some u:=by
 show bq P (Sem.bind program _)=_
 simp only[program,Sem.bind,bq]
 rw[h];rfl
theorem bc{t:TypeId}{u:TypeInfo}(h:P.info? t=some u):bq P (typeInfo t)=some u:=by
 show bq P (Sem.bind program _)=_
 simp only[program,Sem.bind,bq]
 rw[h];rfl
theorem bo{α β:Type}{a:α}(X:Sem α)(F:α→Sem β):bq P X=some a→bq P (X>>=F)=bq P (F a):=by
 show _→bq P (Sem.bind X F)=bq P (F a)
 induction X with
 |pure b=>intro hs;simp only[bq,Option.some.injEq]at hs;subst hs;rfl
 |program k ih=>intro hs;simp only[Sem.bind,bq];exact ih _ hs
 |_=>intro hs;simp[bq]at hs
theorem qN{α β:Type}{a:α}(s:Sem α){F:α→Sem β}{h:Mem}{R:β→Mem→Prop}:bq P s=some a→swp P I (s>>=F) h R→swp P I (F a) h R:=by
 show _→swp P I (Sem.bind s F) h R→_
 induction s with
 |pure b=>intro hs;simp only[bq,Option.some.injEq]at hs;subst hs;exact id
 |program k ih=>intro hs;simp only[Sem.bind,bq,swp]at*;exact ih _ hs
 |_=>intro hs;simp[bq]at hs
theorem Kz{α:Type}{y:Nat}{F:Unit→Sem α}{h:Mem}{R:α→Mem→Prop}(hs:swp P I (askRoom y>>=F) h R):swp P I (F ()) h R:=by
 unfold askRoom at hs
 split at hs
 ·exact hs
 ·exact hs
theorem LZ{y:Nat}{F:Unit→Sem Next}:al P (askRoom y>>=F)=al P (F ()):=by
 unfold askRoom
 split
 ·rfl
 ·rfl
theorem G4{α:Type}{v:Value}{F:Int→Sem α}{h:Mem}{R:α→Mem→Prop}(hs:swp P I (asInt v>>=F) h R): ∃k x,v= .int k x∧swp P I (F x) h R:=by
 cases v with
 |int k x=>exact⟨k,x,rfl,qN (a:=x) _ rfl hs⟩
 |pointer a=>cases a<;>exact False.elim hs
 |_=>exact False.elim hs
theorem S7{t:TypeId}{L C:Value}{h:Mem}{R:Value→Mem→Prop}(hs:swp P I (Instr.makeSlice t L C) h R):
  ∃ob F,NW P (do pure (.value (←Instr.makeSlice t L C)):Sem Next) ob F∧ ∀g,g∉keys h→I g=none→R (F g) ((g,ob)::h):=by
 unfold Instr.makeSlice at hs⊢
 cases hu:P.underlying t with
 |none=>simp only[underlying,aS,gr,hu,nW]at hs
 |some u=>
  replace hs:=qN _ (ap hu) hs
  cases u with
  |slice e=>
   obtain⟨ik,x,hL,h1⟩:=G4 hs
   obtain⟨ik2,y,hC,h2⟩:=G4 h1
   clear hs h1
   subst hL
   subst hC
   cases hi:P.info? e with
   |none=>simp only[typeInfo,aS,gr,hi,nW]at h2
   |some ti=>
    have h3:=qN _ (bc hi) h2
    clear h2
    have hsz:bq P (sizeOf e)=some ti.size:=by
     unfold sizeOf
     rw[bo _ _ (bc hi)]
     rfl
    dsimp only at h3
    split at h3
    ·exfalso
     split at h3
     ·exact False.elim h3
     ·split at h3
      ·exact False.elim h3
      ·cases hf:(Question.extern "makeslice.lenOrCap" 2).forced with
       |true=>exact False.elim (h3.1 hf)
       |false=>exact False.elim (h3.2 hf 0)
    ·rename_i hbad
     have h4:=qN _ hsz (Kz h3)
     clear h3
     have fin: ∀zc:Array Value,al P (do pure (.value (←Instr.makeSlice t (.int ik x) (.int ik2 y))):Sem Next)=some (.cells ((Array.range ((IntKind.i64.wrap y).toNat*ti.size)).map (zc[· %zc.size]!)) e,fun g=>pure (.value (.slice (some ⟨g,0,none⟩) (IntKind.i64.wrap x).toNat (IntKind.i64.wrap y).toNat)))→
       swp P I (newRow e ((Array.range ((IntKind.i64.wrap y).toNat*ti.size)).map (zc[· %zc.size]!))>>=fun a=>pure (Value.slice (some a) (IntKind.i64.wrap x).toNat (IntKind.i64.wrap y).toNat)) h R→
       ∃ob F,NW P (do pure (.value (←Instr.makeSlice t (.int ik x) (.int ik2 y))):Sem Next) ob F∧ ∀g,g∉keys h→I g=none→R (F g) ((g,ob)::h):=
      fun zc hal hw=>⟨_,fun g=> .slice (some ⟨g,0,none⟩) (IntKind.i64.wrap x).toNat (IntKind.i64.wrap y).toNat,⟨_,hal,fun g=>rfl⟩,fun g hg hI=>hw g hg hI⟩
     have pre: ∀r,al P (do
        let v←(do
         let n←sizeOf e
         if(IntKind.i64.wrap y).toNat*n=0 then do
           let zero←pure #[]
           let a←newRow e (Array.map (fun x=>zero[x%zero.size]!) (Array.range ((IntKind.i64.wrap y).toNat*n)))
           pure (Value.slice (some a) (IntKind.i64.wrap x).toNat (IntKind.i64.wrap y).toNat)
          else do
           let w←zeroValue e
           let zero←pure w.cells
           let a←newRow e (Array.map (fun x=>zero[x%zero.size]!) (Array.range ((IntKind.i64.wrap y).toNat*n)))
           pure (Value.slice (some a) (IntKind.i64.wrap x).toNat (IntKind.i64.wrap y).toNat):Sem Value)
        pure (Next.value v):Sem Next)=r→al P (do pure (.value (←Instr.makeSlice t (.int ik x) (.int ik2 y))):Sem Next)=r:=by
      rintro r rfl
      unfold Instr.makeSlice
      simp only[bind_assoc]
      rw[jp _ _ (ap hu)]
      simp only[bind_assoc]
      rw[jp (a:=x) _ _ rfl,jp (a:=y) _ _ rfl,jp _ _ (bc hi)]
      rw[if_neg hbad,bind_assoc,LZ]
      simp only[bind_assoc]
     by_cases h0:(IntKind.i64.wrap y).toNat*ti.size=0
     ·rw[if_pos h0]at h4
      refine fin #[] (pre _ ?_) h4
      rw[bind_assoc,jp _ _ hsz,if_pos h0]
      rfl
     ·rw[if_neg h0]at h4
      cases hz:ti.zero with
      |none=>simp only[zeroValue,typeInfo,aS,gr,hi,iF,hz]at h4;exact False.elim h4
      |some z=>
       have hzv:bq P (zeroValue e)=some z:=by
        unfold zeroValue
        rw[bo _ _ (bc hi),hz]
        rfl
       have h5:=qN _ hzv h4
       refine fin z.cells (pre _ ?_) h5
       rw[bind_assoc,jp _ _ hsz,if_neg h0,bind_assoc,jp _ _ hzv]
       rfl
  |_=>exact False.elim hs
theorem SG{rid i:Nat}{o:Oper}{τ:List Value}{kk:Value→Tr}{h:Mem}(hl:dJ I h)(hc:cl cfg rid i o=2)(hh:holds P f I Q (JA P cfg rid i o τ kk) h):
  ∃ob F,NW P (execOp (evl τ) o) ob F∧ ∀g,g∉keys h→I g=none→holds P f I Q (kk (F g)) ((g,ob)::h):=by
 unfold cl at hc
 unfold JA at hh
 split at hc
 ·cases hc
 ·cases hc
 ·rename_i hn
  simp only[hn]at hh
  replace hc:cls o.op=2:=by
   split at hc
   ·cases hc
   ·exact hc
  unfold cls at hc
  obtain⟨dst,op,type,pos,after,guard⟩:=o
  split at hc<;>rename_i hop<;>first|cases hc|skip
  all_goals simp only at hop
  all_goals subst hop
  ·rename_i t
   have hh:=hh hl
   simp only[Instr.alloc,zeroValue,typeInfo,newVar,newRow,aS,gr]at hh
   cases hi:P.info? t with
   |none=>simp only[hi,nW]at hh
   |some ti=>
    simp only[hi,iF]at hh
    cases hz:ti.zero with
    |none=>simp only[hz]at hh;exact hh.elim
    |some z=>
     simp only[hz,iF,zI]at hh
     refine⟨.cells z.cells t,fun g=> .pointer (some ⟨g,0,none⟩),⟨fun g=>pure (.value (.pointer (some ⟨g,0,none⟩))),?_,fun g=>rfl⟩,fun g hg hI=>?_⟩
     ·simp only[execOp,Instr.alloc,zeroValue,typeInfo]
      show al P ((Sem.program .pure>>=fun p=>_):Sem Next)=_
      simp only[al,bind,Sem.bind,hi,pure,hz,newVar,newRow,newObj]
     ·obtain⟨l,h1,h2⟩:=hh g hg hI
      rw[←h1]at h2
      exact h2
  ·rename_i t x
   refine⟨.cells (evl τ x).cells t,fun g=> .pointer (some ⟨g,0,none⟩),⟨_,rfl,fun g=>rfl⟩,fun g hg hI=>?_⟩
   obtain⟨l,h1,h2⟩:=(show∀g,g∉keys h→I g=none→ ∃l,Value.pointer (some ⟨g,0,none⟩)=DB.val l∧holds P f I Q (kk (DB.val l)) ((g,.cells (evl τ x).cells t)::h)from hh hl) g hg hI
   rw[←h1]at h2
   exact h2
  ·rename_i t n ps
   have hh:=hh hl
   simp only[Instr.buildSlice,underlying,sizeOf,zeroValue,typeInfo,newRow,aS,gr]at hh
   cases hu:P.underlying t with
   |none=>simp only[hu,nW]at hh
   |some u=>
    simp only[hu,iF]at hh
    cases u with
    |slice e=>
     simp only[aS,gr]at hh
     cases hi:P.info? e with
     |none=>simp only[hi,nW]at hh
     |some ti=>
      simp only[hi,iF]at hh
      split at hh
      ·exact hh.elim
      ·rename_i hbig
       by_cases h0:n*ti.size=0
       ·cases hf:Instr.fill (fun i=>some (i*ti.size,ti.size)) ((Array.range (n*ti.size)).map ((#[]:Array Value)[· %((#[]:Array Value)).size]!)) (ps.map fun x=>(x.1,evl τ x.2)).toList with
        |none=>simp only[if_pos h0,pure_bind,hf,nW]at hh
        |some cells=>
         simp only[if_pos h0,pure_bind,bind_assoc,hf,aS,zI,iF]at hh
         refine⟨.cells cells e,fun g=> .slice (some ⟨g,0,none⟩) n n,⟨fun g=>pure (.value (.slice (some ⟨g,0,none⟩) n n)),?_,fun g=>rfl⟩,fun g hg hI=>?_⟩
         ·simp only[execOp,Instr.buildSlice,sizeOf,zeroValue,bind_assoc]
          rw[jp _ _ (ap hu)]
          simp only[bind_assoc]
          rw[jp _ _ (bc hi)]
          simp only[pure_bind,if_neg hbig,if_pos h0]
          simp only[hf];rfl
         ·obtain⟨l,h1,h2⟩:=hh g hg hI
          rw[←h1]at h2
          exact h2
       ·cases hzv:ti.zero with
        |none=>simp only[if_neg h0,aS,gr,hi,iF,hzv]at hh;exact hh.elim
        |some z=>
         simp only[if_neg h0,aS,gr,hi,iF,hzv]at hh
         cases hf:Instr.fill (fun i=>some (i*ti.size,ti.size)) ((Array.range (n*ti.size)).map (z.cells[· %(z.cells).size]!)) (ps.map fun x=>(x.1,evl τ x.2)).toList with
         |none=>simp only[pure_bind,hf,nW]at hh
         |some cells=>
          simp only[pure_bind,bind_assoc,hf,aS,zI,iF]at hh
          refine⟨.cells cells e,fun g=> .slice (some ⟨g,0,none⟩) n n,⟨fun g=>pure (.value (.slice (some ⟨g,0,none⟩) n n)),?_,fun g=>rfl⟩,fun g hg hI=>?_⟩
          ·simp only[execOp,Instr.buildSlice,sizeOf,zeroValue,bind_assoc]
           rw[jp _ _ (ap hu)]
           simp only[bind_assoc]
           rw[jp _ _ (bc hi)]
           simp only[pure_bind,if_neg hbig,if_neg h0,bind_assoc]
           rw[jp _ _ (bc hi)];simp only[hzv,pure_bind,hf];rfl
          ·obtain⟨l,h1,h2⟩:=hh g hg hI
           rw[←h1]at h2
           exact h2
    |_=>exact hh.elim
  ·rename_i t lx cx
   obtain⟨ob,F,ha,hk⟩:=S7 (hh hl)
   refine⟨ob,F,ha,fun g hg hI=>?_⟩
   obtain⟨l,h1,h2⟩:=hk g hg hI
   have h2:holds P f I Q (kk (LG.val l)) ((g,ob)::h):=h2
   rw[←h1]at h2
   exact h2
theorem M4{rid:Nat}{ops:Array Oper}{k:List Item}{K:List Value→Kn→Tr}(hK: ∀τ kn h,wk kn τ→holds P f I Q (K τ kn) h→Wp P f k τ I h Q):
  ∀(l:List Nat) (τ:List Value) (kn:Kn) (h:Mem) (pn:Jw),(∀i∈l,i<ops.size)→dJ I h→wk kn τ→holds P f I Q (evR P cfg rid true ops l τ kn pn K) h→
   I7 P I (cfg.un rid) (cl cfg rid) ops l τ h pn (fun τ h _=>Wp P f k τ I h Q):=by
 intro l
 induction l with
 |nil=>intro τ kn h pn _ hl hk hh;exact hK _ _ _ hk hh
 |cons i r ih=>
  intro τ kn h pn hlt hl hk hh
  have hi:=hlt i List.mem_cons_self
  have ho:ops[i]? =some ops[i]:=Array.getElem?_eq_getElem hi
  generalize ops[i]=o at ho
  have hlt': ∀j∈r,j<ops.size:=fun j hj=>hlt j (List.mem_cons_of_mem _ hj)
  simp only[evR,ho,Bool.true_and]at hh
  simp only[I7,ho]
  have run: ∀(τ:List Value) (kn:Kn),wk kn τ→wtd ops o τ=true→holds P f I Q (JA P cfg rid i o τ fun v=>
     z8 (if(cl cfg rid i o==3)=true then List.filter (fun p=>cfg.un rid p.fst i) pn else[])
      (evR P cfg rid true ops r (lT τ o.dst v) (kn.after (cfg.hint rid i).isSome o τ.length) (if(cl cfg rid i o==1)=true then(i,execOp (evl τ) o,v)::pn else pn) K)) h→
    stO P I (cfg.un rid) ops i (cl cfg rid i o) o τ h pn (fun τ' h' pn'=>I7 P I (cfg.un rid) (cl cfg rid) ops r τ' h' pn' (fun τ h _=>Wp P f k τ I h Q)):=by
   intro τ kn hk hw hh
   unfold stO
   rw[if_pos hw]
   have hle:=RD (cfg:=cfg) rid i o
   have sure:cl cfg rid i o≠0→ ∀v,RQ P cfg rid i o τ v:=by
    intro hne v h1 h2
    exfalso
    apply hne
    have h3:cfg.hint rid i=none:=by simpa using h1
    unfold cl
    rw[h3]
    rcases h2 with⟨x,h2|h2⟩|⟨c,x,y,h2⟩<;>rw[h2]<;>simp[SV,cls]
   rcases(show cl cfg rid i o=0∨cl cfg rid i o=1∨cl cfg rid i o=2∨cl cfg rid i o=3 by omega)with hc|hc|hc|hc
   ·obtain⟨v,hv,hsu,hh⟩:=SD hl hc hh
    simp only[hc]
    refine⟨v,hv,ih _ _ _ _ hlt' hl (hk.after (cfg:=cfg) (rid:=rid) (i:=i) (P:=P) hsu) ?_⟩
    simpa[hc,z8]using hh
   ·obtain⟨v,hv,hh⟩:=RT hl hc hh
    simp only[hc]
    refine⟨v,hv,ih _ _ _ _ hlt' hl (hk.after (cfg:=cfg) (rid:=rid) (i:=i) (P:=P) (sure (by omega) v)) ?_⟩
    simpa[hc,z8]using hh
   ·obtain⟨ob,F,ha,hh⟩:=SG hl hc hh
    simp only[hc]
    refine⟨ob,F,ha,fun g hg hI hl'=>ih _ _ _ _ hlt' hl' (hk.after (cfg:=cfg) (rid:=rid) (i:=i) (P:=P) (sure (by omega) (F g))) ?_⟩
    have:=hh g hg hI
    simpa[hc,z8]using this
   ·have hh:=Ea hl hh
    simp only[hc]
    refine m8 hh fun v h' hh hl'=>?_
    obtain⟨h1,h2⟩:=Eu hl' hh
    refine⟨fun p hp hu=>h1 p ?_,ih _ _ _ _ hlt' hl' (hk.after (cfg:=cfg) (rid:=rid) (i:=i) (P:=P) (sure (by omega) v)) ?_⟩
    ·simp only[hc,beq_self_eq_true,if_true,List.mem_filter];exact⟨hp,hu⟩
    ·simpa[hc]using h2
  have skp: ∀(τ:List Value) (kn:Kn),wk kn τ→wtd ops o τ=false→holds P f I Q (evR P cfg rid true ops r (lT τ o.dst undef) (kn.undef o.dst) pn K) h→
    stO P I (cfg.un rid) ops i (cl cfg rid i o) o τ h pn (fun τ' h' pn'=>I7 P I (cfg.un rid) (cl cfg rid) ops r τ' h' pn' (fun τ h _=>Wp P f k τ I h Q)):=by
   intro τ kn hk hw hh
   unfold stO
   rw[if_neg (by simp[hw])]
   exact ih _ _ _ _ hlt' hl (hk.undef o.dst) hh
  cases hg:o.guard with
  |none=>
   simp only[hg]at hh
   exact run τ kn hk (by simp[wtd,Region.wanted,hg]) hh
  |some jw=>
   obtain⟨j,want⟩:=jw
   simp only[hg]at hh
   cases hd:(ops[j]?).bind (·.dst)with
   |none=>simp only[hd]at hh;exact(hh hl).elim
   |some d=>
    simp only[hd]at hh
    have hy:=C6 (τ:=τ) hd
    cases hlk:kn.lookup d with
    |some x=>
     have hx:=hk d x hlk
     cases x with
     |some b=>
      simp only[hlk]at hh
      simp only at hx
      have hwd:wtd ops o τ=(b==want):=by
       simp only[wtd,Region.wanted,hg,hy,hx];cases b<;>cases want<;>rfl
      split at hh
      ·rename_i hb;exact run τ kn hk (hwd.trans hb) hh
      ·rename_i hb;exact skp τ kn hk (hwd.trans (by simpa using hb)) hh
     |none=>
      simp only[hlk]at hh
      simp only at hx
      exact skp τ kn hk (by simp only[wtd,Region.wanted,hg,hy,hx];cases want<;>rfl) hh
    |none=>
     simp only[hlk]at hh
     split at hh
     ·rename_i b hb
      have hwd:wtd ops o τ=(b==want):=by
       simp only[wtd,Region.wanted,hg,hy,hb];cases b<;>cases want<;>rfl
      have hne:Value.bool b≠undef:=by simp[undef]
      have hs:=Jt hb hne
      split at hh
      ·rename_i hwt
       subst hwt
       cases b with
       |true=>have h1:=(hh hl).1 rfl;simp only[hs]at h1;exact run τ _ (hk.know hb) (hwd.trans rfl) h1
       |false=>have h1:=(hh hl).2 rfl;simp only[hs]at h1;exact skp τ _ (hk.know hb) (hwd.trans rfl) h1
      ·rename_i hwt
       have hwf:want=false:=by simpa using hwt
       subst hwf
       cases b with
       |true=>have h1:=(hh hl).1 rfl;simp only[hs]at h1;exact skp τ _ (hk.know hb) (hwd.trans rfl) h1
       |false=>have h1:=(hh hl).2 rfl;simp only[hs]at h1;exact run τ _ (hk.know hb) (hwd.trans rfl) h1
     ·exact(hh hl).elim
theorem Pn(hm:P.follows .mixedOrders=true):Mu P f I Q cfg:=by
 intro id ops l k τ kn h K hK hfav hk hh
 refine Wp.live fun hl=>?_
 obtain⟨hF,hP,hlen,hall,hlt⟩:=O5 hfav
 have hr:=M4 (rid:=id) hK l τ kn h [] hlt hl hk hh
 intro w0 K0 w hi b cs hb hkd hrd
 have hw:Wp P f (.inRegion ops (Region.linearise .any ops (w.tape w.drawn (.order b.fn id)))::k) τ I h Q:=by
  unfold Region.linearise
  refine Rq hF _ _ _ l τ h [] (by simp) (fun i hi=>?_) hlt (fun i hi hni=>absurd (hall i hi) hni) hP (by omega) hl hr
  have:i<(Array.replicate ops.size false).size:=by simpa using hi
  simp[Array.getD,hi,hall i hi]
 obtain⟨v,h',w',hq,hi',hs⟩:=hw w0 K0 _ (hi.draw (w.drawn+1) (Nat.le_succ _)) b cs hb hkd hrd
 refine⟨v,h',w',hq,hi',xm.head stepR_region_draw ?_⟩
 simpa only[Region.schedule,hm,Bool.true_or,if_true]using hs
theorem IX{fn:Func}{todo:List Item}{τ:List Value}{h:Mem}{t:Tr}(hfn:cfg.stopRet=true∨(f.rd=none∧f.ds=[]))(n:Nat)(ht:ev P cfg n todo τ []=t)(hf:P.funcs[f.fn]? =some fn)(hres:cfg.results=fn.results.toList)
  (hm:P.follows .mixedOrders=true)(hh:holds P f I Q t h):Wp P f todo τ I h Q:=by
 subst ht
 exact N4 hfn hf hres (Pn hm) n todo τ [] h (wk.nil τ) hh
theorem Fb{g:FuncId}{fn:Func}{todo:List Item}{τ:List Value}{h:Mem}{t:Tr}(n:Nat)(ht:ev P cfg n todo τ []=t)(hf:P.funcs[g]? =some fn)(hres:cfg.results=fn.results.toList)
  (hm:P.follows .mixedOrders=true)(hh:holds P {fn:=g} I Q t h):Wp P {fn:=g} todo τ I h Q:=IX (.inr ⟨rfl,rfl⟩) n ht hf hres hm hh
end
def sl:Code→Code| .seq a _=>a|c=>c
def sr:Code→Code| .seq _ b=>b|c=>c
def ct:Code→Code| .cond _ a _=>a|c=>c
def ce:Code→Code| .cond _ _ b=>b|c=>c
def ra:Code→Code| .rangeFunc _ _ a _=>a|c=>c
def rb:Code→Code| .rangeFunc _ _ _ b=>b|c=>c
def bd:Code→Code| .block _ c=>c| .loop c=>c| .scope c=>c|c=>c
def md(pre:Nat→List (List Nat))(r i j:Nat):Bool:= !(((pre r).getD j []).contains i)&& !(((pre r).getD i []).contains j)
def uN(s:Sem Unit):Sem Next:=do s;pure .skip
def FU(x:Value):Sem Next:=execOp (fun _=>x) {dst:=none,op:= .nilCheck (.tmp 0),type:=0,pos:= "",after:=#[],guard:=none}
def Dr(x:Value)(name:String)(args:List Value):Sem Next:=invoke (.fn (.method name) #[]) (#[x]++⟨args⟩)
def Ga(f:Value)(args:List Value):Sem Next:=do let d←Deferred.ofValue f ⟨args⟩;invoke d.target d.args
def vN(s:Sem Value):Sem Next:=do pure (.value (←s))
def eqN(op:BinOp)(t:TypeId)(x y:Operand)(a b:Value):Sem Next:=vN (do eqGuard op t x y a b;binOp op t a b)
def D6(op:BinOp)(t:TypeId)(a b:Value):Sem Next:=vN (do eqGuard op t (.tmp 0) (.tmp 0) a b;binOp op t a b)
def KN(src dst:TypeId)(x:Value):Sem Next:=vN (convert src dst x)
def iC(P:Program)(t:TypeId):Option Value:=(P.info? t).bind (·.zero)
structure oZ (P:Program) (ts e:TypeId) (sz by_:Nat) (z:Value):Prop where
 u:P.underlying ts=some (.slice e)
 i:(P.info? e).map (fun i=>(i.size,i.bytes,i.zero))=some (sz,by_,some z)
 z:z.cells.size=sz
def oh(op:BinOp)(k:IntKind)(x y:Int):Int:=
 let a:=BitVec.ofInt k.bits x
 let b:=BitVec.ofInt k.bits y
 match op with
 | .and=>k.wrap (a&&& b).toNat
 | .or=>k.wrap (a|||b).toNat
 | .xor=>k.wrap (a^^^b).toNat
 | .andNot=>k.wrap (a&&& ~~~b).toNat
 |_=>0
abbrev LI:=List Item
abbrev LF:=Nat→jT
def lr(n:Nat):List Nat:=List.range n
abbrev rP(t:TypeId)(x:Addr)(s:Sh)(k:LF→Tr):Tr:= .rd (Instr.loadAt t (.pointer (some x))) s k
abbrev uP(t:TypeId)(x:Addr)(v:Value)(k:Tr):Tr:= .unit (Instr.storeAt t (.pointer (some x)) v) k
abbrev nN(x:Value)(k:LF→Tr):Tr:= .rdn (FU x) (.one (.sc .padr)) k
abbrev xB(t:TypeId)(x:Value)(k:LF→Tr):Tr:= .sem (Instr.box t x) DB k
abbrev xA(t:TypeId)(k:LF→Tr):Tr:= .sem (Instr.alloc t true (.tuple #[])) DB k
abbrev iA(t:TypeId)(x i:Value)(k:LF→Tr):Tr:= .rd (Instr.indexAt t x i) (.one (.sc .padr)) k
abbrev pP(t:TypeId)(x:Addr)(v:Value)(k:Tr):Tr:= .pin (vN (Instr.loadAt t (.pointer (some x)))) v k
def tl(n:Nat)(u:Nat→Value)(l:List (Nat×Value)):List Value:=(List.range n).map fun i=>match l.find? (fun p=>p.1==i)with|some p=>p.2|none=>u i
def zp:Tr→Tr→Tr
 | .done v,.done w=> .done w
 | .stop k l,.stopU k' T=> .stop k' (T fun i=>l.getD i undef)
 | .ite b x y,.ite b' x' y'=> .ite b' (zp x x') (zp y y')
 | .rd s sh k,.rd s' sh' k'=> .rd s' sh' fun l=>zp (k l) (k' l)
 | .sem s sh k,.sem s' sh' k'=> .sem s' sh' fun l=>zp (k l) (k' l)
 | .unit s k,.unit s' k'=> .unit s' (zp k k')
 | .nx s sh k,.nx s' sh' k'=> .nx s' sh' fun l=>zp (k l) (k' l)
 | .gen s sh k,.gen s' sh' k'=> .gen s' sh' fun l=>zp (k l) (k' l)
 | .rdn s sh k,.rdn s' sh' k'=> .rdn s' sh' fun l=>zp (k l) (k' l)
 | .call g a sh k,.call g' a' sh' k'=> .call g' a' sh' fun l=>zp (k l) (k' l)
 | .pcall g a sh k,.pcall g' a' sh' k'=> .pcall g' a' sh' fun l=>zp (k l) (k' l)
 | .yld l a k,.yld l' a' k'=> .yld l' a' fun b=>zp (k b) (k' b)
 | .pin s v k,.pin s' v' k'=> .pin s' v' (zp k k')
 | .stuck,.stuck=> .stuck
 | .stuck,_=> .done undef
 |_,_=> .stuck
section
variable {P:Program} {I:Ctx} {f:Ctl} {Q:Value→Mem→Prop}
theorem SZ: ∀(A t:Tr) (h:Mem),zp A t=A→holds P f I Q t h→holds P f I Q A h:=by
 intro A
 induction A with
 |done v=>intro t h hz ht;cases t<;>simp only[zp,reduceCtorEq]at hz;injection hz with e;subst e;exact ht
 |stop k l=>intro t h hz ht;cases t<;>simp only[zp,reduceCtorEq]at hz;injection hz with e1 e2;subst e1;intro hl;rw[←e2];exact ht hl _
 |stopU k l=>intro t h hz ht;cases t<;>simp only[zp,reduceCtorEq]at hz
 |ite b x y ihx ihy=>intro t h hz ht;cases t<;>simp only[zp,reduceCtorEq]at hz;injection hz with e1 e2 e3;subst e1;exact fun hl=>⟨fun hb=>ihx _ _ e2 ((ht hl).1 hb),fun hb=>ihy _ _ e3 ((ht hl).2 hb)⟩
 |rd s sh k ih=>intro t h hz ht;cases t<;>simp only[zp,reduceCtorEq]at hz;injection hz with e1 e2 e3;subst e1;subst e2;exact fun hl=>jk _ (ht hl) fun v ⟨l,hv,hk⟩=>⟨l,hv,ih l _ _ (congrFun e3 l) hk⟩
 |sem s sh k ih=>intro t h hz ht;cases t<;>simp only[zp,reduceCtorEq]at hz;injection hz with e1 e2 e3;subst e1;subst e2;exact fun hl=>cL _ (ht hl) fun v h' ⟨l,hv,hk⟩=>⟨l,hv,ih l _ _ (congrFun e3 l) hk⟩
 |unit s k ih=>intro t h hz ht;cases t<;>simp only[zp,reduceCtorEq]at hz;injection hz with e1 e2;subst e1;exact fun hl=>cL _ (ht hl) fun v h' hk=>ih _ _ e2 hk
 |nx s sh k ih=>intro t h hz ht;cases t<;>simp only[zp,reduceCtorEq]at hz;injection hz with e1 e2 e3;subst e1;subst e2;exact fun hl=>cL _ (ht hl) fun v h' ⟨l,hv,hk⟩=>⟨l,hv,ih l _ _ (congrFun e3 l) hk⟩
 |gen s sh k ih=>intro t h hz ht;cases t<;>simp only[zp,reduceCtorEq]at hz;injection hz with e1 e2 e3;subst e1;subst e2;exact fun hl=>cL _ (ht hl) fun v h' hn=>E6 hn fun v h2 ⟨l,hv,hk⟩=>⟨l,hv,ih l _ _ (congrFun e3 l) hk⟩
 |rdn s sh k ih=>intro t h hz ht;cases t<;>simp only[zp,reduceCtorEq]at hz;injection hz with e1 e2 e3;subst e1;subst e2;exact fun hl=>jk _ (ht hl) fun v ⟨l,hv,hk⟩=>⟨l,hv,ih l _ _ (congrFun e3 l) hk⟩
 |call g a sh k ih=>
  intro t h hz ht;cases t<;>simp only[zp,reduceCtorEq]at hz;injection hz with e1 e2 e3 e4;subst e1;subst e2;subst e3
  intro hl;obtain⟨hc',hc,hr,hp,hf⟩:=ht hl
  exact⟨hc',hc,hr,hp,hf.mono fun v h1 ⟨l,hv,hk⟩=>⟨l,hv,ih l _ _ (congrFun e4 l) hk⟩⟩
 |pcall g a sh k ih=>
  intro t h hz ht;cases t<;>simp only[zp,reduceCtorEq]at hz;injection hz with e1 e2 e3 e4;subst e1;subst e2;subst e3
  intro hl;obtain⟨l,hp,hk⟩:=ht hl
  exact⟨l,hp,ih l _ _ (congrFun e4 l) hk⟩
 |yld l a k ih=>
  intro t h hz ht;cases t<;>simp only[zp,reduceCtorEq]at hz;injection hz with e1 e2 e3;subst e1;subst e2
  intro hl;obtain⟨r,hr,hlen,hc,hr',hp,hf⟩:=ht hl
  exact⟨r,hr,hlen,hc,hr',hp,hf.mono fun v h1 ⟨b,hv,hk⟩=>⟨b,hv,ih b _ _ (congrFun e3 b) hk⟩⟩
 |pin s v k ih=>intro t h hz ht;cases t<;>simp only[zp,reduceCtorEq]at hz;injection hz with e1 e2 e3;subst e1;subst e2;exact fun hl=>⟨(ht hl).1,ih _ _ e3 (ht hl).2⟩
 |stuck=>intro t h hz ht;cases t<;>first|exact ht|simp only[zp,reduceCtorEq]at hz
end
section
variable {I:Ctx} {Q:Value→Mem→Prop} {g:FuncId} {fn:Func} {cfg:Cfg} {todo:List Item} {τ:List Value} {h:Mem} {t:Tr} {rd:Option Nat} {ds:List Deferred} {c:Code}
theorem kE{p:Prop}(h:p:=by kernel_rfl):p:=h
theorem cT{f:FuncId}(hf:Tryz.prog.funcs[f]? =some fn)(h1:(fn.name== "runtime.NumGoroutine")=false:=by kernel_rfl)(h2:fn.body.isNone=false:=by kernel_rfl):af Tryz.prog f:=⟨_,hf,h1,h2⟩
theorem oT(hf:Tryz.prog.funcs[g]? =some fn)(hh:holds Tryz.prog {fn:=g} I Q t h)(ht:ev Tryz.prog cfg 1000 todo τ []=t:=by kernel_rfl)(hr:cfg.results=fn.results.toList:=by rfl):Wp Tryz.prog {fn:=g} todo τ I h Q:=Fb 1000 ht hf hr Tryz.checked.mixed hh
theorem oTU(hf:Tryz.prog.funcs[g]? =some fn)(hh:holds Tryz.prog {fn:=g} I Q t h)(ht:zp (ev Tryz.prog cfg 1000 todo τ []) t=ev Tryz.prog cfg 1000 todo τ []:=by kernel_rfl)(hr:cfg.results=fn.results.toList:=by rfl):Wp Tryz.prog {fn:=g} todo τ I h Q:=Fb 1000 rfl hf hr Tryz.checked.mixed (SZ _ _ _ ht hh)
theorem lTU(hf:Tryz.prog.funcs[g]? =some fn)(hh:holds Tryz.prog {fn:=g,rd:=rd,ds:=ds} I Q t h)(ht:zp (ev Tryz.prog {cfg with stopRet:=true} 1000 todo τ []) t=ev Tryz.prog {cfg with stopRet:=true} 1000 todo τ []:=by kernel_rfl)(hr:cfg.results=fn.results.toList:=by rfl):Wp Tryz.prog {fn:=g,rd:=rd,ds:=ds} todo τ I h Q:=IX (cfg:={cfg with stopRet:=true}) (.inl rfl) 1000 rfl hf hr Tryz.checked.mixed (SZ _ _ _ ht hh)
theorem fT{args:List Value}(hf:Tryz.prog.funcs[g]? =some fn)(hb:fn.body=some c)(hh:holds Tryz.prog {fn:=g} I (cl_ Q) t h)(hnm:(fn.name== "runtime.NumGoroutine")=false:=by kernel_rfl)(ht:ev Tryz.prog cfg 1000 [.code c] (args++List.replicate (fn.ntmps - args.length) undef) []=t:=by kernel_rfl)(hr:cfg.results=fn.results.toList:=by rfl):Fn Tryz.prog g ⟨args⟩ I h Q:=Wp.fn (args:=args) hf hb hnm (Fb 1000 ht hf hr Tryz.checked.mixed hh)
theorem fTU{args:List Value}(hf:Tryz.prog.funcs[g]? =some fn)(hb:fn.body=some c)(hh:holds Tryz.prog {fn:=g} I (cl_ Q) t h)(hnm:(fn.name== "runtime.NumGoroutine")=false:=by kernel_rfl)(ht:zp (ev Tryz.prog cfg 1000 [.code c] (args++List.replicate (fn.ntmps - args.length) undef) []) t=ev Tryz.prog cfg 1000 [.code c] (args++List.replicate (fn.ntmps - args.length) undef) []:=by kernel_rfl)(hr:cfg.results=fn.results.toList:=by rfl):Fn Tryz.prog g ⟨args⟩ I h Q:=Wp.fn (args:=args) hf hb hnm (Fb 1000 rfl hf hr Tryz.checked.mixed (SZ _ _ _ ht hh))
end
abbrev bS:Sh:= .tup []
abbrev aw:Sh:= .one (.sc (.int .i64))
abbrev aQ:Sh:= .one (.sc (.bool))
abbrev Ks:Sh:= .one (.sc (.int .u8))
abbrev Tc:Sh:= .one (.agg [.int .i64,.int .i64,.bool,.int .u8])
abbrev M1:Sh:= .one (.sc (.str))
abbrev Po:Sh:= .one (.sc (.int .u64))
abbrev Tg:Sh:= .one (.agg [.str,.int .u64])
abbrev bZ:Sh:= .one (.sc (.ptr))
abbrev PI:Sh:= .one (.agg [.ptr])
abbrev bV:Sh:= .one (.sc (.v))
abbrev P5:Sh:= .one (.sc (.int .i32))
abbrev ai:Sh:= .one (.sc (.sl))
abbrev i3:Sh:= .one (.agg [.int .i64,.int .i64,.int .i64,.int .i64])
abbrev dt:Sh:= .one (.sc (.int .u32))
abbrev b8:Sh:= .one (.agg [.int .u32,.int .i64])
abbrev CD:Sh:= .one (.sc (.int .u16))
abbrev ug:Sh:= .one (.agg [.int .u32,.int .i64,.int .i64,.int .i64,.int .i64,.int .i64,.int .u16])
abbrev P7:Sh:= .one (.agg [.sl,.sl])
abbrev Si:Sh:= .one (.agg [.sl,.sl,.sl,.sl,.ptr,.int .i64])
abbrev DQ:Sh:= .one (.agg [.int .i64,.int .i64])
abbrev Ro:Sh:= .one (.agg [.sl])
abbrev mW:Sh:= .one (.agg [.int .i64,.int .i64,.int .i64,.sl])
abbrev QN:Sh:= .one (.agg [.v,.v,.v,.v,.v,.v,.v,.v,.v,.v,.v,.v,.v,.v,.v,.v])
abbrev bj:Sh:= .one (.sc (.mp))
abbrev Sb:Sh:= .one (.agg [.int .i64,.v,.v,.v,.v,.v,.v,.v,.v,.v,.v,.v,.v,.v,.v,.v,.v,.sl,.mp,.mp,.mp,.ptr,.sl,.int .i64])
abbrev Kg:Sh:= .one (.agg [.int .i64,.int .i64,.sl,.sl,.int .i64])
abbrev RR:Sh:= .one (.agg [.bool,.int .u32,.int .i64,.int .i64,.int .i64,.int .u16,.int .u16])
abbrev zF:Sh:= .one (.agg [.int .i64,.int .i64,.int .u32,.int .i64])
abbrev R5:Sh:= .one (.agg [.int .i64,.int .i64,.mp,.ptr])
abbrev iY:Sh:= .one (.agg [.int .i64,.int .i64,.int .i64])
abbrev xU:Sh:= .one (.agg [.int .u32,.int .i64,.int .i64,.int .i64,.int .i64,.int .u16])
abbrev QU:Sh:= .one (.agg [.int .i64,.int .i64,.int .u32,.int .u32,.int .u32,.int .i64,.int .i64,.int .i64,.int .i64,.int .u16])
abbrev uA:Sh:= .one (.agg [.int .i64,.bool,.int .u32,.int .u32,.sl])
abbrev C1:Sh:= .one (.agg [.int .u32,.int .i64,.int .i64])
abbrev Rw:Sh:= .one (.agg [.int .i64,.int .i64,.sl])
abbrev RY:Sh:= .one (.agg [.int .i64,.int .i64,.mp])
abbrev R3:Sh:= .one (.agg [.int .u64,.int .i64,.int .i64,.int .u16,.mp,.mp,.mp,.mp])
abbrev R7:Sh:= .one (.agg [.int .i64,.int .i64,.mp,.mp,.sl])
abbrev P8:Sh:= .one (.agg [.int .i64,.int .i64,.int .i64,.bool])
abbrev Rr:Sh:= .one (.agg [.ptr,.ptr,.ptr,.str])
abbrev Qs:Sh:= .one (.agg [])
abbrev RN:Sh:= .one (.agg [.int .u64,.int .u64,.int .u32,.int .u8,.int .u8,.int .u8,.int .u8,.v,.ptr,.int .i32,.int .i32])
abbrev RU:Sh:= .one (.agg [.int .i64,.int .i64,.int .i64,.int .u16])
abbrev Sk:Sh:= .one (.agg [.int .i64,.bool,.sl])
abbrev Sa:Sh:= .one (.agg [.int .u32,.int .i64,.int .u16,.int .u32,.int .i64])
abbrev Qi:Sh:= .one (.agg [.int .i64,.int .u16,.int .i64,.int .i64,.int .u32,.int .i64,.int .u64,.int .u16,.int .i64])
abbrev Sf:Sh:= .one (.agg [.int .i64,.int .i64,.int .u16,.int .i64,.int .i64,.int .u32,.int .i64,.int .u64,.int .u16,.int .i64])
abbrev Sg:Sh:= .one (.agg [.int .u32,.int .i64,.int .u64])
abbrev R1:Sh:= .one (.agg [.int .u16,.int .i64])
abbrev Sl:Sh:= .one (.agg [.sl,.int .u64,.bool,.int .u32])
abbrev RK:Sh:= .one (.agg [.sl,.int .u64,.bool,.int .u32,.sl])
abbrev SW:Sh:= .one (.agg [.int .u8,.int .u8,.int .u8,.int .u8])
abbrev vR:Sh:= .one (.agg [.int .i64,.int .i64,.int .i64,.int .u16,.int .i64])
abbrev RL:Sh:= .one (.agg [.int .u32,.int .i64,.ptr,.mp,.int .i64,.int .i64,.int .i64,.int .u16,.int .i64,.int .i64,.mp])
abbrev RA:Sh:= .one (.agg [.int .i64,.int .i64,.int .i64,.int .u32,.int .u32])
abbrev dU:Sh:= .one (.sc (.padr))
abbrev oK:Sh:= .one (.sc (.row 1))
abbrev OR:Sh:= .one (.sc (.row 0))
abbrev GL:Sh:= .one (.sc (.row 8))
abbrev Hh:Sh:= .one (.sc (.row 3))
abbrev SP:Sh:= .one (.sc (.row 2))
abbrev SR:Sh:= .one (.sc (.row 6))
abbrev Hp:Sh:= .one (.sc (.blk))
end Go.Proofs.YtadanegddceleaaGreatS
