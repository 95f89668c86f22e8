import Derived.Test.YtadanegddceleaaGreatqam
import Derived.Test.YtadanegddceleaaGreatqau
set_option linter.unusedSimpArgs false
set_option linter.unusedVariables false
set_option maxRecDepth 20000
namespace Go.Proofs.YtadanegddceleaaGreatS
theorem OG(rs:List Rt): ∀v∈rs.flatMap Rt.C,(∀x,v≠ .agg x)∧ ∀x,v≠ .tuple x:=by
 intro v hv
 obtain⟨x,_,hx⟩:=List.mem_flatMap.1 hv
 simp at hx
 rcases hx with rfl|rfl|rfl|rfl|rfl|rfl|rfl<;>exact⟨by simp,by simp⟩
theorem Ru(rs:List Rt):(rs.flatMap Rt.C).length=rs.length*7:=by
 induction rs with
 |nil=>rfl
 |cons x rs ih=>rw[List.flatMap_cons,List.length_append,ih,List.length_cons];simp;omega
theorem MN(t:List (Rk×Rt))(p:Int×Int):(ofL t p).length≤1:=by unfold ofL;cases ah t (p,0)<;>simp
theorem Qf(t:List (Rk×Rt))(ps:List (Int×Int)):(ps.flatMap (ofL t)).length≤ps.length:=by
 induction ps with
 |nil=>simp
 |cons p ps ih=>have:=MN t p;rw[List.flatMap_cons,List.length_append,List.length_cons];omega
theorem Mg{I:Ctx}{a:Nat}{t:List (Rk×Rt)}{T:List Nd}{ref:Int}{M b:Nat}{mo:Obj}{A0:Addr}{c0:Nat}{ps:List (Int×Int)}{AP:Option Addr}{cP:Nat}{mP:Mem}(hin:C7 I a t T ref M b mo A0 c0)(hps:Own 45 2 AP ps.length cP (ps.flatMap pfC) mP)(hbd:ps.length≤8589934592):
  ∀(n i:Nat) (A:Option Addr) (c:Nat) (m h gg:Mem) (u:Nat→Value),i+n=ps.length→Own 48 7 A ((ps.take i).flatMap (ofL t)).length c (((ps.take i).flatMap (ofL t)).flatMap Rt.C) m→aM h (mP++m) gg→
  Wp Tryz.prog 50 kl (kf ⟨a,0,none⟩ AP ps.length cP ps.length A ((ps.take i).flatMap (ofL t)).length c i u) I h (cl_ (rN (ps.flatMap (ofL t)))):=by
 intro n
 induction n with
 |zero=>
  intro i A c m h gg u hi ho hp
  rw[List.take_of_length_le (by omega)]at ho⊢
  refine tU _ _ _ _ _ _ _ _ _ _ ?_
  refine b7 (by simp;omega) ?_
  exact aY (h1:=m) (g:=mP++gg) ((List.Perm.trans hp (by rw[List.append_assoc])).trans cE) ⟨A,c,rfl,ho⟩
 |succ n ih=>
  intro i A c m h gg u hi ho hp
  have hlt:i<ps.length:=by omega
  obtain⟨p,hpi⟩: ∃p,ps[i]? =some p:=⟨_,List.getElem?_eq_getElem hlt⟩
  have htk:ps.take (i+1)=ps.take i++[p]:=(ep (List.Perm.refl ps) hpi).2
  have hne:AP≠none:=by
   rintro rfl
   obtain⟨h1,h2,⟨_,h3,_⟩|⟨b,arr,h3,_⟩⟩:=hps
   ·omega
   ·cases h3
  obtain⟨ad,rfl⟩:=Option.ne_none_iff_exists'.1 hne
  have hcell: ∀J k,(∀x∈mP,x∈k)→df J k (ad.add (i*2)) (pfC p):=by
   intro J k hk q v hq
   obtain⟨a2,e1,e2⟩:=hps.rd hk (fun e=>by have:=Jp hpi 0 _ rfl;rw[e]at this;cases this)
   injection e1 with e1
   subst e1
   rw[add_add]
   exact e2 _ v (Jp hpi q v hq)
  have hfl:=Qf t (ps.take i)
  have hfl2:(ps.take i).length≤ps.length:=by rw[List.length_take];omega
  have h1l:=MN t p
  refine Wp.perm (h:=mP++(m++gg)) ?_ (by rw[←List.append_assoc];exact List.Perm.symm hp)
  refine tU _ _ _ _ _ _ _ _ _ _ ?_
  refine aX (by simp;omega) ?_
  refine aI ad rfl (sz:=2) kE (by omega) (by omega) rfl ?_
  dsimp only
  rw[Int.toNat_natCast]
  refine bL (cs:=pfC p) (ag [{i:=p.1},{i:=p.2}]) kE kE (hcell _ _ fun x hx=>List.mem_append_left _ hx) rfl ?_
  dsimp only[ag]
  refine bt Ca fun _ _ _=>?_;dsimp only[ag];refine stU uE kE rE vE ?_;refine lz mE rE kE ?_;dsimp only[ag]
  refine ak [] _ FK (List.Perm.refl _) (fun hl=>Of (p:=p) (hin.plus hl)) ?_
  rintro v h1 ⟨A1,c1,rfl,ho1⟩
  refine⟨fun _=>{A:=A1,n:=(ofL t p).length,c:=c1},rfl,?_⟩
  dsimp only
  refine bP (cl_.aff _) Fc kE (cs2:=(ofL t p).flatMap Rt.C) (ho1.rd (fun x hx=>List.mem_append_left _ hx)) ho1.some_of (Ru _) (OG _) (m:=m) qE ho (by omega) (by omega) ?_
  intro A2 c2 m2 ho2
  refine aj fun _ _=>?_
  rw[dT (by omega)]
  have e:((ps.take (i+1)).flatMap (ofL t))=(ps.take i).flatMap (ofL t)++ofL t p:=by rw[htk,List.flatMap_append,List.flatMap_singleton]
  have ihh:=ih (i+1) A2 c2 m2
  rw[e,List.length_append,List.flatMap_append]at ihh
  exact ihh _ _ _ (by omega) ho2 pE
abbrev QY(t:List (Rk×Rt)):List Rt:=t.map (·.2)
theorem OK{t:List (Rk×Rt)}{T:List Nd}(h:Cb t T):((LH T).flatMap (ofL t)).Perm (QY t):=by
 have hkeys: ∀p,p∈LH T↔p∈t.map (·.2.p):=by
  intro p
  rw[IU h.tr]
  constructor
  ·rintro⟨l,h1,h2⟩
   obtain⟨n,hn⟩:=Option.isSome_iff_exists.1 h1
   obtain⟨q,hq,e⟩:=h.v2 _ _ hn
   obtain⟨_,h3,h4⟩:=h.key q hq
   rw[h2,←e,vc h3 h4]
   exact List.mem_map_of_mem hq
  ·intro hp
   obtain⟨q,hq,rfl⟩:=List.mem_map.1 hp
   obtain⟨_,h3,h4⟩:=h.key q hq
   exact⟨aH q.2.p,by rw[h.v1 q hq];rfl,(vc h3 h4).symm⟩
 have hnd:(t.map (·.2.p)).Nodup:=by
  have hk:=h.nd
  have e:am t=(t.map (·.2.p)).map fun p=>(p,0):=by
   rw[am,List.map_map]
   exact List.map_congr_left fun q hq=>(h.key q hq).1
  rw[e]at hk
  exact(List.pairwise_map.1 hk).imp fun hne e=>hne (by rw[e])
 have hp:(LH T).Perm (t.map (·.2.p)):=(List.perm_ext_iff_of_nodup (Ex h.tr) hnd).2 hkeys
 refine(hp.flatMap_right (ofL t)).trans ?_
 have e: ∀L:List (Rk×Rt),(∀q∈L,q∈t)→(L.map (·.2.p)).flatMap (ofL t)=L.map (·.2):=by
  intro L hL
  induction L with
  |nil=>rfl
  |cons q L ih=>
   rw[List.map_cons,List.flatMap_cons,ih fun q hq=>hL q (List.mem_cons_of_mem _ hq),List.map_cons]
   have h1:=rU h.nd (hL q List.mem_cons_self)
   rw[(h.key q (hL q List.mem_cons_self)).1]at h1
   unfold ofL
   rw[h1]
   rfl
 rw[e t fun q hq=>hq]
theorem CB{I:Ctx}{a:Nat}{t:List (Rk×Rt)}{T:List Nd}{ref:Int}{M b:Nat}{mo:Obj}{A0:Addr}{c0:Nat}(hin:C7 I a t T ref M b mo A0 c0):
  Fn Tryz.prog 50 #[ptV a] I [] (fun v h'=> ∃rs,rs.Perm (QY t)∧rN rs v h'):=by
 obtain⟨fz,hb⟩:=hin.bk
 have hal:=IK hin.ok.tr
 refine E8 _ ?_
 refine ub kE ⟨rfl,_,_,_,.inr hb,rfl⟩ ?_
 refine ak [] [] Bq (List.Perm.refl _) (fun hl=>Kq (hin.t.plus hl) hin.ok.tr) ?_
 rintro v h1 ⟨AP,cP,rfl,ho⟩
 refine⟨fun _=>{A:=AP,n:=(LH T).length,c:=cP},rfl,?_⟩
 refine aj fun _ _=>?_
 refine Wp.mono (Mg (ps:=LH T) hin ho hal (LH T).length 0 none 0 [] _ [] _ (by omega) (Own.nil _ _) pE) ?_
 rintro v h' ⟨h2,g,hp,A,c,rfl,ho2⟩
 exact⟨h2,g,hp,_,OK hin.ok,A,c,rfl,ho2⟩
def J4(l:Ltr):DPk:=⟨l.code,l.seq==1,l.seq.toNat,l.ack.toNat,[⟨l.p.1.toNat,l.p.2,l.v,l.tag.toNat⟩]⟩
def Md(l:Ltr):List UInt8:=(ii (J4 l)).1
structure az where
 S:Type
 ty:Nat
 proto:Int
 M:S→Nat→Mem→Prop
 new:Int→S
 ok:(Int→Prop)→S→Prop
 lok:(Int→Prop)→Ltr→Prop
 bok:List UInt8→Prop
 fu:FuncId
 fd:FuncId
 fo:FuncId
 fr:FuncId
 fv:FuncId
 ft:FuncId
 fa:FuncId
 up:Int→Int→S→S→List Ltr→Prop
 down:Int→Int→S→S→List Ltr→Prop
 own:Int×Int→Int→S→S→List Ltr→Int→Prop
 drop:Int×Int→Int→S→S→List Ltr→Prop
 recv:Int→Int→List UInt8→Int→S→S→List Ltr→Int→Prop
 tick:List Int→Int→S→S→List Pk→List Ltr→Prop
 all:S→List Rt→Prop
abbrev ifV(K:az)(b:Nat):Value:= .iface K.ty (.agg #[ptV b])
def S3(ps:List Pk)(v:Value)(m:Mem):Prop:= ∃A c cs m0 hb,v= .slice A ps.length c∧m=m0++hb∧Own 87 4 A ps.length c cs m0∧nZ (plus noC hb) ps cs
abbrev ui(K:az)(R:K.S→List Ltr→Prop)(b:Nat)(v:Value)(h':Mem):Prop:= ∃s' ls m1 m2,R s' ls∧h'=m1++m2∧K.M s' b m1∧nH ls v m2
abbrev Rf(ks:List Int):List Value:=ks.flatMap fun k=>[Value.int .i64 k]
structure br (K:az):Prop where
 su: ∀b x y,bq Tryz.prog (Dr (ifV K b) "octroi/border.up" [x,y])=some (.enter K.fu #[.agg #[ptV b],x,y])
 sd: ∀b x y,bq Tryz.prog (Dr (ifV K b) "octroi/border.down" [x,y])=some (.enter K.fd #[.agg #[ptV b],x,y])
 so: ∀b x y,bq Tryz.prog (Dr (ifV K b) "octroi/border.own" [x,y])=some (.enter K.fo #[.agg #[ptV b],x,y])
 sr: ∀b x y,bq Tryz.prog (Dr (ifV K b) "octroi/border.drop" [x,y])=some (.enter K.fr #[.agg #[ptV b],x,y])
 sv: ∀b x y z w,bq Tryz.prog (Dr (ifV K b) "octroi/border.receive" [x,y,z,w])=some (.enter K.fv #[.agg #[ptV b],x,y,z,w])
 st: ∀b x y,bq Tryz.prog (Dr (ifV K b) "octroi/border.tick" [x,y])=some (.enter K.ft #[.agg #[ptV b],x,y])
 stn: ∀b,bq Tryz.prog (FU (.func (.method "octroi/border.tick") #[ifV K b] #[]))=some (.value (.func (.method "octroi/border.tick") #[ifV K b] #[]))
 sa: ∀b,bq Tryz.prog (Dr (ifV K b) "All" [])=some (.enter K.fa #[ptV b])
 up: ∀{I N s b m k c},K.M s b m→K.ok N s→Fn Tryz.prog K.fu #[.agg #[ptV b],.int .i64 k,.int .i64 c] I m (ui K (K.up k c s) b)
 down: ∀{I N s b m k now},K.M s b m→K.ok N s→Fn Tryz.prog K.fd #[.agg #[ptV b],.int .i64 k,.int .i64 now] I m (ui K (K.down k now s) b)
 own: ∀{I N s b m p now},K.M s b m→K.ok N s→qb p→Fn Tryz.prog K.fo #[.agg #[ptV b],pfV p,.int .i64 now] I m (fun v h'=> ∃sv e,v= .tuple #[sv,.int .i64 e]∧ui K (fun s' ls=>K.own p now s s' ls e) b sv h')
 drop: ∀{I N s b m p now},K.M s b m→K.ok N s→qb p→Fn Tryz.prog K.fr #[.agg #[ptV b],pfV p,.int .i64 now] I m (ui K (K.drop p now s) b)
 recv: ∀{I N s b m k c now A n cc l},K.M s b m→K.ok N s→K.bok l→RdB I A n l→n≤cc→Fn Tryz.prog K.fv #[.agg #[ptV b],.int .i64 k,.int .i64 c,.slice A n cc,.int .i64 now] I m
  (fun v h'=> ∃sv e,v= .tuple #[.slice none 0 0,sv,.int .i64 e]∧ui K (fun s' ls=>K.recv k c l now s s' ls e) b sv h')
 tick: ∀{I N s b m A c now ks},K.M s b m→K.ok N s→(A=none→ks=[])→RdC I [] A (Rf ks)→ks.length≤32→Fn Tryz.prog K.ft #[.agg #[ptV b],.slice A ks.length c,.int .i64 now] I m
  (fun v h'=> ∃pv sv s' ps ls m1 m2 m3,v= .tuple #[pv,sv]∧K.tick ks now s s' ps ls∧h'=m1++(m2++m3)∧K.M s' b m1∧nH ls sv m2∧S3 ps pv m3)
 all: ∀{I N s b m},K.M s b m→K.ok N s→Fn Tryz.prog K.fa #[ptV b] I m (fun v h'=> ∃rs m1 m2,K.all s rs∧h'=m1++m2∧K.M s b m1∧rN rs v m2)
 make: ∀{I a id cs fz},I a=some (.cells cs 101 fz)→cs[0]? =some (.int .i64 id)→1≤id∧id≤32→Fn Tryz.prog 54 #[ptV a,.agg #[.int .i64 0,.int .i64 K.proto]] I [] (fun v h'=> ∃b,v=ifV K b∧K.M (K.new id) b h')
 new_ok: ∀{N id},1≤id∧id≤32→K.ok N (K.new id)
 up_ok: ∀{N s k c s' ls},K.ok N s→N k→K.up k c s s' ls→K.ok N s'∧ls.length≤100000∧ ∀l∈ls,K.lok N l
 down_ok: ∀{N s k now s' ls},K.ok N s→K.down k now s s' ls→K.ok N s'∧ls.length≤100000∧ ∀l∈ls,K.lok N l
 own_ok: ∀{N s p now s' ls e},K.ok N s→qb p→K.own p now s s' ls e→K.ok N s'∧ls.length≤100000∧ ∀l∈ls,K.lok N l
 drop_ok: ∀{N s p now s' ls},K.ok N s→qb p→K.drop p now s s' ls→K.ok N s'∧ls.length≤100000∧ ∀l∈ls,K.lok N l
 recv_ok: ∀{N s k c l now s' ls e},K.ok N s→K.bok l→K.recv k c l now s s' ls e→K.ok N s'∧ls.length≤100000∧ ∀l∈ls,K.lok N l
 tick_ok: ∀{N s ks now s' ps ls},K.ok N s→(∀k∈ks,N k)→ks.length≤32→K.tick ks now s s' ps ls→K.ok N s'∧ls.length≤100000∧(∀l∈ls,K.lok N l)∧ps.length≤100000∧ ∀q∈ps,N q.t∧K.bok q.B
 all_ok: ∀{N s rs},K.ok N s→K.all s rs→rs.length≤100∧ ∀r∈rs,qb r.p∧r.dom=0
 ltr: ∀{N l},K.lok N l→nw N l∧K.bok (Md l)
 blen: ∀{l},K.bok l→l.length≤1000000
def G9(p:DPk)(e:mV):Ltr:=⟨0,p.code,(p.seq:Nat),(p.ack:Nat),((e.a:Nat),e.n),e.v,(e.tag:Nat)⟩
def JY(l:List UInt8):Option Ltr:=match(jS l).1.es with
 |[e]=>if(jS l).2=0∧(jS l).1.code≠0 then some (G9 (jS l).1 e)else none
 |_=>none
def SY(k:Int)(l:List UInt8)(d d':ao)(ls:List Ltr)(e:Int):Prop:=e=(jS l).2∧match JY l with|some x=>vq k x d d' ls|none=>d'=d∧ls=[]
def aU:az where
 S:=ao
 ty:=163
 proto:=2
 M:=DuB
 new:=fun _=>⟨0,64,[],[]⟩
 ok:=aV
 lok:=nw
 bok:=fun l=>l.length≤1000000
 fu:=326
 fd:=321
 fo:=323
 fr:=322
 fv:=324
 ft:=325
 fa:=283
 up:=fun k c d d' ls=>UpR k ⟨10000,IntKind.i64.wrap (10*c),1⟩ d d' ls
 down:=fun k _ d d' ls=>DK k d d' ls
 own:=fun p _ d d' ls e=>GP p ⟨10000000,0,0⟩ 0 d d' ls e
 drop:=fun p _ d d' ls=> ∃e,zQ p d d' ls e
 recv:=fun k _ l _ d d' ls e=>SY k l d d' ls e
 tick:=fun _ _ d d' ps ls=>ps=[]∧Ju d d' ls
 all:=Rn
theorem dsu{b:Nat}(x y:Value):bq Tryz.prog (Dr (.iface 163 (.agg #[ptV b])) "octroi/border.up" [x,y])=some (.enter 326 #[.agg #[ptV b],x,y]):=by kernel_rfl
theorem dsd{b:Nat}(x y:Value):bq Tryz.prog (Dr (.iface 163 (.agg #[ptV b])) "octroi/border.down" [x,y])=some (.enter 321 #[.agg #[ptV b],x,y]):=by kernel_rfl
theorem dso{b:Nat}(x y:Value):bq Tryz.prog (Dr (.iface 163 (.agg #[ptV b])) "octroi/border.own" [x,y])=some (.enter 323 #[.agg #[ptV b],x,y]):=by kernel_rfl
theorem dsr{b:Nat}(x y:Value):bq Tryz.prog (Dr (.iface 163 (.agg #[ptV b])) "octroi/border.drop" [x,y])=some (.enter 322 #[.agg #[ptV b],x,y]):=by kernel_rfl
theorem dsv{b:Nat}(x y z w:Value):bq Tryz.prog (Dr (.iface 163 (.agg #[ptV b])) "octroi/border.receive" [x,y,z,w])=some (.enter 324 #[.agg #[ptV b],x,y,z,w]):=by kernel_rfl
theorem dst{b:Nat}(x y:Value):bq Tryz.prog (Dr (.iface 163 (.agg #[ptV b])) "octroi/border.tick" [x,y])=some (.enter 325 #[.agg #[ptV b],x,y]):=by kernel_rfl
theorem dsa{b:Nat}:bq Tryz.prog (Dr (.iface 163 (.agg #[ptV b])) "All" [])=some (.enter 283 #[ptV b]):=by kernel_rfl
theorem Tm{b:Nat}:bq Tryz.prog (FU (.func (.method "octroi/border.tick") #[.iface 163 (.agg #[ptV b])] #[]))=some (.value (.func (.method "octroi/border.tick") #[.iface 163 (.agg #[ptV b])] #[])):=by kernel_rfl
theorem Ps{I:Ctx}{N:Int→Prop}{s:ao}{b:Nat}{m:Mem}{k c:Int}(hm:DuB s b m)(hok:aV N s):Fn Tryz.prog 326 #[.agg #[ptV b],.int .i64 k,.int .i64 c] I m (ui aU (aU.up k c s) b):=by
 have:=hok.few
 refine wc _ _ _ ?_
 refine aP fun y _ _=>?_
 refine ldP mq0 rfl kE ?_
 refine ak m [(y,.cells #[ptV b] 163 (0,0))] Ck (List.perm_append_comm (l₁:=[_])) (fun hl=>QD (k:=k) (v:=⟨10000,IntKind.i64.wrap (10*c),1⟩) hm (by omega)) ?_
 rintro v h1 ⟨d',ls,e,sv,m1,m2,rfl,hu,rfl,hd,A,cc,rfl,ho⟩
 refine⟨ag [{A:=A,n:=ls.length,c:=cc},{i:=e}],rfl,?_⟩
 exact aY (List.Perm.refl _) ⟨d',ls,m1,m2,hu,rfl,hd,A,cc,rfl,ho⟩
theorem Kt{I:Ctx}{N:Int→Prop}{s:ao}{b:Nat}{m:Mem}{k now:Int}(hm:DuB s b m)(hok:aV N s):Fn Tryz.prog 321 #[.agg #[ptV b],.int .i64 k,.int .i64 now] I m (ui aU (aU.down k now s) b):=by
 have:=hok.few
 have:=hok.lkn
 refine tu _ _ _ ?_
 refine aP fun y _ _=>?_
 refine ldP mq0 rfl kE ?_
 refine ak m [(y,.cells #[ptV b] 163 (0,0))] zt (List.perm_append_comm (l₁:=[_])) (fun hl=>L3 (k:=k) hm (by omega) (by omega)) ?_
 rintro v h1 ⟨d',ls,m1,m2,hu,rfl,hd,A,cc,rfl,ho⟩
 refine⟨fun _=>{A:=A,n:=ls.length,c:=cc},rfl,?_⟩
 exact aY (List.Perm.refl _) ⟨d',ls,m1,m2,hu,rfl,hd,A,cc,rfl,ho⟩
theorem Mo{I:Ctx}{N:Int→Prop}{s:ao}{b:Nat}{m:Mem}{p:Int×Int}{now:Int}(hm:DuB s b m)(hok:aV N s)(hp:qb p):Fn Tryz.prog 323 #[.agg #[ptV b],pfV p,.int .i64 now] I m (fun v h'=> ∃sv e,v= .tuple #[sv,.int .i64 e]∧ui aU (fun s' ls=>aU.own p now s s' ls e) b sv h'):=by
 have:=hok.lkn
 refine uR _ _ _ _ ?_
 refine aP fun y _ _=>?_
 refine aP fun y2 _ _=>?_
 refine ldP mE rE kE ?_;dsimp only[ag];refine lz mE rE kE ?_;dsimp only[ag]
 refine ak m _ AA qE (fun hl=>Pr (p:=p) (v:=⟨10000000,0,0⟩) (tag:=0) hm hp (by omega)) ?_
 rintro v h1 ⟨d',ls,e,sv,m1,m2,rfl,hu,rfl,hd,A,cc,rfl,ho⟩
 refine⟨ag [{A:=A,n:=ls.length,c:=cc},{i:=e}],rfl,?_⟩
 exact aY (List.Perm.refl _) ⟨_,e,rfl,d',ls,m1,m2,hu,rfl,hd,A,cc,rfl,ho⟩
theorem Ki{I:Ctx}{N:Int→Prop}{s:ao}{b:Nat}{m:Mem}{p:Int×Int}{now:Int}(hm:DuB s b m)(hok:aV N s)(hp:qb p):Fn Tryz.prog 322 #[.agg #[ptV b],pfV p,.int .i64 now] I m (ui aU (aU.drop p now s) b):=by
 have:=hok.lkn
 refine tp _ _ _ _ ?_
 refine aP fun y _ _=>?_
 refine aP fun y2 _ _=>?_
 refine ldP mE rE kE ?_;dsimp only[ag];refine lz mE rE kE ?_;dsimp only[ag]
 refine ak m _ ze qE (fun hl=>MF (p:=p) hm (by omega)) ?_
 rintro v h1 ⟨d',ls,e,sv,m1,m2,rfl,hu,rfl,hd,A,cc,rfl,ho⟩
 refine⟨ag [{A:=A,n:=ls.length,c:=cc},{i:=e}],rfl,?_⟩
 exact aY (List.Perm.refl _) ⟨d',ls,m1,m2,⟨e,hu⟩,rfl,hd,A,cc,rfl,ho⟩
theorem K4{I:Ctx}{N:Int→Prop}{s:ao}{b:Nat}{m:Mem}{A:Option Addr}{c:Nat}{now:Int}{ks:List Int}(hm:DuB s b m)(hok:aV N s):Fn Tryz.prog 325 #[.agg #[ptV b],.slice A ks.length c,.int .i64 now] I m
  (fun v h'=> ∃pv sv s' ps ls m1 m2 m3,v= .tuple #[pv,sv]∧aU.tick ks now s s' ps ls∧h'=m1++(m2++m3)∧aU.M s' b m1∧nH ls sv m2∧S3 ps pv m3):=by
 have:=hok.few
 have:=hok.lkn
 refine ta _ _ _ _ _ ?_
 refine aP fun y _ _=>?_
 refine ldP mq0 rfl kE ?_
 refine ak m [(y,.cells #[ptV b] 163 (0,0))] yI (List.perm_append_comm (l₁:=[_])) (fun hl=>Lm hm hok.opn (by omega) (by omega)) ?_
 rintro v h1 ⟨d',ls,m1,m2,hu,rfl,hd,A,cc,rfl,ho⟩
 refine⟨fun _=>{A:=A,n:=ls.length,c:=cc},rfl,?_⟩
 exact aY (h1:=m1++(m2++[])) (g:=[(y,.cells #[ptV b] 163 (0,0))]) (by simp) ⟨_,_,d',[],ls,m1,m2,[],rfl,⟨rfl,hu⟩,rfl,hd,⟨A,cc,rfl,ho⟩,none,0,[],[],[],rfl,rfl,Own.nil _ _,rfl⟩
theorem Pz(l:List UInt8)(e:mV)(h:(jS l).1.es=[e]):JY l=if(jS l).2=0∧(jS l).1.code≠0 then some (G9 (jS l).1 e)else none:=by unfold JY;rw[h]
theorem La{I:Ctx}{N:Int→Prop}{s:ao}{b:Nat}{m:Mem}{k c now:Int}{A:Option Addr}{n cc:Nat}{l:List UInt8}(hm:DuB s b m)(hok:aV N s)(hb:l.length≤1000000)(hr:RdB I A n l)(hn:n≤cc):
  Fn Tryz.prog 324 #[.agg #[ptV b],.int .i64 k,.int .i64 c,.slice A n cc,.int .i64 now] I m (fun v h'=> ∃sv e,v= .tuple #[.slice none 0 0,sv,.int .i64 e]∧ui aU (fun s' ls=>aU.recv k c l now s s' ls e) b sv h'):=by
 have hlk:=hok.lkn
 have hln:=hr.len
 refine pW _ _ _ _ _ _ _ ?_
 refine aP fun y _ _=>?_
 refine ak [] _ zA (List.Perm.refl _) (fun hl=>MO (hr.up (fK (m:=[]) hl (List.Perm.refl _))) hn (by omega)) ?_
 rintro v h1 ⟨A1,c1,rfl,ho1,hpok⟩
 generalize hD:jS l=D at ho1 hpok
 refine⟨ag [{i:=D.1.code},{b:=D.1.init},{i:=(D.1.seq:Nat)},{i:=(D.1.ack:Nat)},{A:=A1,n:=D.1.es.length,c:=c1},{i:=D.2}],rfl,?_⟩
 dsimp only[ag]
 have bad:JY l=none→ ∀h gg,aM h m gg→holds Tryz.prog 324 I (cl_ fun v h'=> ∃sv e,v= .tuple #[.slice none 0 0,sv,.int .i64 e]∧ui aU (fun s' ls=>aU.recv k c l now s s' ls e) b sv h') (.done (.tuple #[.slice none 0 0,.slice none 0 0,.int .i64 D.2])) h:=by
  intro h0 h gg hp
  refine dl hp (h2:=m) (List.Perm.refl _) ⟨_,_,rfl,s,[],m,[],⟨by rw[hD],?_⟩,by simp,hm,none,0,rfl,Own.nil _ _⟩
  rw[h0]
  exact⟨rfl,rfl⟩
 refine bt rF fun y3 _ _=>?_
 refine stU uE kE rE vE ?_;dsimp only[ag]
 refine ay (fun t1=>?_) (fun t1=>?_)
 ·have t1:D.2=0:=by simpa using t1
  refine ldI mE rE kE ?_;dsimp only[ag]
  refine ay (fun t2=>?_) (fun t2=>?_)
  ·have t2:D.1.code≠0:=by simpa using t2
   refine ldL mE rE kE ?_;dsimp only[ag]
   refine ay (fun t3=>?_) (fun t3=>?_)
   ·have t3:D.1.es.length=1:=by simp at t3;omega
    obtain⟨e0,he⟩:=List.length_eq_one_iff.1 t3
    have hlt:JY l=some (G9 D.1 e0):=by
     rw[Pz l e0 (by rw[hD,he]),hD,if_pos ⟨t1,t2⟩]
    have heok:=ho1.2 e0 (by rw[he];exact List.mem_singleton.2 rfl)
    obtain⟨ad,rfl⟩: ∃a,A1=some a:=by
     obtain⟨h1,h2,⟨_,h3,_⟩|⟨b,arr,h3,_⟩⟩:=ho1.1
     ·omega
     ·exact⟨_,h3⟩
    have hcell: ∀J h,(∀x∈h1,x∈h)→df J h ad e0.cs:=by
     intro J h hk q v hq
     obtain⟨a2,e1,e2⟩:=ho1.1.rd hk (by rw[he];intro e;cases e)
     injection e1 with e1
     subst e1
     exact e2 q v (by rw[he];simpa using hq)
    refine ldP mE rE kE ?_;dsimp only[ag];refine ldI mE rE kE ?_;dsimp only[ag];refine ldI mE rE kE ?_;dsimp only[ag];refine ldI mE rE kE ?_;dsimp only[ag];refine ldL mE rE kE ?_;dsimp only[ag]
    refine aI ad rfl (sz:=6) kE (by omega) (by omega) rfl ?_
    dsimp only
    refine bL (cs:=e0.cs) e0.ls kE kE (by rw[show(0:Int).toNat*6=0 from rfl,qR];exact hcell _ _ sE) rfl ?_
    have hpf:qb (G9 D.1 e0).p:=⟨⟨by show(0:Int)≤(e0.a:Nat);omega,by have:=heok.a;show((e0.a:Nat):Int)<_;omega⟩,heok.n⟩
    refine ak m _ zO qE (fun hl=>NI (k:=k) (l:=G9 D.1 e0) hm hpf (by omega)) ?_
    rintro v h2 ⟨d',ls,e,sv,m1,m2,rfl,hu,rfl,hd,A,cc,rfl,ho⟩
    refine⟨ag [{A:=A,n:=ls.length,c:=cc},{i:=e}],rfl,?_⟩
    refine aY (List.Perm.refl _) ⟨_,_,rfl,d',ls,m1,m2,⟨by rw[hD],?_⟩,rfl,hd,A,cc,rfl,ho⟩
    rw[hlt]
    exact hu
   ·refine bad ?_ _ _ pE
    have t3:D.1.es.length≠1:=by simp at t3;omega
    unfold JY
    rw[hD]
    split
    ·rename_i e he;rw[he]at t3;exact absurd rfl t3
    ·rfl
  ·refine bad ?_ _ _ pE
   have t2:D.1.code=0:=by simpa using t2
   unfold JY
   rw[hD]
   split
   ·rw[if_neg fun h=>h.2 t2]
   ·rfl
 ·refine bad ?_ _ _ pE
  have t1: ¬D.2=0:=by simpa using t1
  unfold JY
  rw[hD]
  split
  ·rw[if_neg fun h=>t1 h.1]
  ·rfl
theorem Ih{l:List UInt8}{x:Ltr}(h:JY l=some x): ∃e,(jS l).1.es=[e]∧x=G9 (jS l).1 e∧(jS l).2=0:=by
 unfold JY at h
 split at h
 ·rename_i e he
  split at h
  ·rename_i hc;injection h with h;exact⟨e,he,h.symm,hc.1⟩
  ·cases h
 ·cases h
theorem Q3{N:Int→Prop}{d:ao}{rs:List Rt}(h:aV N d)(ha:Rn d rs):rs.length≤100∧ ∀r∈rs,qb r.p∧r.dom=0:=by
 obtain⟨ps,hps,hal⟩:=ha
 have h1:=hal.len
 have h2:=hps.length_eq
 have h3:=h.few
 refine⟨by simp[am]at h2;omega,?_⟩
 have key: ∀(ps:List (Int×Int)) (rs:List Rt),NY d ps rs→ ∀r∈rs,qb r.p∧r.dom=0:=by
  intro ps
  induction ps with
  |nil=>intro rs e r hr;rw[show rs=[]from e]at hr;cases hr
  |cons p ps ih=>
   rintro rs ⟨x,w,rs2,hx,hw,h2,rfl⟩ r hr
   rcases List.mem_append.1 hr with hr|hr
   ·cases w with
    |none=>cases hr
    |some w=>
     simp only[Option.map_some,Option.toList_some,List.mem_singleton]at hr
     subst hr
     have hk:=h.kn p x hx
     exact⟨by show qb x.p;rw[hk.px];exact hk.pf,h.dom⟩
   ·exact ih rs2 h2 r hr
 exact key ps rs hal
theorem ON(l:List UInt8):(Bs l).ok∧ ∀e∈(Bs l).es,e.ok:=by
 refine⟨⟨Ad _ _ _,Ad _ _ _⟩,fun e he=>?_⟩
 obtain⟨x,_,rfl⟩:=List.mem_map.1 he
 exact Dk x
theorem O7(l:List UInt8):(jS l).1.ok∧ ∀e∈(jS l).1.es,e.ok:=by
 have h0:vm.ok∧ ∀e∈vm.es,e.ok:=⟨lp,fun e he=>by cases he⟩
 unfold jS
 split
 ·exact h0
 ·split
  ·exact h0
  ·split
   ·exact h0
   ·split
    ·exact ON l
    ·exact h0
theorem QJ(l:Ltr):(Md l).length≤816:=by
 unfold Md ii
 split
 ·simp
 ·split
  ·simp
  ·rename_i h _
   have:=qU (J4 l)
   simp[J4]at this⊢
   omega
theorem SN{I:Ctx}{a:Nat}{id:Int}{cs:Array Value}{fz:Nat×Nat}:Fn Tryz.prog 54 #[ptV a,.agg #[.int .i64 0,.int .i64 2]] I [] (fun v h'=> ∃b,v= .iface 163 (.agg #[ptV b])∧DuB ⟨0,64,[],[]⟩ b h'):=by
 refine vX _ _ _ ?_
 refine aP fun _ _ _=>?_;dsimp only[ag];refine ldI mE rE kE ?_;dsimp only[ag]
 refine b7 rfl ?_
 refine b7 rfl ?_
 refine aX rfl ?_
 refine ldI mE rE kE ?_;dsimp only[ag]
 refine ak [] _ HW (List.Perm.refl _) (fun hl=>Mw) ?_
 rintro v h1 ⟨a,rfl,lo,po,hd⟩
 refine⟨fun _=>{A:=some ⟨a.b,0,none⟩},rfl,?_⟩
 exact aY (List.Perm.refl _) ⟨a.b,rfl,a,lo,po,rfl,hd⟩
theorem gP:br aU where
 su:=fun b x y=>dsu x y
 sd:=fun b x y=>dsd x y
 so:=fun b x y=>dso x y
 sr:=fun b x y=>dsr x y
 sv:=fun b x y z w=>dsv x y z w
 st:=fun b x y=>dst x y
 stn:=fun b=>Tm
 sa:=fun b=>dsa
 up:=fun hm hok=>Ps hm hok
 down:=fun hm hok=>Kt hm hok
 own:=fun hm hok hp=>Mo hm hok hp
 drop:=fun hm hok hp=>Ki hm hok hp
 recv:=fun hm hok hb hr hn=>La hm hok hb hr hn
 tick:=fun hm hok _ _ _=>K4 hm hok
 all:=fun hm hok=>by
  have:=hok.few
  have:=hok.lkn
  exact MK hm (by omega) (by omega)
 make:=fun _ _ _=>SN (id:=0) (cs:=#[]) (fz:=(0,0))
 new_ok:=fun _=>⟨List.nodup_nil,List.nodup_nil,(fun k hk=>by cases hk),(fun k l hl=>by cases hl),rfl,rfl,(show 0≤64 by decide),(fun p x hx=>by cases hx)⟩
 up_ok:=fun h hN hu=>let⟨a,b,c⟩:=PW h hN hu;⟨a,by omega,c⟩
 down_ok:=fun h hu=>let⟨a,b,c⟩:=Jc h hu;⟨a,by omega,c⟩
 own_ok:=fun h hp hu=>let⟨a,b,c⟩:=MU h hp ⟨by decide,by decide⟩ hu;⟨a,by omega,c⟩
 drop_ok:=fun h _ ⟨_,hu⟩=>let⟨a,b,c⟩:=Je h hu;⟨a,by omega,c⟩
 recv_ok:=fun {N s k c l now s' ls e} h hb hu=>by
  obtain⟨_,hu⟩:=hu
  split at hu
  ·rename_i x hx
   obtain⟨e0,he,rfl,_⟩:=Ih hx
   obtain⟨h1,h2⟩:=O7 l
   have heok:=h2 e0 (by rw[he];exact List.mem_singleton.2 rfl)
   have hs:=h1.seq
   obtain⟨a,b,c⟩:=IM h ⟨⟨by show(0:Int)≤(e0.a:Nat);omega,by have:=heok.a;show((e0.a:Nat):Int)<_;omega⟩,heok.n⟩ ⟨by show(0:Int)≤(e0.tag:Nat);omega,by have:=heok.tag;show((e0.tag:Nat):Int)<_;omega⟩ ⟨by show(0:Int)≤(((jS l).1.seq:Nat):Int);omega,by show((((jS l).1.seq:Nat)):Int)<_;omega⟩ hu
   exact⟨a,by omega,c⟩
  ·obtain⟨rfl,rfl⟩:=hu
   exact⟨h,by simp,fun l hl=>by cases hl⟩
 tick_ok:=fun h _ _ ⟨hp,hu⟩=>let⟨a,b,c⟩:=Gm h hu;⟨a,by omega,c,by rw[hp];simp,fun q hq=>by rw[hp]at hq;cases hq⟩
 all_ok:=fun h ha=>Q3 h ha
 ltr:=fun h=>⟨h,Nat.le_trans (QJ _) (by decide)⟩
 blen:=fun h=>h
theorem Qw{t:TypeId}{a:Value}{b:Bool}(hd:(match Tryz.prog.underlying t with|some (.interface _)=>true|_=>false)=true)(ha:(a= .nilIface∧b=true)∨ ∃ty v,a= .iface ty v∧b=false):bq Tryz.prog (Op.equal t a .nilIface)=some b:=by
 cases hu:Tryz.prog.underlying t with
 |none=>rw[hu]at hd;cases hd
 |some d=>
  rw[hu]at hd
  cases d<;>first|cases hd|skip
  unfold Op.equal Op.maxDepth
  rw[show(10000:Nat)=9999+1 from rfl,Op.equalIn,bo _ _ (ap hu)]
  rcases ha with⟨rfl,rfl⟩|⟨ty,v,rfl,rfl⟩<;>rfl
theorem ifE{I:Ctx}{h:Mem}{f:Ctl}{Q:Value→Mem→Prop}{k:(Nat→jT)→Tr}{x y:Operand}{ty:Nat}{v:Value}(hk:holds Tryz.prog f I Q (k fun _=>{b:=false}) h):
  holds Tryz.prog f I Q (.rdn (eqN .eql 95 x y (.iface ty v) .nilIface) (.one (.sc .bool)) k) h:=by
 refine k8 _ ?_ hk
 unfold eqN
 refine iq ?_
 refine aB (a:=()) rfl ?_
 show rwp Tryz.prog I h (do pure (Value.bool ((←Op.equal 95 (.iface ty v) .nilIface))):Sem Value) _
 exact aB (Qw kE (.inr ⟨ty,v,rfl,rfl⟩)) rfl
theorem ifN{I:Ctx}{h:Mem}{f:Ctl}{Q:Value→Mem→Prop}{k:(Nat→jT)→Tr}{w:Value}(hk:holds Tryz.prog f I Q (k fun _=>{b:=true}) h):
  holds Tryz.prog f I Q (.rdn (eqN .eql 95 (.tmp 0) (.const w) .nilIface .nilIface) (.one (.sc .bool)) k) h:=by
 refine k8 _ ?_ hk
 unfold eqN
 refine iq ?_
 refine aB (a:=()) rfl ?_
 show rwp Tryz.prog I h (do pure (Value.bool ((←Op.equal 95 .nilIface .nilIface))):Sem Value) _
 exact aB (Qw kE (.inl ⟨rfl,rfl⟩)) rfl
theorem ifM{I:Ctx}{h:Mem}{f:Ctl}{Q:Value→Mem→Prop}{k:(Nat→jT)→Tr}{w:Value}(hk:holds Tryz.prog f I Q (k fun _=>{b:=false}) h):
  holds Tryz.prog f I Q (.rdn (eqN .neq 95 (.tmp 0) (.const w) .nilIface .nilIface) (.one (.sc .bool)) k) h:=by
 refine k8 _ ?_ hk
 unfold eqN
 refine iq ?_
 refine aB (a:=()) rfl ?_
 show rwp Tryz.prog I h (do pure (Value.bool (!(←Op.equal 95 .nilIface .nilIface))):Sem Value) _
 exact aB (Qw kE (.inl ⟨rfl,rfl⟩)) rfl
abbrev Ry(v:Value):Value:= .agg #[v,.nilIface,.nilIface,.nilIface,.nilIface,.nilIface,.nilIface,.nilIface,.nilIface,.nilIface,.nilIface,.nilIface,.nilIface,.nilIface,.nilIface,.nilIface]
theorem Td(v:Value):bq Tryz.prog (Instr.index 96 (Ry v) (.int .i64 0))=some v:=by kernel_rfl
theorem Te(v:Value): ∀i:Nat,1≤i→i<16→bq Tryz.prog (Instr.index 96 (Ry v) (.int .i64 (i:Nat)))=some .nilIface:=by
 intro i h1 h2
 obtain rfl|rfl|rfl|rfl|rfl|rfl|rfl|rfl|rfl|rfl|rfl|rfl|rfl|rfl|rfl:i=1∨i=2∨i=3∨i=4∨i=5∨i=6∨i=7∨i=8∨i=9∨i=10∨i=11∨i=12∨i=13∨i=14∨i=15:=by omega
 all_goals kernel_rfl
theorem JM{I:Ctx}{h:Mem}{f:Ctl}{Q:Value→Mem→Prop}{k:(Nat→jT)→Tr}{t:TypeId}{v w x:Value}(hs:bq Tryz.prog (Instr.index t v x)=some w)
  (hk:holds Tryz.prog f I Q (k fun _=>{v:=w}) h):holds Tryz.prog f I Q (.rd (Instr.index t v x) (.one (.sc .v)) k) h:=FT _ (d8 _ hs rfl) hk
theorem Ji{I:Ctx}{h:Mem}{f:Ctl}{Q:Value→Mem→Prop}{k:(Nat→jT)→Tr}{t:TypeId}{a:Addr}{v:Value}(ht:D2 Tryz.prog t=false)(hc:bh I h a v)(hk:holds Tryz.prog f I Q (k fun _=>{v:=v}) h):holds Tryz.prog f I Q (.rd (Instr.loadAt t (.pointer (some a))) (.one (.sc .v)) k) h:=FT _ (ia ht hc rfl) hk
abbrev Pl:=Int×Int×(Int×Int)
structure dm (S:Type)where
 id:Int
 s:S
 links:List (Pl×Int)
 owns:List (Pl×Bool)
 tab:List (Rk×Rt)
 out:List Pk
 bad:Int
abbrev Q9(K:az)(b:dm K.S)(ps L O C T:Nat)(A:Option Addr)(n c:Nat):Array Value:=
 #[.int .i64 b.id,ifV K ps,.nilIface,.nilIface,.nilIface,.nilIface,.nilIface,.nilIface,.nilIface,.nilIface,.nilIface,.nilIface,.nilIface,.nilIface,.nilIface,.nilIface,.nilIface,.slice none 0 0,.map (some L),.map (some O),.map (some C),ptV T,.slice A n c,.int .i64 b.bad]
abbrev wp(K:az)(b:dm K.S)(ps L O C T:Nat)(A:Option Addr)(c:Nat):Array Value:=Q9 K b ps L O C T A b.out.length c
def cW(K:az)(b:dm K.S)(p:Nat)(m:Mem):Prop:= ∃ps L O C T A c lo oo co cs ms mt mo hb,m=(p,.cells (wp K b ps L O C T A c) 101 (0,0))::(L,lo)::(O,oo)::(C,co)::(ms++(mt++(mo++hb)))∧
 ky FJ (Value.int .i64) b.links lo∧ky FJ Value.bool b.owns oo∧ky FJ Value.bool ([]:List (Pl×Bool)) co∧K.M b.s ps ms∧Lv b.tab T mt∧Own 87 4 A b.out.length c cs mo∧nZ (plus noC hb) b.out cs
theorem En{I:Ctx}{p:Nat}{cs:Array Value}{fz:Nat×Nat}{v:Value}{d:Int}(hI:I p=some (.cells cs 101 fz))(h1:cs[1]? =some v)(hd:d=0∨d<0∨16≤d∨ ∀i:Nat,1≤i→i<16→cs[i+1]? =some .nilIface):
  Fn Tryz.prog 60 #[ptV p,.int .i64 d] I [] (fun w h'=>w=(if d=0 then v else .nilIface)∧h'=[]):=by
 refine vj _ _ ?_
 refine ay (fun t1=>?_) (fun t1=>?_)
 ·have t1:d<0:=by simpa using t1
  exact d9 [] rfl ⟨by rw[if_neg (by omega)],rfl⟩
 ·have t1:0≤d:=by simp at t1;omega
  refine ay (fun t2=>?_) (fun t2=>?_)
  ·have t2:16≤d:=by simp at t2;omega
   exact d9 [] rfl ⟨by rw[if_neg (by omega)],rfl⟩
  ·have t2:d<16:=by simp at t2;omega
   refine ko (e:=95) (sz:=1) (n:=16) kE kE (by omega) (by omega) ?_
   dsimp only
   rw[Nat.mul_one,add_add]
   by_cases e:d=0
   ·subst e
    refine Ji kE ⟨rfl,_,_,_,.inr hI,h1⟩ ?_
    exact d9 [] rfl ⟨rfl,rfl⟩
   ·have h2:cs[d.toNat+1]? =some .nilIface:=by
     rcases hd with hd|hd|hd|hd
     ·exact absurd hd e
     ·omega
     ·omega
     ·exact hd d.toNat (by omega) (by omega)
    rw[kp,show 0+(1+d.toNat)=d.toNat+1 by omega]
    refine Ji kE ⟨rfl,_,_,_,.inr hI,h2⟩ ?_
    exact d9 [] rfl ⟨by rw[if_neg e],rfl⟩
theorem HT{I:Ctx}{K:az}{b:dm K.S}{p:Nat}{m mb:Mem}{k:Int}{A:Option Addr}{n c:Nat}{B:List UInt8}(hm:cW K b p m)(ho:BI A n c B mb)(hbd:b.out.length≤1000000000):
  Fn Tryz.prog 65 #[ptV p,.int .i64 0,.int .i64 k,.slice A n c] I (m++mb) (fun v h'=>v=undef∧cW K {b with out:=b.out++[⟨0,b.id,k,B⟩]} p h'):=by
 obtain⟨ps,L,O,C,T,A0,c0,lo,oo,co,cs,ms,mt,mo,hb,rfl,h1,h2,h3,h4,h5,h6,h7⟩:=hm
 refine Fn.perm (h:=(p,.cells (wp K b ps L O C T A0 c0) 101 (0,0))::(L,lo)::(O,oo)::(C,co)::(ms++(mt++(mo++(hb++mb))))) ?_ cE
 refine mi _ _ _ _ _ _ ?_
 refine ldL mE rE kE ?_;dsimp only[ag];refine ldI mE rE kE ?_;dsimp only[ag]
 refine gK (e:=87) #[.int .i64 0,.int .i64 b.id,.int .i64 k,.slice A n c] kE fun g hg hI=>?_
 dsimp only
 refine bP (cl_.aff _) qI kE (cs2:=[.int .i64 0,.int .i64 b.id,.int .i64 k,.slice A n c]) (fun _=>⟨_,rfl,cw mE rfl⟩) (fun h=>by cases h) rfl (by simp) (m:=mo) qE h6 (by omega) (by omega) ?_
 intro A2 c2 m2 ho2
 refine stU uE kE rE vE ?_;dsimp only[ag]
 refine lE (cl_.aff _) _ (aM.perm (m:=(p,.cells (Q9 K b ps L O C T A2 (b.out.length+1) c2) 101 (0,0))::(L,lo)::(O,oo)::(C,co)::(ms++(mt++(m2++(hb++mb))))) pE) ?_
 refine zS fun hl=>?_
 refine aY (h1:=(p,.cells (Q9 K b ps L O C T A2 (b.out.length+1) c2) 101 (0,0))::(L,lo)::(O,oo)::(C,co)::(ms++(mt++(m2++(hb++mb))))) (g:=[]) (by rw[List.append_nil]) ⟨rfl,ps,L,O,C,T,A2,c2,lo,oo,co,cs++[.int .i64 0,.int .i64 b.id,.int .i64 k,.slice A n c],ms,mt,m2,hb++mb,by simp,h1,h2,h3,h4,h5,?_,?_⟩
 ·rw[List.length_append];exact ho2
 ·have hl2:dJ noC (hb++mb):=by
   have h4:dJ I ((hb++mb)++((p,.cells (Q9 K b ps L O C T A2 (b.out.length+1) c2) 101 (0,0))::(L,lo)::(O,oo)::(C,co)::(ms++(mt++m2)))):=hl.perm cE
   exact h4.left.no
  refine nZ.append (h7.up fun i o hb'=>?_) ⟨_,[],by simp,⟨A,n,c,rfl,?_⟩,rfl⟩
  ·exact aF hl2 (.inl (List.mem_append_left _ (p9 hb')))
  ·exact ho.rdb hl2 (fun x hx=>List.mem_append_right _ hx)
def lpk(id:Int)(l:Ltr):Pk:=⟨0,id,l.to,Md l⟩
theorem ML{ls:List Ltr}{i:Nat}{l:Ltr}(h:ls[i]? =some l): ∀q v,(Ltr.C l)[q]? =some v→(ls.flatMap Ltr.C)[i*10+q]? =some v:=by
 induction ls generalizing i with
 |nil=>simp at h
 |cons x ls ih=>
  intro q v hq
  have hq10:q<10:=(List.getElem?_eq_some_iff.1 hq).1
  rw[List.flatMap_cons]
  cases i with
  |zero=>
   simp at h
   subst h
   rw[Nat.zero_mul,Nat.zero_add,List.getElem?_append_left (show q<(Ltr.C x).length from hq10)]
   exact hq
  |succ i=>
   rw[List.getElem?_append_right (show(Ltr.C x).length≤_ by show 10≤_;omega),show(i+1)*10+q - (Ltr.C x).length=i*10+q by show _ - 10=_;omega]
   exact ih (by simpa using h) q v hq
theorem FZ{I:Ctx}{K:az}{N:Int→Prop}{b:dm K.S}{p:Nat}{ls:List Ltr}{A:Option Addr}{c:Nat}{ml:Mem}(hls:Own 171 10 A ls.length c (ls.flatMap Ltr.C) ml)(hok: ∀l∈ls,nw N l)(hbl:ls.length≤10000000)(hbd:b.out.length≤900000000):
  ∀(n i:Nat) (m h gg:Mem) (u:Nat→Value),i+n=ls.length→cW K {b with out:=b.out++(ls.take i).map (lpk b.id)} p m→aM h (ml++m) gg→
  Wp Tryz.prog 61 dv (dG ⟨p,0,none⟩ 0 A ls.length c i u) I h (cl_ fun v h'=>v=undef∧cW K {b with out:=b.out++ls.map (lpk b.id)} p h'):=by
 intro n
 induction n with
 |zero=>
  intro i m h gg u hi hm hp
  rw[List.take_of_length_le (by omega)]at hm
  refine ja _ _ _ _ _ _ _ ?_
  refine b7 (by simp;omega) ?_
  exact aY (h1:=m) (g:=ml++gg) ((List.Perm.trans hp (by rw[List.append_assoc])).trans cE) ⟨rfl,hm⟩
 |succ n ih=>
  intro i m h gg u hi hm hp
  have hlt:i<ls.length:=by omega
  obtain⟨l,hli⟩: ∃l,ls[i]? =some l:=⟨_,List.getElem?_eq_getElem hlt⟩
  have htk:ls.take (i+1)=ls.take i++[l]:=(ep (List.Perm.refl ls) hli).2
  have hlo:=hok l (List.mem_of_getElem? hli)
  have hne:A≠none:=by
   rintro rfl
   obtain⟨h1,h2,⟨_,h3,_⟩|⟨b,arr,h3,_⟩⟩:=hls
   ·omega
   ·cases h3
  obtain⟨ad,rfl⟩:=Option.ne_none_iff_exists'.1 hne
  have hcell: ∀J k,(∀x∈ml,x∈k)→df J k (ad.add (i*10)) (Ltr.C l):=by
   intro J k hk q v hq
   obtain⟨a2,e1,e2⟩:=hls.rd hk (fun e=>by have:=ML hli 0 _ rfl;rw[e]at this;cases this)
   injection e1 with e1
   subst e1
   rw[add_add]
   exact e2 _ v (ML hli q v hq)
  refine Wp.perm (h:=ml++(m++gg)) ?_ (by rw[←List.append_assoc];exact List.Perm.symm hp)
  refine ja _ _ _ _ _ _ _ ?_
  refine aX (by simp;omega) ?_
  refine aI ad rfl (sz:=10) kE (by omega) (by omega) rfl ?_
  dsimp only
  rw[Int.toNat_natCast]
  refine bL (cs:=Ltr.C l) (ag [{i:=l.to},{i:=l.code},{i:=l.seq},{i:=l.ack},{i:=l.p.1},{i:=l.p.2},{i:=l.v.b},{i:=l.v.d},{i:=l.v.p},{i:=l.tag}]) kE kE (hcell _ _ fun x hx=>List.mem_append_left _ hx) rfl ?_
  dsimp only[ag]
  refine bt EL fun _ _ _=>?_;dsimp only[ag];refine stU uE kE rE vE ?_;refine ldI mE rE kE ?_;dsimp only[ag];refine ldI mE rE kE ?_;dsimp only[ag];refine ldI mE rE kE ?_;dsimp only[ag];refine ldI mE rE kE ?_;dsimp only[ag];refine RH mE rE kE ?_;dsimp only[ag]
  obtain⟨to,code,seq,ack,⟨pa,pn⟩,v,tag⟩:=l
  obtain⟨hto,hseq,hack,⟨hpa,hpn⟩,htag⟩:=hlo
  dsimp only at hseq hack hpa hpn htag hli htk hcell⊢
  obtain⟨seq,rfl⟩: ∃n:Nat,seq=(n:Int):=⟨seq.toNat,by omega⟩
  obtain⟨ack,rfl⟩: ∃n:Nat,ack=(n:Int):=⟨ack.toNat,by omega⟩
  obtain⟨pa,rfl⟩: ∃n:Nat,pa=(n:Int):=⟨pa.toNat,by omega⟩
  obtain⟨tag,rfl⟩: ∃n:Nat,tag=(n:Int):=⟨tag.toNat,by omega⟩
  refine gK (e:=169) ⟨mV.cs ⟨pa,pn,v,tag⟩⟩ kE fun g hg hI=>?_
  dsimp only
  have eP:J4 ⟨to,code,(seq:Nat),(ack:Nat),((pa:Nat),pn),v,(tag:Nat)⟩=⟨code,((seq:Nat):Int)==1,seq,ack,[⟨pa,pn,v,tag⟩]⟩:=by simp[J4]
  refine ak [] _ lg (List.Perm.refl _) (fun hl=>uo (A:=some ⟨g,0,none⟩) (c:=1) (p:=⟨code,((seq:Nat):Int)==1,seq,ack,[⟨pa,pn,v,tag⟩]⟩) ⟨mV.cs ⟨pa,pn,v,tag⟩,RdC.all hl (fun _=>⟨_,rfl,cw mE rfl⟩),?_⟩ ⟨by show seq<_;omega,by show ack<_;omega⟩) ?_
  ·exact⟨_,[],by simp,⟨rfl,by show pa<_;omega,hpn,by show tag<_;omega⟩,rfl⟩
  rintro w h1 ⟨A1,c1,rfl,ho1⟩
  rw[←eP]at ho1⊢
  refine⟨ag [{A:=A1,n:=(Md ⟨to,code,(seq:Nat),(ack:Nat),((pa:Nat),pn),v,(tag:Nat)⟩).length,c:=c1},{i:=(ii (J4 ⟨to,code,(seq:Nat),(ack:Nat),((pa:Nat),pn),v,(tag:Nat)⟩)).2}],rfl,?_⟩
  dsimp only[ag]
  refine ldI mE rE kE ?_;dsimp only[ag]
  refine ak (m++h1) _ lP (aM.perm (m:=m++h1) pE) (fun hl=>HT (k:=to) (B:=Md ⟨to,code,(seq:Nat),(ack:Nat),((pa:Nat),pn),v,(tag:Nat)⟩) hm ho1 (by simp;omega)) ?_
  rintro w h2 ⟨rfl,hm2⟩
  refine⟨fun _=>{},rfl,?_⟩
  refine aj fun _ _=>?_
  rw[dT (by omega)]
  refine ih (i+1) h2 _ _ _ (by omega) ?_ pE
  rw[htk,List.map_append,←List.append_assoc]
  exact hm2
theorem jJ{I:Ctx}{K:az}{N:Int→Prop}{b:dm K.S}{p:Nat}{ls:List Ltr}{sv:Value}{m ml:Mem}(hm:cW K b p m)(hls:nH ls sv ml)(hok: ∀l∈ls,nw N l)(hbl:ls.length≤10000000)(hbd:b.out.length≤900000000):
  Fn Tryz.prog 61 #[ptV p,.int .i64 0,sv] I (m++ml) (fun v h'=>v=undef∧cW K {b with out:=b.out++ls.map (lpk b.id)} p h'):=by
 obtain⟨A,c,rfl,ho⟩:=hls
 refine re _ _ _ _ _ ?_
 refine aj fun _ _=>?_
 refine FZ ho hok hbl hbd ls.length 0 m _ [] _ (by omega) (by simpa using hm) ?_
 unfold aM
 rw[List.append_nil]
 exact List.perm_append_comm
theorem Im:iC Tryz.prog 4=some (.bool false):=by kernel_rfl
def jx(rs:List Rt):List Rt→List (Rk×Rt)→List (Rk×Rt)
 |[],t=>t
 |x::ts,t=>jx rs ts (if x.dom=0∧x.p∉rs.map (·.p)then dq t (x.p,0)else t)
def tL:List Rt→List (Rk×Rt)→List (Rk×Rt)
 |[],t=>t
 |x::rs,t=>tL rs (JF t x)
def PS:List Rt→List ((Int×Int)×Bool)→List ((Int×Int)×Bool)
 |[],l=>l
 |x::rs,l=>PS rs (aL l x.p true)
theorem B4: ∀{rs:List Rt} {x:Rt} {t:List (Rk×Rt)},tL (rs++[x]) t=JF (tL rs t) x
 |[],_,_=>rfl
 |y::rs,x,t=>B4 (rs:=rs)
theorem Ai{rs:List Rt}: ∀{ts:List Rt} {x:Rt} {t:List (Rk×Rt)},jx rs (ts++[x]) t=if x.dom=0∧x.p∉rs.map (·.p)then dq (jx rs ts t) (x.p,0)else jx rs ts t
 |[],_,_=>rfl
 |y::ts,x,t=>Ai (ts:=ts)
theorem G6: ∀{rs:List Rt} {x:Rt} {l:List ((Int×Int)×Bool)},PS (rs++[x]) l=aL (PS rs l) x.p true
 |[],_,_=>rfl
 |y::rs,x,l=>G6 (rs:=rs)
theorem IP: ∀{rs:List Rt} {l:List ((Int×Int)×Bool)} {p:Int×Int},ah (PS rs l) p=if p∈rs.map (·.p)then some true else ah l p
 |[],_,_=>by simp[PS]
 |y::rs,l,p=>by
  rw[PS,IP,aJ,List.map_cons]
  by_cases h:p∈rs.map (·.p)
  ·rw[if_pos h,if_pos (List.mem_cons_of_mem _ h)]
  ·rw[if_neg h]
   by_cases h2:p=y.p
   ·rw[if_pos h2,if_pos (by rw[h2];exact List.mem_cons_self)]
   ·rw[if_neg h2,if_neg (by rw[List.mem_cons,not_or];exact⟨h2,h⟩)]
def Qg(rs:List Rt)(t t':List (Rk×Rt)):Prop:= ∃ts,ts.Perm (QY t)∧t'=tL rs (jx rs ts t)
def Ld(K:az)(b b':dm K.S):Prop:= ∃rs t',K.all b.s rs∧Qg rs b.tab t'∧b'={b with tab:=t'}
theorem JX{ls:List Rt}{i:Nat}{l:Rt}(h:ls[i]? =some l): ∀q v,(Rt.C l)[q]? =some v→(ls.flatMap Rt.C)[i*7+q]? =some v:=by
 induction ls generalizing i with
 |nil=>simp at h
 |cons x ls ih=>
  intro q v hq
  have hq7:q<7:=(List.getElem?_eq_some_iff.1 hq).1
  rw[List.flatMap_cons]
  cases i with
  |zero=>
   simp at h
   subst h
   rw[Nat.zero_mul,Nat.zero_add,List.getElem?_append_left (show q<(Rt.C x).length from hq7)]
   exact hq
  |succ i=>
   rw[List.getElem?_append_right (show(Rt.C x).length≤_ by show 7≤_;omega),show(i+1)*7+q - (Rt.C x).length=i*7+q by show _ - 7=_;omega]
   exact ih (by simpa using h) q v hq
theorem yO{rs:List Rt}{i:Nat}{x:Rt}{A:Option Addr}{c:Nat}{ml:Mem}(ho:Own 48 7 A rs.length c (rs.flatMap Rt.C) ml)(h:rs[i]? =some x): ∃a,A=some a∧ ∀J k,(∀x∈ml,x∈k)→df J k (a.add (i*7)) (Rt.C x):=by
 obtain⟨h1,h2,⟨_,h3,_⟩|⟨b,arr,h3,_⟩⟩:=id ho
 ·have:=(List.getElem?_eq_some_iff.1 h).1;omega
 ·refine⟨_,h3,fun J k hk q v hq=>?_⟩
  obtain⟨a2,e1,e2⟩:=ho.rd (I:=J) hk (fun e=>by have:=JX h 0 _ rfl;rw[e]at this;cases this)
  rw[h3]at e1
  injection e1 with e1
  subst e1
  rw[add_add]
  exact e2 _ v (JX h q v hq)
theorem cW.rib{K:az}{b:dm K.S}{p:Nat}{m:Mem}(h:cW K b p m): ∃T mt mz,m.Perm (mt++mz)∧Lv b.tab T mt∧(∃cs fz,(p,Obj.cells cs 101 fz)∈mz∧cs[21]? =some (ptV T))∧ ∀t' mt',Lv t' T mt'→ ∃m',cW K {b with tab:=t'} p m'∧m'.Perm (mt'++mz):=by
 obtain⟨ps,L,O,C,T,A0,c0,lo,oo,co,cs,ms,mt,mo,hb,rfl,h1,h2,h3,h4,h5,h6,h7⟩:=h
 refine⟨T,mt,(p,.cells (wp K b ps L O C T A0 c0) 101 (0,0))::(L,lo)::(O,oo)::(C,co)::(ms++(mo++hb)),cE,h5,⟨_,_,List.mem_cons_self,rfl⟩,fun t' mt' h=>?_⟩
 exact⟨(p,.cells (wp K {b with tab:=t'} ps L O C T A0 c0) 101 (0,0))::(L,lo)::(O,oo)::(C,co)::(ms++(mt'++(mo++hb))),⟨ps,L,O,C,T,A0,c0,lo,oo,co,cs,ms,mt',mo,hb,rfl,h1,h2,h3,h4,h,h6,h7⟩,(show List.Perm ((p,Obj.cells (wp K b ps L O C T A0 c0) 101 (0,0))::(L,lo)::(O,oo)::(C,co)::(ms++(mt'++(mo++hb)))) _ from cE)⟩
theorem aM.tail1{h a c c' g:Mem}(p:aM h (a++c) g)(q:c'.Perm c):aM h (a++c') g:=List.Perm.trans p ((q.symm.append_left a).append_right g)
theorem aM.tail3{h a b d c c' g:Mem}(p:aM h (a++(b++(d++c))) g)(q:c'.Perm c):aM h (a++(b++(d++c'))) g:=List.Perm.trans p ((((q.symm.append_left d).append_left b).append_left a).append_right g)
theorem Oe{I:Ctx}{p:Nat}{v0:Value}{Q:Value→Mem→Prop}: ∀(n i:Nat) (h m gg:Mem) (u:Nat→Value),i+n=16→1≤i→aM h m gg→Q undef m→
  Wp Tryz.prog 82 dh (dg ⟨p,0,none⟩ v0 .nilIface .nilIface .nilIface .nilIface .nilIface .nilIface .nilIface .nilIface .nilIface .nilIface .nilIface .nilIface .nilIface .nilIface .nilIface i u) I h (cl_ Q):=by
 intro n
 induction n with
 |zero=>
  intro i h m gg u hi h1 hp hq
  refine gM _ _ _ _ _ _ _ _ _ _ _ _ _ _ _ _ _ _ _ ?_
  refine b7 (by simp;omega) ?_
  exact aY hp hq
 |succ n ih=>
  intro i h m gg u hi h1 hp hq
  refine gM _ _ _ _ _ _ _ _ _ _ _ _ _ _ _ _ _ _ _ ?_
  refine aX (by simp;omega) ?_
  refine JM (Te v0 i h1 (by omega)) ?_
  refine ifN ?_
  refine aX rfl ?_
  refine aj fun _ _=>?_
  rw[dT (by omega)]
  exact ih (i+1) _ _ _ _ (by omega) (by omega) hp hq
theorem Rz{I:Ctx}{K:az}{b:dm K.S}{p:Nat}{v0:Value}{rs:List Rt}{A:Option Addr}{c:Nat}{mr:Mem}{t0:List (Rk×Rt)}{Q:Value→Mem→Prop}(hrs:Own 48 7 A rs.length c (rs.flatMap Rt.C) mr)(hbd:rs.length≤1000000)(hok: ∀x∈rs,qb x.p∧x.dom=0)
  (hQ: ∀m,cW K {b with tab:=tL rs t0} p m→Q undef m):
  ∀(n i:Nat) (m h gg:Mem) (u:Nat→Value),i+n=rs.length→cW K {b with tab:=tL (rs.take i) t0} p m→aM h (mr++m) gg→
  Wp Tryz.prog 82 eC (eM ⟨p,0,none⟩ v0 .nilIface .nilIface .nilIface .nilIface .nilIface .nilIface .nilIface .nilIface .nilIface .nilIface .nilIface .nilIface .nilIface .nilIface .nilIface 0 A rs.length c i u) I h (cl_ Q):=by
 intro n
 induction n with
 |zero=>
  intro i m h gg u hi hm hp
  rw[List.take_of_length_le (by omega)]at hm
  refine kU _ _ _ _ _ _ _ _ _ _ _ _ _ _ _ _ _ _ _ _ _ _ _ ?_
  refine b7 (by simp;omega) ?_
  refine aj fun _ _=>?_
  exact Oe 15 1 _ m (mr++gg) _ (by omega) (by omega) ((List.Perm.trans hp (by rw[List.append_assoc])).trans cE) (hQ m hm)
 |succ n ih=>
  intro i m h gg u hi hm hp
  obtain⟨x,hxi⟩: ∃x,rs[i]? =some x:=⟨_,List.getElem?_eq_getElem (show i<rs.length by omega)⟩
  have htk:rs.take (i+1)=rs.take i++[x]:=(ep (List.Perm.refl rs) hxi).2
  obtain⟨hpf,hdom⟩:=hok x (List.mem_of_getElem? hxi)
  obtain⟨ad,rfl,hcell⟩:=yO hrs hxi
  obtain⟨T,mt,mz,hperm,hrib,⟨cs,fz,hmem,hc21⟩,hback⟩:=hm.rib
  refine Wp.perm (h:=mr++(mt++(mz++gg))) ?_ ((List.Perm.trans hp ((hperm.append_left mr).append_right gg)).trans cE).symm
  refine kU _ _ _ _ _ _ _ _ _ _ _ _ _ _ _ _ _ _ _ _ _ _ _ ?_
  refine aX (by simp;omega) ?_
  refine aI ad rfl (sz:=7) kE (by omega) (by omega) rfl ?_
  dsimp only
  rw[Int.toNat_natCast]
  refine bL (cs:=Rt.C x) (ag [{i:=x.p.1},{i:=x.p.2},{i:=x.dom},{i:=x.dist},{i:=x.met},{i:=x.next},{i:=x.tag}]) kE kE (hcell _ _ fun x hx=>List.mem_append_left _ hx) rfl ?_
  dsimp only[ag]
  refine bt gC fun y _ _=>?_
  refine stU uE kE rE vE ?_;dsimp only[ag]
  refine ldP (mq1 (List.mem_append_right mr (List.mem_append_right mt (List.mem_append_left gg hmem)))) hc21 kE ?_
  refine RS mE rE kE ?_;dsimp only[ag]
  refine ak mt _ Du (aM.perm (m:=mt) pE) (fun hl=>HE hrib hpf hdom) ?_
  rintro w h2 ⟨⟨e,rfl⟩,hr2⟩
  refine⟨fun _=>{i:=e},rfl,?_⟩
  obtain⟨m',hm',hp'⟩:=hback _ _ hr2
  refine aj fun _ _=>?_
  rw[dT (by omega)]
  refine ih (i+1) m' _ _ _ (by omega) ?_ (aM.tail1 (c:=h2++mz) pE hp')
  rw[htk,B4]
  exact hm'
theorem Sv{I:Ctx}{K:az}{b:dm K.S}{p H:Nat}{v0:Value}{rs ts:List Rt}{A AT:Option Addr}{c cT:Nat}{mr mts:Mem}{ho:Obj}{t0:List (Rk×Rt)}{Q:Value→Mem→Prop}(hrs:Own 48 7 A rs.length c (rs.flatMap Rt.C) mr)(hts:Own 48 7 AT ts.length cT (ts.flatMap Rt.C) mts)(hbd:rs.length≤1000000)(hbt:ts.length≤1000000)(hok: ∀x∈rs,qb x.p∧x.dom=0)
  (hho:ky BR Value.bool (PS rs []) ho)(hQ: ∀m,cW K {b with tab:=tL rs (jx rs ts t0)} p m→Q undef m):
  ∀(n i:Nat) (m h gg:Mem) (u:Nat→Value),i+n=ts.length→cW K {b with tab:=jx rs (ts.take i) t0} p m→aM h (mts++([(H,ho)]++(mr++m))) gg→
  Wp Tryz.prog 82 bD (bE ⟨p,0,none⟩ v0 .nilIface .nilIface .nilIface .nilIface .nilIface .nilIface .nilIface .nilIface .nilIface .nilIface .nilIface .nilIface .nilIface .nilIface .nilIface 0 A rs.length c (some H) AT ts.length cT ts.length i u) I h (cl_ Q):=by
 intro n
 induction n with
 |zero=>
  intro i m h gg u hi hm hp
  rw[List.take_of_length_le (by omega)]at hm
  refine Wp.perm (h:=mts++((H,ho)::(mr++(m++gg)))) ?_ ((List.Perm.trans hp cE).symm)
  refine kR _ _ _ _ _ _ _ _ _ _ _ _ _ _ _ _ _ _ _ _ _ _ _ _ _ _ _ _ ?_
  refine b7 (by simp;omega) ?_
  refine aj fun _ _=>?_
  exact Rz (b:=b) (t0:=jx rs ts t0) hrs hbd hok hQ rs.length 0 m _ _ _ (by omega) (by simpa[tL]using hm) pE
 |succ n ih=>
  intro i m h gg u hi hm hp
  obtain⟨x,hxi⟩: ∃x,ts[i]? =some x:=⟨_,List.getElem?_eq_getElem (show i<ts.length by omega)⟩
  have htk:ts.take (i+1)=ts.take i++[x]:=(ep (List.Perm.refl ts) hxi).2
  obtain⟨ad,rfl,hcell⟩:=yO hts hxi
  obtain⟨T,mt,mz,hperm,hrib,⟨cs,fz,hmem,hc21⟩,hback⟩:=hm.rib
  refine Wp.perm (h:=mts++((H,ho)::(mr++(mt++(mz++gg))))) ?_ ((List.Perm.trans hp ((((hperm.append_left mr).append_left [(H,ho)]).append_left mts).append_right gg)).trans cE).symm
  refine kR _ _ _ _ _ _ _ _ _ _ _ _ _ _ _ _ _ _ _ _ _ _ _ _ _ _ _ _ ?_
  refine aX (by simp;omega) ?_
  refine aI ad rfl (sz:=7) kE (by omega) (by omega) rfl ?_
  dsimp only
  rw[Int.toNat_natCast]
  refine bL (cs:=Rt.C x) (ag [{i:=x.p.1},{i:=x.p.2},{i:=x.dom},{i:=x.dist},{i:=x.met},{i:=x.next},{i:=x.tag}]) kE kE (hcell _ _ fun x hx=>List.mem_append_left _ hx) rfl ?_
  dsimp only[ag]
  refine bt gC fun y _ _=>?_
  refine stU uE kE rE vE ?_;dsimp only[ag]
  refine ldI mE rE kE ?_;dsimp only[ag]
  have next: ∀(t':List (Rk×Rt)) (m' h' gg':Mem) (u:Nat→Value),t'=jx rs (ts.take (i+1)) t0→cW K {b with tab:=t'} p m'→aM h' (mts++([(H,ho)]++(mr++m'))) gg'→
    Wp Tryz.prog 82 bD (bE ⟨p,0,none⟩ v0 .nilIface .nilIface .nilIface .nilIface .nilIface .nilIface .nilIface .nilIface .nilIface .nilIface .nilIface .nilIface .nilIface .nilIface .nilIface 0 A rs.length c (some H) (some ad) ts.length cT ts.length (IntKind.wrap .i64 ((i:Nat)+1)) u) I h' (cl_ Q):=by
   intro t' m' h' gg' u ht hm' hp'
   rw[dT (by omega)]
   subst ht
   exact ih (i+1) m' _ _ _ (by omega) hm' hp'
  rw[htk,Ai]at next
  refine ay (fun t1=>?_) (fun t1=>?_)
  ·have t1:x.dom=0:=by simpa using t1
   refine lz mE rE kE ?_;dsimp only[ag]
   refine dZ Qd rfl Im (.inl mE) hho (x:=x.p) (ok:=false) (fun _=>{b:=decide (x.p∈rs.map (·.p))}) ?_ ?_
   ·rw[IP]
    by_cases e:x.p∈rs.map (·.p)
    ·rw[if_pos e];simp only[e,decide_true];rfl
    ·rw[if_neg e];simp only[e,decide_false];rfl
   dsimp only
   refine ay (fun t2=>?_) (fun t2=>?_)
   ·have t2:x.p∉rs.map (·.p):=by simpa using t2
    refine ldP (mq1 (List.mem_append_right mts (mq1 (List.mem_append_right mr (List.mem_append_right mt (List.mem_append_left gg hmem)))))) hc21 kE ?_
    refine lz mE rE kE ?_;dsimp only[ag]
    refine ak mt _ Cl (aM.perm (m:=mt) pE) (fun hl=>Gk (p:=x.p) hrib) ?_
    rintro w h2 ⟨⟨e,rfl⟩,hr2⟩
    refine⟨fun _=>{i:=e},rfl,?_⟩
    obtain⟨m',hm',hp'⟩:=hback _ _ hr2
    refine aj fun _ _=>?_
    exact next _ m' _ _ _ (by rw[if_pos ⟨t1,t2⟩]) hm' (aM.tail3 (c:=h2++mz) pE hp')
   ·have t2:x.p∈rs.map (·.p):=by simpa using t2
    refine aj fun _ _=>?_
    obtain⟨m',hm',hp'⟩:=hback _ _ hrib
    exact next _ m' _ _ _ (by rw[if_neg fun h=>h.2 t2]) hm' (aM.tail3 (c:=mt++mz) pE hp')
  ·have t1:x.dom≠0:=by simpa using t1
   refine aj fun _ _=>?_
   obtain⟨m',hm',hp'⟩:=hback _ _ hrib
   exact next _ m' _ _ _ (by rw[if_neg fun h=>t1 h.1]) hm' (aM.tail3 (c:=mt++mz) pE hp')
theorem RZ{I:Ctx}{K:az}{b:dm K.S}{p H:Nat}{v0:Value}{rs:List Rt}{A:Option Addr}{c:Nat}{mr m:Mem}{Q:Value→Mem→Prop}(hrs:Own 48 7 A rs.length c (rs.flatMap Rt.C) mr)(hbd:rs.length≤1000000)(hok: ∀x∈rs,qb x.p∧x.dom=0)
  (hm:cW K b p m)(hbt:b.tab.length≤1000000)(hQ: ∀t' m',Qg rs b.tab t'→cW K {b with tab:=t'} p m'→Q undef m'):
  ∀(n i:Nat) (h gg:Mem) (ho:Obj) (u:Nat→Value),i+n=rs.length→ky BR Value.bool (PS (rs.take i) []) ho→aM h ([(H,ho)]++(mr++m)) gg→
  Wp Tryz.prog 82 eG (eI ⟨p,0,none⟩ v0 .nilIface .nilIface .nilIface .nilIface .nilIface .nilIface .nilIface .nilIface .nilIface .nilIface .nilIface .nilIface .nilIface .nilIface .nilIface 0 A rs.length c (some H) A rs.length c rs.length i u) I h (cl_ Q):=by
 obtain⟨T,mt,mz,hperm,hrib,⟨cs,fz,hmem,hc21⟩,hback⟩:=hm.rib
 intro n
 induction n with
 |zero=>
  intro i h gg ho u hi hho hp
  rw[List.take_of_length_le (by omega)]at hho
  refine Wp.perm (h:=(H,ho)::(mr++(mt++(mz++gg)))) ?_ ((List.Perm.trans hp (((hperm.append_left mr).append_left [(H,ho)]).append_right gg)).trans cE).symm
  refine kL _ _ _ _ _ _ _ _ _ _ _ _ _ _ _ _ _ _ _ _ _ _ _ _ _ _ _ _ ?_
  refine b7 (by simp;omega) ?_
  refine ldP (mq1 (List.mem_append_right mr (List.mem_append_right mt (List.mem_append_left gg hmem)))) hc21 kE ?_
  refine ak [] _ wl (List.Perm.refl _) (fun hl=>by
   obtain⟨_,_,_,_,_,_,_,hin⟩:=hrib.in hl (fun x hx=>mq1 (List.mem_append_right mr (List.mem_append_left _ hx)))
   exact CB hin) ?_
  rintro w h2 ⟨ts,htp,AT,cT,rfl,hts⟩
  refine⟨fun _=>{A:=AT,n:=ts.length,c:=cT},rfl,?_⟩
  refine aj fun _ _=>?_
  have htl:ts.length≤1000000:=by have:=htp.length_eq;simp at this;omega
  refine Sv (b:=b) (t0:=b.tab) hrs hts hbd htl hok hho (fun m' hm'=>hQ _ m' ⟨ts,htp,rfl⟩ hm') ts.length 0 m _ gg _ (by omega) (by simpa[jx]using hm) ?_
  refine List.Perm.trans ?_ ((((hperm.append_left mr).append_left [(H,ho)]).append_left h2).append_right gg).symm
  exact cE
 |succ n ih=>
  intro i h gg ho u hi hho hp
  obtain⟨x,hxi⟩: ∃x,rs[i]? =some x:=⟨_,List.getElem?_eq_getElem (show i<rs.length by omega)⟩
  have htk:rs.take (i+1)=rs.take i++[x]:=(ep (List.Perm.refl rs) hxi).2
  obtain⟨ad,rfl,hcell⟩:=yO hrs hxi
  refine Wp.perm (h:=(H,ho)::(mr++(m++gg))) ?_ ((List.Perm.trans hp cE).symm)
  refine kL _ _ _ _ _ _ _ _ _ _ _ _ _ _ _ _ _ _ _ _ _ _ _ _ _ _ _ _ ?_
  refine aX (by simp;omega) ?_
  refine aI ad rfl (sz:=7) kE (by omega) (by omega) rfl ?_
  dsimp only
  rw[Int.toNat_natCast]
  refine bL (cs:=Rt.C x) (ag [{i:=x.p.1},{i:=x.p.2},{i:=x.dom},{i:=x.dist},{i:=x.met},{i:=x.next},{i:=x.tag}]) kE kE (hcell _ _ fun x hx=>mq1 (List.mem_append_left _ hx)) rfl ?_
  dsimp only[ag]
  refine bt gC fun y _ _=>?_
  refine stU uE kE rE vE ?_;dsimp only[ag]
  refine lz mE rE kE ?_;dsimp only[ag]
  refine uw (cl_.aff _) Qd rfl (aM.perm1 pE) hho (x:=x.p) true rfl fun o' ho'=>?_
  refine aj fun _ _=>?_
  rw[dT (by omega)]
  rw[←G6,←htk]at ho'
  exact ih (i+1) _ _ o' _ (by omega) ho' pE
theorem Ha{I:Ctx}{K:az}(hK:br K){N:Int→Prop}{b:dm K.S}{p:Nat}{m:Mem}(hm:cW K b p m)(hok:K.ok N b.s)(hbt:b.tab.length≤1000000):
  Fn Tryz.prog 82 #[ptV p] I m (fun v h'=>v=undef∧ ∃b',Ld K b b'∧cW K b' p h'):=by
 have hm0:=hm
 obtain⟨ps,L,O,C,T,A0,c0,lo,oo,co,cs,ms,mt,mo,hb,rfl,h1,h2,h3,h4,h5,h6,h7⟩:=hm
 refine vZ _ ?_
 refine bL (cs:=[ifV K ps,.nilIface,.nilIface,.nilIface,.nilIface,.nilIface,.nilIface,.nilIface,.nilIface,.nilIface,.nilIface,.nilIface,.nilIface,.nilIface,.nilIface,.nilIface]) (ag [{v:=ifV K ps},{v:= .nilIface},{v:= .nilIface},{v:= .nilIface},{v:= .nilIface},{v:= .nilIface},{v:= .nilIface},{v:= .nilIface},{v:= .nilIface},{v:= .nilIface},{v:= .nilIface},{v:= .nilIface},{v:= .nilIface},{v:= .nilIface},{v:= .nilIface},{v:= .nilIface}]) kE kE (by rw[kp];exact cw mq0 rfl) rfl ?_
 dsimp only[ag]
 refine aj fun _ _=>?_
 refine gM _ _ _ _ _ _ _ _ _ _ _ _ _ _ _ _ _ _ _ ?_
 refine aX (by simp) ?_
 refine JM (Td _) ?_
 refine ifE ?_
 refine b7 rfl ?_
 refine oa ms _ (hK.sa ps) (aM.perm (m:=ms) pE) (fun hl=>hK.all h4 hok) ?_
 rintro w hw ⟨rs,m1,m2,hall,rfl,hM,A,c,rfl,hrs⟩
 obtain⟨hl1,hl2⟩:=hK.all_ok hok hall
 refine⟨fun _=>{A:=A,n:=rs.length,c:=c},rfl,?_⟩
 rw[List.append_assoc]
 refine ip fun H _ _=>?_
 refine aj fun _ _=>?_
 have hm':cW K b p ((p,.cells (wp K b ps L O C T A0 c0) 101 (0,0))::(L,lo)::(O,oo)::(C,co)::(m1++(mt++(mo++hb)))):=⟨ps,L,O,C,T,A0,c0,lo,oo,co,cs,m1,mt,mo,hb,rfl,h1,h2,h3,hM,h5,h6,h7⟩
 refine RZ (b:=b) hrs (by omega) hl2 hm' hbt (fun t' m' ht hb'=>⟨rfl,_,⟨rs,t',hall,ht,rfl⟩,hb'⟩) rs.length 0 _ _ (.map #[] 0) _ (by omega) (ky.nil _ _) pE
def JK(K:az)(b b':dm K.S):Prop:= ∃b1,Ld K b b1∧Ld K b1 b'
theorem Lv.few{t:List (Rk×Rt)}{a:Nat}{m:Mem}(h:Lv t a m):t.length≤64:=by
 obtain⟨T,ref,M,b,mo,ml,hok,_⟩:=h
 exact hok.few
theorem cW.few{K:az}{b:dm K.S}{p:Nat}{m:Mem}(h:cW K b p m):b.tab.length≤64:=by
 obtain⟨ps,L,O,C,T,A0,c0,lo,oo,co,cs,ms,mt,mo,hb,rfl,h1,h2,h3,h4,h5,h6,h7⟩:=h
 exact h5.few
theorem QL{K:az}{b b':dm K.S}(h:Ld K b b'):b'.s=b.s:=by
 obtain⟨_,_,_,_,rfl⟩:=h;rfl
theorem jF{I:Ctx}{K:az}(hK:br K){N:Int→Prop}{b:dm K.S}{p:Nat}{m:Mem}{now:Int}(hm:cW K b p m)(hok:K.ok N b.s):
  Fn Tryz.prog 62 #[ptV p,.int .i64 now] I m (fun v h'=>v=undef∧ ∃b',JK K b b'∧cW K b' p h'):=by
 refine rQ _ _ ?_
 refine ak m [] lN (by simp) (fun hl=>Ha hK hm hok (by have:=hm.few;omega)) ?_
 rintro w h1 ⟨rfl,b1,hf1,hm1⟩
 refine⟨fun _=>{},rfl,?_⟩
 obtain⟨ps,L,O,C,T,A0,c0,lo,oo,co,cs,ms,mt,mo,hb,rfl,g1,g2,g3,g4,g5,g6,g7⟩:=hm1
 refine ip fun H hH1 hH2=>?_
 dsimp only
 refine aN (cl_.aff _) (g:=(H,.map #[] 0)::(p,.cells (wp K b1 ps L O C T A0 c0) 101 (0,0))::(L,lo)::(O,oo)::(C,co)::(ms++(mt++(mo++hb)))) (by rw[List.append_nil]) ?_
 refine ldL mE rE kE ?_;dsimp only[ag]
 refine aj fun _ _=>?_
 refine pU _ _ _ _ _ _ _ _ _ ?_
 refine b7 (by simp) ?_
 refine ldM (mq1 mq0) (by rfl) kE ?_
 refine ak [] _ zq (List.Perm.refl _) (fun hl=>DC) ?_
 rintro v h2 ⟨g,rfl,rfl⟩
 refine⟨fun _=>{v:= .func (.func 106) #[] #[ptV g]},rfl,?_⟩
 dsimp only
 refine ak [] _ oH (List.Perm.refl _) (fun hl=>yG (caps:=[ptV g]) uO (DG (M:=C) (om:=co) (l:=[]) (aF hl (.inl mq0)) (aF hl (.inl mE)) g3)) ?_
 rintro v h3 ⟨A3,c3,rfl⟩
 refine⟨fun _=>{A:=A3,n:=0,c:=c3},rfl,?_⟩
 refine aj fun _ _=>?_
 refine p4 _ _ _ _ _ _ _ _ _ ?_
 refine b7 (by simp) ?_
 refine stU uE kE rE vE ?_;dsimp only[ag]
 have hm2:cW K b1 p ((p,.cells (wp K b1 ps L O H T A0 c0) 101 (0,0))::(L,lo)::(O,oo)::(H,.map #[] 0)::(ms++(mt++(mo++hb)))):=⟨ps,L,O,H,T,A0,c0,lo,oo,_,cs,ms,mt,mo,hb,rfl,g1,g2,ky.nil _ _,g4,g5,g6,g7⟩
 refine ak _ _ lN (aM.perm (m:=(p,.cells (wp K b1 ps L O H T A0 c0) 101 (0,0))::(L,lo)::(O,oo)::(H,.map #[] 0)::(ms++(mt++(mo++hb)))) pE) (fun hl=>Ha hK hm2 (by rw[QL hf1];exact hok) (by have:=g5.few;omega)) ?_
 rintro w h4 ⟨rfl,b2,hf2,hm3⟩
 refine⟨fun _=>{},rfl,?_⟩
 exact aY (List.Perm.refl _) ⟨rfl,b2,⟨b1,hf1,hf2⟩,hm3⟩
end Go.Proofs.YtadanegddceleaaGreatS
