import Derived.Test.YtadanegddceleaaGreatqam
import Derived.Test.YtadanegddceleaaGreatqaw
set_option linter.unusedSimpArgs false
set_option linter.unusedVariables false
set_option maxRecDepth 20000
namespace Go.Proofs.YtadanegddceleaaGreatS
def SJ(K:az)(e:Ed)(i:Nat)(s s':en K):Prop:= ∃bA bA' bB bB' x y,s.bs[(e.a - 1).toNat]? =some bA∧nj K e.b s.now bA bA' x∧(s.bs.set (e.a - 1).toNat bA')[(e.b - 1).toNat]? =some bB∧nj K e.a s.now bB bB' y∧
 s'={s with bs:=(s.bs.set (e.a - 1).toNat bA').set (e.b - 1).toNat bB',up:=s.up.set i false}
def Q2(K:az)(e:Ed)(i:Nat)(s s':en K):Prop:= ∃s1,SJ K e i s s1∧s'={lW s1 with bag:=left 0 e.a e.b (lW s1).bag}
theorem Oq{I:Ctx}{K:az}(hK:br K){N:Int→Prop}{n:Nat}{es:List Ed}{s:en K}{q i:Nat}{m:Mem}{e:Ed}{bA bB:dm K.S}(hm:iB K n es s q m)(he:es[i]? =some e)(hA:s.bs[(e.a - 1).toNat]? =some bA)(hB0:s.bs[(e.b - 1).toNat]? =some bB)(ha1:1≤e.a)(hb1:1≤e.b)(hab:e.a≠e.b)
  (hok1:K.ok N bA.s)(hok2:K.ok N bB.s)(hout1:bA.out.length≤900000000)(hout2:bB.out.length≤900000000)(hbn:s.bs.length≤1000)(hel:es.length=s.up.length)(hes:es.length≤1000)
  (hset: ∀s1,SJ K e i s s1→(∀b∈s1.bs,∀p∈b.out,p.B.length≤100000000000)∧s1.bag.length+(s1.bs.flatMap (·.out)).length≤100000000000):
  Fn Tryz.prog 47 #[ptV q,.int .i64 i] I m (fun v h'=>v=undef∧ ∃s',Q2 K e i s s'∧iB K n es s' q h'):=by
 obtain⟨a,AR,cR,AU,cU,G,ps,mR,mU,mG,mB,rfl,ha,oR,oU,hG,hB⟩:=hm
 have hpl:=hB.len
 refine tT _ _ ?_
 refine ldL mE rE kE ?_;dsimp only[ag]
 obtain⟨ae,hae,hce⟩:=EM ha.oe he
 have hei:i<es.length:=(List.getElem?_eq_some_iff.1 he).1
 rw[hae]
 refine aI ae rfl (sz:=4) kE (by omega) (by omega) rfl ?_
 dsimp only
 rw[Int.toNat_natCast]
 refine bL (cs:=Ed.C e) (ag [{i:=0},{i:=e.a},{i:=e.b},{i:=e.c}]) kE kE (hce _ _ sE) rfl ?_
 dsimp only[ag]
 refine bt u4 fun y _ _=>?_
 refine stU uE kE rE vE ?_;dsimp only[ag];refine ldI mE rE kE ?_;dsimp only[ag];refine ldI mE rE kE ?_;dsimp only[ag];refine ldI mE rE kE ?_;dsimp only[ag];refine ldI mE rE kE ?_;dsimp only[ag]
 obtain⟨p1,m1,mz1,hp1,hperm1,hb1,hset1⟩:=hB.get hA
 refine C5 (a:=(y,.cells ⟨Ed.C e⟩ 42 (0,0))::(q,.cells (kC n es a AR AU s.bs.length cR s.up.length cU G s.now) 60 (0,0))::(a.mN++(a.hN++(a.mE++(mR++(mU++(mG))))))) (c:=mB) pE hperm1 ?_
 refine ak [] _ bb (List.Perm.refl _) (fun hl=>kc (id:=e.a) (aF hl (.inl mE)) (by rw[←hpl];rfl) ((oR.rd sE).all hl) (by omega)) ?_
 rintro w h ⟨rfl,rfl⟩
 have hf1:yX ps (e.a)=some p1:=by unfold yX;rw[if_pos (by omega)];exact hp1
 refine⟨fun _=>{A:=some ⟨p1,0,none⟩},by rw[hf1];rfl,?_⟩
 dsimp only
 rw[List.nil_append]
 refine pn1 mE rE kE ?_;refine pn1 mE rE kE ?_;refine pn1 mE rE kE ?_
 refine ak m1 _ jZ (aM.perm (m:=m1) pE) (fun hl=>Cc hK (k:=e.b) (now:=s.now) hb1 hok1 (by have:=hout1;omega)) ?_
 rintro w h1 ⟨x1,b1',rfl,hR1,hM1⟩
 refine⟨fun _=>{i:=x1},rfl,?_⟩
 obtain⟨mB1,hB1,hq1⟩:=hset1 b1' p1 h1 hM1
 rw[iy hp1]at hB1
 refine I5 (a:=(y,.cells ⟨Ed.C e⟩ 42 (0,0))::(q,.cells (kC n es a AR AU s.bs.length cR s.up.length cU G s.now) 60 (0,0))::(a.mN++(a.hN++(a.mE++(mR++(mU++(mG))))))) (c:=mB1) (c1:=h1) (c2:=mz1) pE hq1 ?_
 refine ldI mE rE kE ?_;dsimp only[ag];refine ldI mE rE kE ?_;dsimp only[ag];refine ldI mE rE kE ?_;dsimp only[ag];refine ldI mE rE kE ?_;dsimp only[ag]
 have hB2:(s.bs.set (e.a - 1).toNat b1')[(e.b - 1).toNat]? =some bB:=by rw[List.getElem?_set_ne (by omega)];exact hB0
 obtain⟨p2,m2,mz2,hp2,hperm2,hb2,hset2⟩:=hB1.get hB2
 refine C5 (a:=(y,.cells ⟨Ed.C e⟩ 42 (0,0))::(q,.cells (kC n es a AR AU s.bs.length cR s.up.length cU G s.now) 60 (0,0))::(a.mN++(a.hN++(a.mE++(mR++(mU++(mG))))))) (c:=mB1) pE hperm2 ?_
 refine ak [] _ bb (List.Perm.refl _) (fun hl=>kc (id:=e.b) (aF hl (.inl mE)) (by rw[←hpl];rfl) ((oR.rd sE).all hl) (by omega)) ?_
 rintro w h ⟨rfl,rfl⟩
 have hf2:yX ps (e.b)=some p2:=by unfold yX;rw[if_pos (by omega)];exact hp2
 refine⟨fun _=>{A:=some ⟨p2,0,none⟩},by rw[hf2];rfl,?_⟩
 dsimp only
 rw[List.nil_append]
 refine pn1 mE rE kE ?_;refine pn1 mE rE kE ?_;refine pn1 mE rE kE ?_
 refine ak m2 _ jZ (aM.perm (m:=m2) pE) (fun hl=>Cc hK (k:=e.a) (now:=s.now) hb2 hok2 (by have:=hout2;omega)) ?_
 rintro w h2 ⟨x2,b2',rfl,hR2,hM2⟩
 refine⟨fun _=>{i:=x2},rfl,?_⟩
 obtain⟨mB2,hB2',hq2⟩:=hset2 b2' p2 h2 hM2
 rw[iy hp2]at hB2'
 refine I5 (a:=(y,.cells ⟨Ed.C e⟩ 42 (0,0))::(q,.cells (kC n es a AR AU s.bs.length cR s.up.length cU G s.now) 60 (0,0))::(a.mN++(a.hN++(a.mE++(mR++(mU++(mG))))))) (c:=mB2) (c1:=h2) (c2:=mz2) pE hq2 ?_
 refine ldL mE rE kE ?_;dsimp only[ag]
 obtain⟨au,hau,hcu⟩:=oU.rd (I:=I) (h:=mB2++((y,.cells ⟨Ed.C e⟩ 42 (0,0))::(q,.cells (kC n es a AR AU s.bs.length cR s.up.length cU G s.now) 60 (0,0))::(a.mN++(a.hN++(a.mE++(mR++(mU++(mG)))))))) sE (by intro x;rw[List.map_eq_nil_iff]at x;rw[x]at hel;simp at hel;rw[hel]at hei;simp at hei)
 subst hau
 refine aI au rfl (sz:=1) kE (by omega) (by omega) rfl ?_
 dsimp only
 rw[Int.toNat_natCast,Nat.mul_one]
 refine iH i (m:=mU) (cl_.aff _) (aM.perm (m:=mU) pE) oU rfl kE (by simp[Value.cells];omega) (by simp[Value.cells]) ?_
 intro mU' oU'
 rw[show(Value.bool false).cells.toList=[Value.bool false]from rfl,HI false (by omega)]at oU'
 have hlen:((s.bs.set (e.a - 1).toNat b1').set (e.b - 1).toNat b2').length=s.bs.length:=by simp
 have hlen2:(s.up.set i false).length=s.up.length:=by simp
 generalize hs1:({s with bs:=(s.bs.set (e.a - 1).toNat b1').set (e.b - 1).toNat b2',up:=s.up.set i false}:en K)=s1
 have hr:SJ K e i s s1:=⟨bA,b1',bB,b2',x1,x2,hA,hR1,hB2,hR2,hs1.symm⟩
 have hm1:iB K n es s1 q ((q,.cells (kC n es a AR (some au) s.bs.length cR s.up.length cU G s.now) 60 (0,0))::(a.mN++(a.hN++(a.mE++(mR++(mU'++(mG++(mB2)))))))):=by
  rw[←hs1]
  exact⟨a,AR,cR,some au,cU,G,ps,mR,mU',mG,mB2,by dsimp only;rw[hlen,hlen2],ha,by dsimp only;rw[hlen];exact oR,by dsimp only;rw[hlen2];exact oU',hG,hB2'⟩
 obtain⟨k1,k2⟩:=hset s1 hr
 refine ak _ _ fy (aM.perm (m:=(q,.cells (kC n es a AR (some au) s.bs.length cR s.up.length cU G s.now) 60 (0,0))::(a.mN++(a.hN++(a.mE++(mR++(mU'++(mG++(mB2)))))))) pE) (fun hl=>us hm1 k1 k2 (by rw[←hs1];simpa using hbn)) ?_
 rintro w h5 ⟨rfl,hm2⟩
 refine⟨fun _=>{},rfl,?_⟩
 obtain⟨a2,AR2,cR2,AU2,cU2,G2,ps2,mR2,mU2,mG2,mB3,rfl,ha2,oR2,oU2,hG2,hB3⟩:=hm2
 simp only[List.cons_append,List.append_assoc]
 refine ldP mE rE kE ?_;dsimp only[ag];refine ldI mE rE kE ?_;dsimp only[ag];refine ldI mE rE kE ?_;dsimp only[ag];refine ldI mE rE kE ?_;dsimp only[ag]
 refine ak mG2 _ Cm (aM.perm (m:=mG2) pE) (fun hl=>Nz hG2 (by show(s1.bag++_).length≤_;rw[List.length_append];exact k2)) ?_
 rintro w h6 ⟨rfl,hG3⟩
 refine⟨fun _=>{i:=_},rfl,?_⟩
 exact aY (aM.perm (m:=(q,.cells (kC n es a2 AR2 AU2 (lW s1).bs.length cR2 (lW s1).up.length cU2 G2 (lW s1).now) 60 (0,0))::(a2.mN++(a2.hN++(a2.mE++(mR2++(mU2++(h6++mB3))))))) pE) ⟨rfl,_,⟨s1,hr,rfl⟩,a2,AR2,cR2,AU2,cU2,G2,ps2,mR2,mU2,h6,mB3,rfl,ha2,oR2,oU2,hG3,hB3⟩
theorem Sz{P:Program}{I:Ctx}{f:Ctl}{Q:Value→Mem→Prop}{h:Mem}{k:(Nat→jT)→Tr}{t:TypeId}{ik:IntKind}{x y:Int}(hy:y≠0)(hk:holds P f I Q (k fun _=>{i:=x.tmod y}) h):holds P f I Q (.rdn (D6 .rem t (.int ik x) (.int ik y)) (.one (.sc (.int ik))) k) h:=by
 refine k8 _ ?_ hk
 unfold D6
 refine iq ?_
 refine aB (a:=()) rfl ?_
 unfold binOp
 simp only[ne_eq,not_true_eq_false,if_false]
 unfold Op.intDiv
 rw[if_neg hy]
 rfl
abbrev Nn(n:Nat)(k:Int):Prop:=1≤k∧k≤n
def R9(K:az)(n:Nat)(p:Pk):Prop:=p.d=0∧Nn n p.t∧K.bok p.B
structure NOk (K:az) (n:Nat) (es:List Ed) (s:en K):Prop where
 len:s.bs.length=n
 n16:n≤16
 ok: ∀b∈s.bs,K.ok (Nn n) b.s
 out: ∀b∈s.bs,b.out.length≤800000000
 own: ∀b∈s.bs,∀x∈am b.owns,x.1=0
 lnk: ∀b∈s.bs,∀k,(ah b.links (plK k)).getD 0>0→Nn n k
 pk: ∀b∈s.bs,∀p∈b.out,R9 K n p
 bag: ∀p∈s.bag,R9 K n p
 bagl:s.bag.length+(s.bs.flatMap (·.out)).length≤100000000000
 up:s.up.length=es.length
 el:es.length≤32
 ed: ∀e∈es,Nn n e.a∧Nn n e.b∧e.a≠e.b∧1≤e.c∧e.c≤15
def idx(A:Int)(n:Nat):Int:=(if(0:Int)>A then 0 else A).tmod n
theorem PK{A:Int}{n:Nat}(hn:0<n)(hb:n≤100000000000):0≤idx A n∧idx A n<n:=by
 unfold idx
 have h0:(0:Int)≤(if(0:Int)>A then 0 else A):=by split<;>omega
 have h1:=Int.tmod_nonneg (n:Int) h0
 have h2:=Int.tmod_lt_of_pos (if(0:Int)>A then 0 else A) (show(0:Int)<n by omega)
 exact⟨h1,h2⟩
def nA(K:az)(kd A:Int)(s s':en K)(e:Int):Prop:=
 if s.bag.length=0 then s'=s∧e=5
 else if kd=1 then∃pk b b',s.bag[(idx A s.bag.length).toNat]? =some pk∧s.bs[(pk.t - 1).toNat]? =some b∧uc K pk.f pk.B s.now b b' e∧s'={s with bag:=s.bag.eraseIdx (idx A s.bag.length).toNat,bs:=s.bs.set (pk.t - 1).toNat b'}
 else if kd=2 then s'={s with bag:=s.bag.eraseIdx (idx A s.bag.length).toNat}∧e=0
 else if kd=3 then s'={s with bag:=dbl s.bag (idx A s.bag.length)}∧e=0
 else s'=s∧e=0
theorem sJ{K:az}{n:Nat}{bs:List (dm K.S)}{id:Int}(hl:bs.length=n)(h:Nn n id): ∃b,bs[(id - 1).toNat]? =some b:=⟨_,List.getElem?_eq_getElem (show(id - 1).toNat<bs.length by have:=h.1;have:=h.2;omega)⟩
theorem It{I:Ctx}{K:az}(hK:br K){n:Nat}{es:List Ed}{s:en K}{q:Nat}{m:Mem}{kd A B C:Int}(hm:iB K n es s q m)(hok:NOk K n es s):
  Fn Tryz.prog 24 #[ptV q,.agg #[.int .i64 kd,.int .i64 A,.int .i64 B,.int .i64 C]] I m (fun v h'=> ∃e s',v= .int .i64 e∧nA K kd A s s' e∧iB K n es s' q h'):=by
 have hm0:=hm
 obtain⟨a,AR,cR,AU,cU,G,ps,mR,mU,mG,mB,rfl,ha,oR,oU,hG,hB⟩:=hm
 have hpl:=hB.len
 have hn16:=hok.n16
 have hlen:=hok.len
 have hbl:=hok.bagl
 refine qf _ _ _ _ _ ?_
 refine aP fun y _ _=>?_
 refine ldP mE rE kE ?_;dsimp only[ag]
 refine ak [] _ uv (List.Perm.refl _) (fun hl=>GR (iN.read hG hl sE)) ?_
 rintro w h1 ⟨rfl,rfl⟩
 refine⟨fun _=>{i:=s.bag.length},rfl,?_⟩
 dsimp only
 rw[List.nil_append]
 refine ay (fun t1=>?_) (fun t1=>?_)
 ·have t1:s.bag.length=0:=by simp at t1;simp[t1]
  refine aY (aM.perm (m:=(q,.cells (kC n es a AR AU s.bs.length cR s.up.length cU G s.now) 60 (0,0))::(a.mN++(a.hN++(a.mE++(mR++(mU++(mG++(mB)))))))) pE) ⟨5,s,rfl,?_,hm0⟩
  unfold nA
  rw[if_pos t1]
  exact⟨rfl,rfl⟩
 have t1:s.bag.length≠0:=by simp at t1;intro e;exact t1 (List.eq_nil_of_length_eq_zero e)
 have hix:=PK (A:=A) (n:=s.bag.length) (by omega) (by omega)
 refine ldI mE rE kE ?_;dsimp only[ag]
 refine Sz (by omega) ?_
 dsimp only
 refine ldI mE rE kE ?_;dsimp only[ag]
 rw[show(if(0:Int)>A then 0 else A).tmod ((s.bag.length:Nat):Int)=idx A s.bag.length from rfl]
 have htl:s.bag.length≤100000000000:=by omega
 refine ay (fun t2=>?_) (fun t2=>?_)
 ·have t2:kd=1:=by simpa using t2
  refine ldP mE rE kE ?_;dsimp only[ag]
  refine ak mG _ sG (aM.perm (m:=mG) pE) (fun hl=>EC hG htl) ?_
  intro v h1 hq
  unfold M6 at hq
  rw[if_pos hix]at hq
  obtain⟨x,Ax,cx,hBx,hR,hxi,rfl,hperm,hox,hxb,hG2⟩:=hq
  have hxm:=hok.bag x (List.mem_of_getElem? hxi)
  obtain⟨hxd,hxt,hxB⟩:=hxm
  obtain⟨b,hb⟩:=sJ hlen hxt
  refine⟨ag [{i:=x.d},{i:=x.f},{i:=x.t},{A:=Ax,n:=x.B.length,c:=cx},{b:=true}],rfl,?_⟩
  dsimp only[ag]
  obtain⟨p1,m1,mz1,hp1,hperm1,hb1,hset1⟩:=hB.get hb
  refine aN (cl_.aff _) (g:=(y,.cells #[.int .i64 kd,.int .i64 A,.int .i64 B,.int .i64 C] 34 (0,0))::(q,.cells (kC n es a AR AU s.bs.length cR s.up.length cU G s.now) 60 (0,0))::(hBx++(hR++(m1++(mz1++(a.mN++(a.hN++(a.mE++(mR++mU))))))))) ?_ ?_
  ·refine List.Perm.trans (l₂:=(hBx++hR)++((y,.cells #[.int .i64 kd,.int .i64 A,.int .i64 B,.int .i64 C] 34 (0,0))::(q,.cells (kC n es a AR AU s.bs.length cR s.up.length cU G s.now) 60 (0,0))::(a.mN++(a.hN++(a.mE++(mR++(mU++(m1++mz1)))))))) ?_ cE
   refine List.Perm.append hperm ?_
   exact(aD fun D_ a_=>by have e0_:=List.Perm.count_eq (hperm1) a_;simp only[Value.cells,List.count_append,List.count_cons,List.count_nil,List.nil_append,List.cons_append,List.append_nil,List.append_assoc]at e0_;simp only[Value.cells,List.count_append,List.count_cons,List.count_nil,List.nil_append,List.cons_append,List.append_nil,List.append_assoc]<;>omega)
  refine bt dK fun z _ _=>?_
  refine stU uE kE rE vE ?_;dsimp only[ag];refine ldI mE rE kE ?_;dsimp only[ag];refine ldI mE rE kE ?_;dsimp only[ag];refine ldI mE rE kE ?_;dsimp only[ag];refine ldL mE rE kE ?_;dsimp only[ag];refine ldI mE rE kE ?_;dsimp only[ag]
  refine ak [] _ bb (List.Perm.refl _) (fun hl=>kc (id:=x.t) (aF hl (.inl mE)) (by rw[←hpl];rfl) ((oR.rd sE).all hl) (by omega)) ?_
  rintro w h ⟨rfl,rfl⟩
  have hf1:yX ps x.t=some p1:=by unfold yX;rw[if_pos hxt.1];exact hp1
  refine⟨fun _=>{A:=some ⟨p1,0,none⟩},by rw[hf1];rfl,?_⟩
  dsimp only
  rw[List.nil_append]
  refine pn1 mE rE kE ?_;refine pn1 mE rE kE ?_;refine pn1 mE rE kE ?_;refine pn1 mE rE kE ?_
  rw[hxd]
  have hbm:b∈s.bs:=List.mem_of_getElem? hb
  refine ak m1 _ qd (aM.perm (m:=m1) pE) (fun hl=>Lf hK (k:=x.f) (now:=s.now) (B:=x.B) hb1 (hok.ok b hbm) hxB (hox.rdb ((hl.perm (aM.perm (m:=m1) pE)).perm List.perm_append_comm).left sE) hox.2.1 (by have:=hok.out b hbm;omega)) ?_
  rintro w h3 ⟨e,b',rfl,hR2,hM2⟩
  refine⟨fun _=>{i:=e},rfl,?_⟩
  obtain⟨mB1,hB1,hq1⟩:=hset1 b' p1 h3 hM2
  rw[iy hp1]at hB1
  refine dl (h1:=(q,.cells (kC n es a AR AU s.bs.length cR s.up.length cU G s.now) 60 (0,0))::(a.mN++(a.hN++(a.mE++(mR++(mU++(hR++(h3++mz1)))))))) pE (h2:=(q,.cells (kC n es a AR AU s.bs.length cR s.up.length cU G s.now) 60 (0,0))::(a.mN++(a.hN++(a.mE++(mR++(mU++(hR++(mB1)))))))) (aD fun D_ a_=>by have e0_:=List.Perm.count_eq (hq1) a_;simp only[Value.cells,List.count_append,List.count_cons,List.count_nil,List.nil_append,List.cons_append,List.append_nil,List.append_assoc]at e0_;simp only[Value.cells,List.count_append,List.count_cons,List.count_nil,List.nil_append,List.cons_append,List.append_nil,List.append_assoc]<;>omega)
   ⟨e,{s with bag:=s.bag.eraseIdx (idx A s.bag.length).toNat,bs:=s.bs.set (x.t - 1).toNat b'},rfl,?_,a,AR,cR,AU,cU,G,ps,mR,mU,hR,mB1,by dsimp only;rw[List.length_set],ha,by dsimp only;rw[List.length_set];exact oR,oU,hG2,hB1⟩
  unfold nA
  rw[if_neg t1,if_pos t2]
  exact⟨x,b,b',hxi,hb,hR2,rfl⟩
 have t2:kd≠1:=by simpa using t2
 refine ay (fun t3=>?_) (fun t3=>?_)
 ·have t3:kd=2:=by simpa using t3
  refine ldP mE rE kE ?_;dsimp only[ag]
  refine ak mG _ sG (aM.perm (m:=mG) pE) (fun hl=>EC hG htl) ?_
  intro v h1 hq
  unfold M6 at hq
  rw[if_pos hix]at hq
  obtain⟨x,Ax,cx,hBx,hR,hxi,rfl,hperm,hox,hxb,hG2⟩:=hq
  refine⟨ag [{i:=x.d},{i:=x.f},{i:=x.t},{A:=Ax,n:=x.B.length,c:=cx},{b:=true}],rfl,?_⟩
  refine aN (cl_.aff _) (g:=hBx++((y,.cells #[.int .i64 kd,.int .i64 A,.int .i64 B,.int .i64 C] 34 (0,0))::(q,.cells (kC n es a AR AU s.bs.length cR s.up.length cU G s.now) 60 (0,0))::(a.mN++(a.hN++(a.mE++(mR++(mU++(hR++(mB))))))))) ?_ ?_
  ·refine List.Perm.trans (l₂:=(hBx++hR)++((y,.cells #[.int .i64 kd,.int .i64 A,.int .i64 B,.int .i64 C] 34 (0,0))::(q,.cells (kC n es a AR AU s.bs.length cR s.up.length cU G s.now) 60 (0,0))::(a.mN++(a.hN++(a.mE++(mR++(mU++mB))))))) ?_ cE
   exact List.Perm.append hperm cE
  refine aY (aM.perm (m:=(q,.cells (kC n es a AR AU s.bs.length cR s.up.length cU G s.now) 60 (0,0))::(a.mN++(a.hN++(a.mE++(mR++(mU++(hR++(mB)))))))) pE) ⟨0,{s with bag:=s.bag.eraseIdx (idx A s.bag.length).toNat},rfl,?_,a,AR,cR,AU,cU,G,ps,mR,mU,hR,mB,rfl,ha,oR,oU,hG2,hB⟩
  unfold nA
  rw[if_neg t1,if_neg t2,if_pos t3]
  exact⟨rfl,rfl⟩
 have t3:kd≠2:=by simpa using t3
 refine ay (fun t4=>?_) (fun t4=>?_)
 ·have t4:kd=3:=by simpa using t4
  refine ldP mE rE kE ?_;dsimp only[ag]
  refine ak mG _ xW (aM.perm (m:=mG) pE) (fun hl=>G1 hG htl) ?_
  rintro v h1 ⟨rfl,hG2⟩
  refine⟨fun _=>{b:=inL s.bag (idx A s.bag.length)},rfl,?_⟩
  refine aY (aM.perm (m:=(q,.cells (kC n es a AR AU s.bs.length cR s.up.length cU G s.now) 60 (0,0))::(a.mN++(a.hN++(a.mE++(mR++(mU++(h1++(mB)))))))) pE) ⟨0,{s with bag:=dbl s.bag (idx A s.bag.length)},rfl,?_,a,AR,cR,AU,cU,G,ps,mR,mU,h1,mB,rfl,ha,oR,oU,hG2,hB⟩
  unfold nA
  rw[if_neg t1,if_neg t2,if_neg t3,if_pos t4]
  exact⟨rfl,rfl⟩
 ·have t4:kd≠3:=by simpa using t4
  refine aY (aM.perm (m:=(q,.cells (kC n es a AR AU s.bs.length cR s.up.length cU G s.now) 60 (0,0))::(a.mN++(a.hN++(a.mE++(mR++(mU++(mG++(mB)))))))) pE) ⟨0,s,rfl,?_,hm0⟩
  unfold nA
  rw[if_neg t1,if_neg t2,if_neg t3,if_neg t4]
  exact⟨rfl,rfl⟩
abbrev RC(B:Int):Int:=(if(if(1000:Int)<B then 1000 else B:Int)>0 then if(1000:Int)<B then 1000 else B else 0)
def ot(now B:Int):Int:=if(1099511627776:Int)<(IntKind.wrap .i64 (now+RC B))then 1099511627776 else IntKind.wrap .i64 (now+RC B)
def GF(K:az)(A B:Int)(s s':en K)(e:Int):Prop:=
 if Nn s.bs.length A then∃b b',s.bs[(A - 1).toNat]? =some b∧GK K (ot s.now B) b b'∧s'={s with now:=ot s.now B,bs:=s.bs.set (A - 1).toNat b'}∧e=0
 else s'={s with now:=ot s.now B}∧e=5
def NZ(C:Int):Int×Int:=(oh .or .u32 167772160 (IntKind.wrap .u32 ((IntKind.wrap .u32 C)*2^16)),16)
theorem Cd(C:Int):qb (NZ C):=by
 refine⟨?_,(show inI 16 by decide)⟩
 show 0≤oh .or .u32 _ _∧oh .or .u32 _ _<4294967296
 unfold oh
 rw[EI]
 exact⟨Int.emod_nonneg _ (by decide),Int.emod_lt_of_pos _ (by decide)⟩
def yu(K:az)(kd A B C:Int)(s s':en K)(e:Int):Prop:=
 if¬Nn s.bs.length A then s'=s∧e=5
 else if C<0∨C>255 then s'=s∧e=1
 else∃b b',s.bs[(A - 1).toNat]? =some b∧(if kd=7 then uD K B (NZ C) s.now b b' e else zy K B (NZ C) s.now b b' e)∧s'={s with bs:=s.bs.set (A - 1).toNat b'}
theorem FQ{ps:List Nat}{A:Int}(h: ¬Nn ps.length A):yX ps A=none:=by
 unfold yX
 split
 ·exact List.getElem?_eq_none (by have: ¬(1≤A∧A≤(ps.length:Int)):=h;omega)
 ·rfl
theorem Kw{I:Ctx}{K:az}(hK:br K){n:Nat}{es:List Ed}{s:en K}{q:Nat}{m:Mem}{kd A B C:Int}(hm:iB K n es s q m)(hok:NOk K n es s):
  Fn Tryz.prog 23 #[ptV q,.agg #[.int .i64 kd,.int .i64 A,.int .i64 B,.int .i64 C]] I m (fun v h'=> ∃e s',v= .int .i64 e∧GF K A B s s' e∧iB K n es s' q h'):=by
 obtain⟨a,AR,cR,AU,cU,G,ps,mR,mU,mG,mB,rfl,ha,oR,oU,hG,hB⟩:=hm
 have hpl:=hB.len
 have hn16:=hok.n16
 have hlen:=hok.len
 refine s3 _ _ _ _ _ ?_
 refine aP fun y _ _=>?_
 refine ldI mE rE kE ?_;dsimp only[ag];refine ldI mE rE kE ?_;dsimp only[ag];refine stU uE kE rE vE ?_;dsimp only[ag];refine ldI mE rE kE ?_;dsimp only[ag]
 refine lE (cl_.aff _) _ (aM.perm (m:=mB++((y,.cells #[.int .i64 kd,.int .i64 A,.int .i64 B,.int .i64 C] 34 (0,0))::(q,.cells (kC n es a AR AU s.bs.length cR s.up.length cU G (ot s.now B)) 60 (0,0))::(a.mN++(a.hN++(a.mE++(mR++(mU++mG))))))) pE) ?_
 refine ak [] _ bb (List.Perm.refl _) (fun hl=>kc (id:=A) (aF hl (.inl mE)) (by rw[←hpl];rfl) ((oR.rd sE).all hl) (by omega)) ?_
 rintro w h ⟨rfl,rfl⟩
 refine⟨fun _=>{A:=(yX ps A).map fun b=>⟨b,0,none⟩},rfl,?_⟩
 dsimp only
 rw[List.nil_append]
 refine kb kE ?_
 by_cases hA:Nn s.bs.length A
 ·obtain⟨b,hb⟩:=sJ (bs:=s.bs) rfl hA
  obtain⟨p1,m1,mz1,hp1,hperm1,hb1,hset1⟩:=hB.get hb
  have hf1:yX ps A=some p1:=by unfold yX;rw[if_pos hA.1];exact hp1
  rw[hf1]
  refine b7 rfl ?_
  refine C5 (a:=(y,.cells #[.int .i64 kd,.int .i64 A,.int .i64 B,.int .i64 C] 34 (0,0))::(q,.cells (kC n es a AR AU s.bs.length cR s.up.length cU G (ot s.now B)) 60 (0,0))::(a.mN++(a.hN++(a.mE++(mR++(mU++mG)))))) (c:=mB) pE hperm1 ?_
  refine ldI mE rE kE ?_;dsimp only[ag]
  have hbm:b∈s.bs:=List.mem_of_getElem? hb
  refine ak m1 _ uH (aM.perm (m:=m1) pE) (fun hl=>Lp hK hb1 (hok.ok b hbm) (hok.lnk b hbm) (hok.out b hbm)) ?_
  rintro w h3 ⟨rfl,b',hR2,hM2⟩
  refine⟨fun _=>{},rfl,?_⟩
  obtain⟨mB1,hB1,hq1⟩:=hset1 b' p1 h3 hM2
  rw[iy hp1]at hB1
  refine dl (h1:=(q,.cells (kC n es a AR AU s.bs.length cR s.up.length cU G (ot s.now B)) 60 (0,0))::(a.mN++(a.hN++(a.mE++(mR++(mU++(mG++(h3++mz1)))))))) pE (h2:=(q,.cells (kC n es a AR AU s.bs.length cR s.up.length cU G (ot s.now B)) 60 (0,0))::(a.mN++(a.hN++(a.mE++(mR++(mU++(mG++(mB1)))))))) (aD fun D_ a_=>by have e0_:=List.Perm.count_eq (hq1) a_;simp only[Value.cells,List.count_append,List.count_cons,List.count_nil,List.nil_append,List.cons_append,List.append_nil,List.append_assoc]at e0_;simp only[Value.cells,List.count_append,List.count_cons,List.count_nil,List.nil_append,List.cons_append,List.append_nil,List.append_assoc]<;>omega)
   ⟨0,{s with now:=ot s.now B,bs:=s.bs.set (A - 1).toNat b'},rfl,?_,a,AR,cR,AU,cU,G,ps,mR,mU,mG,mB1,by dsimp only;rw[List.length_set],ha,by dsimp only;rw[List.length_set];exact oR,oU,hG,hB1⟩
  unfold GF
  rw[if_pos hA]
  exact⟨b,b',hb,hR2,rfl,rfl⟩
 ·rw[FQ (by rw[hpl];exact hA)]
  refine aX rfl ?_
  refine aY (aM.perm (m:=(q,.cells (kC n es a AR AU s.bs.length cR s.up.length cU G (ot s.now B)) 60 (0,0))::(a.mN++(a.hN++(a.mE++(mR++(mU++(mG++(mB)))))))) pE) ⟨5,{s with now:=ot s.now B},rfl,?_,a,AR,cR,AU,cU,G,ps,mR,mU,mG,mB,rfl,ha,oR,oU,hG,hB⟩
  unfold GF
  rw[if_neg hA]
  exact⟨rfl,rfl⟩
theorem MH{I:Ctx}{K:az}(hK:br K){n:Nat}{es:List Ed}{s:en K}{q:Nat}{m:Mem}{kd A B C:Int}(hm:iB K n es s q m)(hok:NOk K n es s):
  Fn Tryz.prog 26 #[ptV q,.agg #[.int .i64 kd,.int .i64 A,.int .i64 B,.int .i64 C]] I m (fun v h'=> ∃e s',v= .int .i64 e∧yu K kd A B C s s' e∧iB K n es s' q h'):=by
 have hm0:=hm
 obtain⟨a,AR,cR,AU,cU,G,ps,mR,mU,mG,mB,rfl,ha,oR,oU,hG,hB⟩:=hm
 have hpl:=hB.len
 have hn16:=hok.n16
 have hlen:=hok.len
 have bad: ∀e h gg,yu K kd A B C s s e→aM h ((q,.cells (kC n es a AR AU s.bs.length cR s.up.length cU G s.now) 60 (0,0))::(a.mN++(a.hN++(a.mE++(mR++(mU++(mG++(mB)))))))) gg→holds Tryz.prog 26 I (cl_ fun v h'=> ∃e s',v= .int .i64 e∧yu K kd A B C s s' e∧iB K n es s' q h') (.done (.int .i64 e)) h:=
  fun e h gg hr hp=>aY hp ⟨e,s,rfl,hr,hm0⟩
 refine tD _ _ _ _ _ ?_
 refine aP fun y _ _=>?_
 refine ldI mE rE kE ?_;dsimp only[ag]
 refine ak [] _ bb (List.Perm.refl _) (fun hl=>kc (id:=A) (aF hl (.inl mE)) (by rw[←hpl];rfl) ((oR.rd sE).all hl) (by omega)) ?_
 rintro w h ⟨rfl,rfl⟩
 refine⟨fun _=>{A:=(yX ps A).map fun b=>⟨b,0,none⟩},rfl,?_⟩
 dsimp only
 rw[List.nil_append]
 refine kb kE ?_
 by_cases hA:Nn s.bs.length A
 ·obtain⟨b,hb⟩:=sJ (bs:=s.bs) rfl hA
  obtain⟨p1,m1,mz1,hp1,hperm1,hb1,hset1⟩:=hB.get hb
  have hf1:yX ps A=some p1:=by unfold yX;rw[if_pos hA.1];exact hp1
  rw[hf1]
  refine b7 rfl ?_
  refine ldI mE rE kE ?_;dsimp only[ag]
  refine ay (fun t1=>bad 1 _ _ (by unfold yu;rw[if_neg (by simpa using hA),if_pos (.inl (by simpa using t1))];exact⟨rfl,rfl⟩) pE) (fun t1=>?_)
  refine ldI mE rE kE ?_;dsimp only[ag]
  refine ay (fun t2=>bad 1 _ _ (by unfold yu;rw[if_neg (by simpa using hA),if_pos (.inr (by simpa using t2))];exact⟨rfl,rfl⟩) pE) (fun t2=>?_)
  have hC: ¬(C<0∨C>255):=by simp at t1 t2;omega
  refine ldI mE rE kE ?_;dsimp only[ag]
  refine bt Ca fun z _ _=>?_
  refine stU uE kE rE vE ?_;dsimp only[ag]
  refine lE (cl_.aff _) _ (aM.perm (m:=mB++((z,.cells ⟨pfC (NZ C)⟩ 45 (0,0))::(y,.cells #[.int .i64 kd,.int .i64 A,.int .i64 B,.int .i64 C] 34 (0,0))::(q,.cells (kC n es a AR AU s.bs.length cR s.up.length cU G s.now) 60 (0,0))::(a.mN++(a.hN++(a.mE++(mR++(mU++mG))))))) pE) ?_
  refine C5 (a:=(z,.cells ⟨pfC (NZ C)⟩ 45 (0,0))::(y,.cells #[.int .i64 kd,.int .i64 A,.int .i64 B,.int .i64 C] 34 (0,0))::(q,.cells (kC n es a AR AU s.bs.length cR s.up.length cU G s.now) 60 (0,0))::(a.mN++(a.hN++(a.mE++(mR++(mU++mG)))))) (c:=mB) pE hperm1 ?_
  have hbm:b∈s.bs:=List.mem_of_getElem? hb
  have fin: ∀h3 e b' gg h,(if kd=7 then uD K B (NZ C) s.now b b' e else zy K B (NZ C) s.now b b' e)→cW K b' p1 h3→aM h ((q,.cells (kC n es a AR AU s.bs.length cR s.up.length cU G s.now) 60 (0,0))::(a.mN++(a.hN++(a.mE++(mR++(mU++(mG++(h3++mz1)))))))) gg→
    holds Tryz.prog 26 I (cl_ fun v h'=> ∃e s',v= .int .i64 e∧yu K kd A B C s s' e∧iB K n es s' q h') (.done (.int .i64 e)) h:=by
   intro h3 e b' gg h hR2 hM2 hp
   obtain⟨mB1,hB1,hq1⟩:=hset1 b' p1 h3 hM2
   rw[iy hp1]at hB1
   refine dl hp (h2:=(q,.cells (kC n es a AR AU s.bs.length cR s.up.length cU G s.now) 60 (0,0))::(a.mN++(a.hN++(a.mE++(mR++(mU++(mG++(mB1)))))))) (aD fun D_ a_=>by have e0_:=List.Perm.count_eq (hq1) a_;simp only[Value.cells,List.count_append,List.count_cons,List.count_nil,List.nil_append,List.cons_append,List.append_nil,List.append_assoc]at e0_;simp only[Value.cells,List.count_append,List.count_cons,List.count_nil,List.nil_append,List.cons_append,List.append_nil,List.append_assoc]<;>omega)
    ⟨e,{s with bs:=s.bs.set (A - 1).toNat b'},rfl,?_,a,AR,cR,AU,cU,G,ps,mR,mU,mG,mB1,by dsimp only;rw[List.length_set],ha,by dsimp only;rw[List.length_set];exact oR,oU,hG,hB1⟩
   unfold yu
   rw[if_neg (by simpa using hA),if_neg hC]
   exact⟨b,b',hb,hR2,rfl⟩
  refine ldI mE rE kE ?_;dsimp only[ag]
  refine ay (fun t3=>?_) (fun t3=>?_)
  ·have t3:kd=7:=by simpa using t3
   refine ldI mE rE kE ?_;dsimp only[ag];refine lz mE rE kE ?_;dsimp only[ag];refine ldI mE rE kE ?_;dsimp only[ag]
   refine ak m1 _ uT (aM.perm (m:=m1) pE) (fun hl=>KG hK (p:=NZ C) (now:=s.now) hb1 (hok.ok b hbm) (Cd C) (by have:=hok.out b hbm;omega) (hok.own b hbm)) ?_
   rintro w h3 ⟨e,b',rfl,hR2,hM2⟩
   refine⟨fun _=>{i:=e},rfl,?_⟩
   exact fin h3 e b' _ _ (by rw[if_pos t3];exact hR2) hM2 pE
  ·have t3:kd≠7:=by simpa using t3
   refine ldI mE rE kE ?_;dsimp only[ag];refine lz mE rE kE ?_;dsimp only[ag];refine ldI mE rE kE ?_;dsimp only[ag]
   refine ak m1 _ vG (aM.perm (m:=m1) pE) (fun hl=>ND hK (p:=NZ C) (now:=s.now) hb1 (hok.ok b hbm) (Cd C) (by have:=hok.out b hbm;omega)) ?_
   rintro w h3 ⟨e,b',rfl,hR2,hM2⟩
   refine⟨fun _=>{i:=e},rfl,?_⟩
   exact fin h3 e b' _ _ (by rw[if_neg t3];exact hR2) hM2 pE
 ·rw[FQ (by rw[hpl];exact hA)]
  refine aX rfl ?_
  exact bad 5 _ _ (by unfold yu;rw[if_pos hA];exact⟨rfl,rfl⟩) pE
structure BOk (K:az) (n:Nat) (b:dm K.S):Prop where
 ok:K.ok (Nn n) b.s
 own: ∀x∈am b.owns,x.1=0
 lnk: ∀k,(ah b.links (plK k)).getD 0>0→Nn n k
 pk: ∀p∈b.out,R9 K n p
 lnd:(am b.links).Nodup
structure i5 (K:az) (n:Nat) (es:List Ed) (B:Nat) (s:en K):Prop where
 len:s.bs.length=n
 n16:n≤16
 bok: ∀b∈s.bs,BOk K n b
 bag: ∀p∈s.bag,R9 K n p
 wt:s.bag.length+(s.bs.flatMap (·.out)).length≤B
 up:s.up.length=es.length
 el:es.length≤32
 ed: ∀e∈es,Nn n e.a∧Nn n e.b∧e.a≠e.b∧1≤e.c∧e.c≤15
theorem lQ{S:Type}{bs:List (dm S)}{b:dm S}(h:b∈bs):b.out.length≤(bs.flatMap (·.out)).length:=by
 induction bs with
 |nil=>cases h
 |cons x bs ih=>
  rw[List.flatMap_cons,List.length_append]
  rcases List.mem_cons.1 h with rfl|h
  ·omega
  ·have:=ih h;omega
theorem i5.ok{K:az}{n:Nat}{es:List Ed}{B:Nat}{s:en K}(h:i5 K n es B s)(hB:B≤800000000):NOk K n es s where
 len:=h.len
 n16:=h.n16
 ok:=fun b hb=>(h.bok b hb).ok
 out:=fun b hb=>by have:=lQ hb;have:=h.wt;omega
 own:=fun b hb=>(h.bok b hb).own
 lnk:=fun b hb=>(h.bok b hb).lnk
 pk:=fun b hb=>(h.bok b hb).pk
 bag:=h.bag
 bagl:=by have:=h.wt;omega
 up:=h.up
 el:=h.el
 ed:=h.ed
theorem Au{S:Type}{bs:List (dm S)}{i:Nat}{b b':dm S}(h:bs[i]? =some b):((bs.set i b').flatMap (·.out)).length+b.out.length=(bs.flatMap (·.out)).length+b'.out.length:=by
 induction bs generalizing i with
 |nil=>simp at h
 |cons x bs ih=>
  cases i with
  |zero=>
   simp at h
   subst h
   rw[List.set_cons_zero,List.flatMap_cons,List.flatMap_cons,List.length_append,List.length_append]
   omega
  |succ i=>
   have:=ih (i:=i) (by simpa using h)
   rw[List.set_cons_succ,List.flatMap_cons,List.flatMap_cons,List.length_append,List.length_append]
   omega
def za(K:az)(n g:Nat)(b b':dm K.S):Prop:=BOk K n b'∧b'.id=b.id∧b'.out.length≤b.out.length+g
theorem i5.set{K:az}{n:Nat}{es:List Ed}{B g:Nat}{s:en K}(h:i5 K n es B s){i:Nat}{b b':dm K.S}(hb:s.bs[i]? =some b)(hs:za K n g b b'):i5 K n es (B+g) {s with bs:=s.bs.set i b'}where
 len:=by show(s.bs.set i b').length=n;rw[List.length_set];exact h.len
 n16:=h.n16
 bok:=fun c hc=>(List.mem_or_eq_of_mem_set hc).elim (h.bok c) fun e=>e▸hs.1
 bag:=h.bag
 wt:=by
  have h1:=Au (b':=b') hb
  have h2:=h.wt
  have h3:=hs.2.2
  show s.bag.length+((s.bs.set i b').flatMap (·.out)).length≤B+g
  omega
 up:=h.up
 el:=h.el
 ed:=h.ed
theorem tR{K:az}{b b':dm K.S}(h:JK K b b'):b'.s=b.s∧b'.id=b.id∧b'.links=b.links∧b'.owns=b.owns∧b'.out=b.out:=by
 obtain⟨b1,⟨rs,t,_,_,rfl⟩,rs2,t2,_,_,rfl⟩:=h
 exact⟨rfl,rfl,rfl,rfl,rfl⟩
theorem qY{K:az}{n g:Nat}{b b1 b':dm K.S}(h:JK K b1 b')(hs:za K n g b b1):za K n g b b':=by
 obtain⟨e1,e2,e3,e4,e5⟩:=tR h
 obtain⟨⟨a1,a2,a3,a4,a5⟩,a6,a7⟩:=hs
 exact⟨⟨e1▸a1,e4▸a2,e3▸a3,e5▸a4,e3▸a5⟩,e2.trans a6,e5▸a7⟩
theorem PR{K:az}(hK:br K){n:Nat}{id:Int}{ls:List Ltr}(h: ∀l∈ls,K.lok (Nn n) l): ∀p∈ls.map (lpk id),R9 K n p:=by
 intro p hp
 obtain⟨l,hl,rfl⟩:=List.mem_map.1 hp
 obtain⟨h1,h2⟩:=hK.ltr (h l hl)
 exact⟨rfl,h1.to,h2⟩
theorem uG{K:az}(hK:br K){n:Nat}{b:dm K.S}{s':K.S}{ls:List Ltr}(hb:BOk K n b)(h:K.ok (Nn n) s'∧ls.length≤100000∧ ∀l∈ls,K.lok (Nn n) l):za K n 100000 b (sent K b s' ls):=
 ⟨⟨h.1,hb.own,hb.lnk,fun p hp=>(List.mem_append.1 hp).elim (hb.pk p) (PR hK h.2.2 p),hb.lnd⟩,rfl,by show(b.out++_).length≤_;rw[List.length_append,List.length_map];omega⟩
theorem BOk.same{K:az}{n g:Nat}{b:dm K.S}(hb:BOk K n b):za K n g b b:=⟨hb,rfl,by omega⟩
theorem Hy{k i:Int}:plK k=plK i↔k=i:=by simp[plK]
theorem Ey{K:az}(hK:br K){n:Nat}{b b':dm K.S}{k c e:Int}(hb:BOk K n b)(hk:Nn n k)(h:uS K k c b b' e):za K n 100000 b b':=by
 unfold uS at h
 split at h
 ·rw[h.1];exact hb.same
 ·split at h
  ·rw[h.1];exact hb.same
  ·obtain⟨_,s',ls,hu,hr⟩:=h
   obtain⟨⟨a1,a2,a3,a4,a5⟩,a6,a7⟩:=uG hK hb (hK.up_ok hb.ok hk hu)
   refine qY hr ⟨⟨a1,a2,fun i hi=>?_,a4,jg hb.lnd⟩,a6,a7⟩
   replace hi:(ah (aL b.links (plK k) c) (plK i)).getD 0>0:=hi
   rw[aJ]at hi
   split at hi
   ·rename_i e;rw[Hy.1 e];exact hk
   ·exact hb.lnk i hi
theorem Aw{K:az}(hK:br K){n:Nat}{b b':dm K.S}{k now e:Int}(hb:BOk K n b)(h:nj K k now b b' e):za K n 100000 b b':=by
 unfold nj at h
 split at h
 ·rw[h.1];exact hb.same
 ·obtain⟨_,s',ls,hu,hr⟩:=h
  obtain⟨⟨a1,a2,a3,a4,a5⟩,a6,a7⟩:=uG hK hb (hK.down_ok hb.ok hu)
  refine qY hr ⟨⟨a1,a2,fun i hi=>?_,a4,lM hb.lnd⟩,a6,a7⟩
  replace hi:(ah (dq b.links (plK k)) (plK i)).getD 0>0:=hi
  rw[db hb.lnd]at hi
  split at hi
  ·simp at hi
  ·exact hb.lnk i hi
theorem J5{K:az}(hK:br K){n:Nat}{b b':dm K.S}{d now e:Int}{p:Int×Int}(hp:qb p)(hb:BOk K n b)(h:zy K d p now b b' e):za K n 100000 b b':=by
 unfold zy at h
 split at h
 ·rw[h.1];exact hb.same
 ·obtain⟨s',ls,e1,hu,_,h⟩:=h
  have h1:=uG hK hb (hK.own_ok hb.ok hp hu)
  split at h
  ·rw[h];exact h1
  ·obtain⟨⟨a1,a2,a3,a4,a5⟩,a6,a7⟩:=h1
   refine qY h ⟨⟨a1,fun x hx=>?_,a3,a4,a5⟩,a6,a7⟩
   replace hx:x∈am (aL b.owns (0,0,p) true):=hx
   rw[gL]at hx
   split at hx
   ·exact hb.own x hx
   ·rcases List.mem_append.1 hx with hx|hx
    ·exact hb.own x hx
    ·rw[List.mem_singleton.1 hx]
theorem H5{K:az}(hK:br K){n:Nat}{b b':dm K.S}{d now e:Int}{p:Int×Int}(hp:qb p)(hb:BOk K n b)(h:uD K d p now b b' e):za K n 100000 b b':=by
 unfold uD at h
 split at h
 ·rw[h.1];exact hb.same
 ·obtain⟨_,s',ls,hu,hr⟩:=h
  obtain⟨⟨a1,a2,a3,a4,a5⟩,a6,a7⟩:=uG hK hb (hK.drop_ok hb.ok hp hu)
  exact qY hr ⟨⟨a1,fun x hx=>hb.own x ((pB.map _).subset hx),a3,a4,a5⟩,a6,a7⟩
theorem HJ{K:az}(hK:br K){n:Nat}{b b':dm K.S}{k now e:Int}{B:List UInt8}(hB:K.bok B)(hb:BOk K n b)(h:uc K k B now b b' e):za K n 100000 b b':=by
 unfold uc at h
 split at h
 ·rw[h.1];exact hb.same
 ·obtain⟨s',ls,hu,h⟩:=h
  have h0:=hK.recv_ok hb.ok hB hu
  split at h
  ·rw[h];exact⟨⟨h0.1,hb.own,hb.lnk,hb.pk,hb.lnd⟩,rfl,by show b.out.length≤_;omega⟩
  ·exact qY h (uG hK hb h0)
theorem Ii{K:az}(hK:br K){n:Nat}{b b':dm K.S}{now:Int}(hb:BOk K n b)(h:GK K now b b'):za K n 200000 b b':=by
 obtain⟨s',ps,ls,hu,hr⟩:=h
 obtain⟨h1,h2,h3,h4,h5⟩:=hK.tick_ok hb.ok (fun k hk=>hb.lnk k (JT hk).1) (BL _ _) hu
 refine qY hr ⟨⟨h1,hb.own,hb.lnk,fun p hp=>?_,hb.lnd⟩,rfl,?_⟩
 ·rcases List.mem_append.1 hp with hp|hp
  ·rcases List.mem_append.1 hp with hp|hp
   ·exact hb.pk p hp
   ·obtain⟨x,hx,rfl⟩:=List.mem_map.1 hp
    obtain⟨g1,g2⟩:=h5 x hx
    exact⟨rfl,g1,g2⟩
  ·exact PR hK h3 p hp
 ·show(b.out++_++_).length≤_
  rw[List.length_append,List.length_append,List.length_map,List.length_map]
  omega
theorem i5.more{K:az}{n:Nat}{es:List Ed}{B B':Nat}{s:en K}(h:i5 K n es B s)(hB:B≤B'):i5 K n es B' s:={h with wt:=Nat.le_trans h.wt hB}
theorem i5.settle{K:az}{n:Nat}{es:List Ed}{B:Nat}{s:en K}(h:i5 K n es B s):i5 K n es B (lW s)where
 len:=by show(s.bs.map clr).length=n;rw[List.length_map];exact h.len
 n16:=h.n16
 bok:=fun b hb=>by
  obtain⟨c,hc,rfl⟩:=List.mem_map.1 hb
  obtain⟨a1,a2,a3,a4,a5⟩:=h.bok c hc
  exact⟨a1,a2,a3,(fun p hp=>by cases hp),a5⟩
 bag:=fun p hp=>by
  rcases List.mem_append.1 hp with hp|hp
  ·exact h.bag p hp
  ·obtain⟨b,hb,hp⟩:=List.mem_flatMap.1 hp
   exact(h.bok b hb).pk p hp
 wt:=by
  have e:((s.bs.map clr).flatMap (·.out))=[]:=by rw[List.flatMap_map];simp[clr]
  show(s.bag++_).length+((s.bs.map clr).flatMap (·.out)).length≤B
  rw[e,List.length_append]
  exact h.wt
 up:=h.up
 el:=h.el
 ed:=h.ed
theorem i5.upd{K:az}{n:Nat}{es:List Ed}{B:Nat}{s:en K}(h:i5 K n es B s){up:List Bool}(hu:up.length=es.length):i5 K n es B {s with up:=up}:={h with up:=hu}
theorem C2{K:az}(hK:br K){n:Nat}{es:List Ed}{B i:Nat}{s s':en K}{e:Ed}(h:i5 K n es B s)(he:es[i]? =some e)(hr:Ag K e i s s'):i5 K n es (B+200000) s':=by
 obtain⟨bA,bA',bB,bB',x,y,h1,h2,h3,h4,rfl⟩:=hr
 obtain⟨ha,hb,_⟩:=h.ed e (List.mem_of_getElem? he)
 have g1:=h.set h1 (Ey hK (h.bok bA (List.mem_of_getElem? h1)) hb h2)
 have g2:=g1.set h3 (Ey hK (g1.bok bB (List.mem_of_getElem? h3)) ha h4)
 exact(g2.upd (up:=s.up.set i true) (by rw[List.length_set];exact h.up)).more (by omega)
theorem Nw{K:az}(hK:br K){n:Nat}{es:List Ed}{B i:Nat}{s s':en K}{e:Ed}(h:i5 K n es B s)(hr:SJ K e i s s'):i5 K n es (B+200000) s':=by
 obtain⟨bA,bA',bB,bB',x,y,h1,h2,h3,h4,rfl⟩:=hr
 have g1:=h.set h1 (Aw hK (h.bok bA (List.mem_of_getElem? h1)) h2)
 have g2:=g1.set h3 (Aw hK (g1.bok bB (List.mem_of_getElem? h3)) h4)
 exact(g2.upd (up:=s.up.set i false) (by rw[List.length_set];exact h.up)).more (by omega)
theorem i5.bagS{K:az}{n:Nat}{es:List Ed}{B:Nat}{s:en K}(h:i5 K n es B s){L:List Pk}(hs: ∀p∈L,p∈s.bag)(hl:L.length≤s.bag.length):i5 K n es B {s with bag:=L}:=
 {h with bag:=fun p hp=>h.bag p (hs p hp),wt:=by have:=h.wt;show L.length+_≤B;dsimp only;omega}
theorem E3{d x y:Int}{L:List Pk}:(∀p∈left d x y L,p∈L∧ej d x y p=false)∧(left d x y L).length≤L.length:=by
 unfold left
 exact⟨fun p hp=>by simpa using List.mem_filter.1 hp,List.length_filter_le _ _⟩
theorem HA{K:az}(hK:br K){n:Nat}{es:List Ed}{B i:Nat}{s s':en K}{e:Ed}(h:i5 K n es B s)(hr:Q2 K e i s s'):i5 K n es (B+200000) s':=by
 obtain⟨s1,h1,rfl⟩:=hr
 exact(Nw hK h h1).settle.bagS (fun p hp=>(E3.1 p hp).1) E3.2
theorem Gu{I:Ctx}{K:az}(hK:br K){n:Nat}{es:List Ed}{B:Nat}{s:en K}{q i:Nat}{m:Mem}{e:Ed}(hm:iB K n es s q m)(hok:i5 K n es B s)(hB:B+200000≤800000000)(he:es[i]? =some e):
  Fn Tryz.prog 47 #[ptV q,.int .i64 i] I m (fun v h'=>v=undef∧ ∃s',Q2 K e i s s'∧iB K n es s' q h'):=by
 obtain⟨ha,hb,hab,_⟩:=hok.ed e (List.mem_of_getElem? he)
 obtain⟨bA,hA⟩:=sJ hok.len ha
 obtain⟨bB,hBB⟩:=sJ hok.len hb
 have mA:=List.mem_of_getElem? hA
 have mB:=List.mem_of_getElem? hBB
 have o1:=lQ mA
 have o2:=lQ mB
 have hw:=hok.wt
 have hn:=hok.n16
 have hl:=hok.len
 have hu:=hok.up
 have hel:=hok.el
 refine Oq hK hm he hA hBB ha.1 hb.1 hab (hok.bok bA mA).ok (hok.bok bB mB).ok (by omega) (by omega) (by omega) hu.symm (by omega) fun s1 h1=>?_
 have g:=Nw hK hok h1
 have gw:=g.wt
 exact⟨fun b hb p hp=>by have:=hK.blen ((g.bok b hb).pk p hp).2.2;omega,by omega⟩
theorem w8{I:Ctx}{K:az}(hK:br K){n:Nat}{es:List Ed}{B:Nat}{s:en K}{q i:Nat}{m:Mem}{e:Ed}(hm:iB K n es s q m)(hok:i5 K n es B s)(hB:B+200000≤800000000)(he:es[i]? =some e):
  Fn Tryz.prog 21 #[ptV q,.int .i64 i] I m (fun v h'=>v=undef∧ ∃s',Ag K e i s s'∧iB K n es s' q h'):=by
 obtain⟨ha,hb,hab,_⟩:=hok.ed e (List.mem_of_getElem? he)
 obtain⟨bA,hA⟩:=sJ hok.len ha
 obtain⟨bB,hBB⟩:=sJ hok.len hb
 have mA:=List.mem_of_getElem? hA
 have mB:=List.mem_of_getElem? hBB
 have o1:=lQ mA
 have o2:=lQ mB
 have hw:=hok.wt
 have hn:=hok.n16
 have hl:=hok.len
 have hu:=hok.up
 have hel:=hok.el
 exact Ko hK hm he hA hBB ha.1 hb.1 hab (hok.bok bA mA).ok (hok.bok bB mB).ok hb ha (by omega) (by omega) (by omega) hu.symm (by omega)
def xh(K:az)(es:List Ed)(kd A:Int)(s s':en K)(e:Int):Prop:=
 if es.length=0 then s'=s∧e=5
 else if kd=4∧s.up[(idx A es.length).toNat]? =some true then e=0∧ ∃x,es[(idx A es.length).toNat]? =some x∧Q2 K x (idx A es.length).toNat s s'
 else if kd=5∧s.up[(idx A es.length).toNat]? =some false then e=0∧ ∃x,es[(idx A es.length).toNat]? =some x∧Ag K x (idx A es.length).toNat s s'
 else s'=s∧e=0
theorem Jo{P:Program}{I:Ctx}{f:Ctl}{Q:Value→Mem→Prop}{h:Mem}{k:(Nat→jT)→Tr}{t:TypeId}{a:Addr}{b:Bool}(ht:D2 P t=false)(hc:bh I h a (.bool b))(hk:holds P f I Q (k fun _=>{b:=b}) h):holds P f I Q (.rd (Instr.loadAt t (.pointer (some a))) (.one (.sc .bool)) k) h:=FT _ (ia ht hc rfl) hk
theorem Kb{I:Ctx}{K:az}(hK:br K){n:Nat}{es:List Ed}{Bd:Nat}{s:en K}{q:Nat}{m:Mem}{kd A B C:Int}(hm:iB K n es s q m)(hok:i5 K n es Bd s)(hBd:Bd+200000≤800000000):
  Fn Tryz.prog 25 #[ptV q,.agg #[.int .i64 kd,.int .i64 A,.int .i64 B,.int .i64 C]] I m (fun v h'=> ∃e s',v= .int .i64 e∧xh K es kd A s s' e∧iB K n es s' q h'):=by
 have hm0:=hm
 obtain⟨a,AR,cR,AU,cU,G,ps,mR,mU,mG,mB,rfl,ha,oR,oU,hG,hB⟩:=hm
 have hel:=hok.el
 have hul:=hok.up
 have bad: ∀e h gg,xh K es kd A s s e→aM h ((q,.cells (kC n es a AR AU s.bs.length cR s.up.length cU G s.now) 60 (0,0))::(a.mN++(a.hN++(a.mE++(mR++(mU++(mG++mB))))))) gg→holds Tryz.prog 25 I (cl_ fun v h'=> ∃e s',v= .int .i64 e∧xh K es kd A s s' e∧iB K n es s' q h') (.done (.int .i64 e)) h:=
  fun e h gg hr hp=>aY hp ⟨e,s,rfl,hr,hm0⟩
 refine tm _ _ _ _ _ ?_
 refine aP fun y _ _=>?_
 refine ldL mE rE kE ?_;dsimp only[ag]
 refine ay (fun t1=>bad 5 _ _ (by unfold xh;rw[if_pos (by simp at t1;simp[t1])];exact⟨rfl,rfl⟩) pE) (fun t1=>?_)
 have t1:es.length≠0:=by simp at t1;intro e;exact t1 (List.eq_nil_of_length_eq_zero e)
 have hix:=PK (A:=A) (n:=es.length) (by omega) (by omega)
 refine ldI mE rE kE ?_;dsimp only[ag];refine ldL mE rE kE ?_;dsimp only[ag]
 refine Sz (by omega) ?_
 dsimp only
 rw[show(if(0:Int)>A then 0 else A).tmod ((es.length:Nat):Int)=idx A es.length from rfl]
 have hlt:(idx A es.length).toNat<es.length:=by omega
 obtain⟨x,hx⟩: ∃x,es[(idx A es.length).toNat]? =some x:=⟨_,List.getElem?_eq_getElem hlt⟩
 obtain⟨u0,hu0⟩: ∃u,s.up[(idx A es.length).toNat]? =some u:=⟨_,List.getElem?_eq_getElem (by omega)⟩
 obtain⟨au,rfl,hcu⟩: ∃au,AU=some au∧ ∀J k,(∀z∈mU,z∈k)→df J k au (s.up.map Value.bool):=by
  obtain⟨h1,h2,⟨_,h3,_⟩|⟨b,arr,h3,_⟩⟩:=id oU
  ·omega
  ·refine⟨_,h3,fun J k hk=>?_⟩
   obtain⟨a2,e1,e2⟩:=oU.rd (I:=J) hk (fun e=>by rw[List.map_eq_nil_iff]at e;rw[e]at hu0;simp at hu0)
   rw[h3]at e1
   injection e1 with e1
   subst e1
   exact e2
 have hci: ∀J k,(∀z∈mU,z∈k)→bh J k (au.add (idx A es.length).toNat) (.bool u0):=fun J k hk=>hcu J k hk _ _ (by rw[List.getElem?_map,hu0];rfl)
 have cutg: ∀h gg,kd=4→u0=true→aM h ((q,.cells (kC n es a AR (some au) s.bs.length cR s.up.length cU G s.now) 60 (0,0))::(a.mN++(a.hN++(a.mE++(mR++(mU++(mG++mB))))))) gg→holds Tryz.prog 25 I (cl_ fun v h'=> ∃e s',v= .int .i64 e∧xh K es kd A s s' e∧iB K n es s' q h')
   (.call 47 [ptV q,.int .i64 (idx A es.length)] (.tup []) fun _=> .done (.int .i64 0)) h:=by
  intro h gg e1 e2 hp
  refine ak _ gg kJ hp (fun hl=>by
   have:=Gu (I:=plus I gg) hK hm0 hok hBd hx
   rwa[Int.toNat_of_nonneg hix.1]at this) ?_
  rintro w h3 ⟨rfl,s',hr,hm'⟩
  refine⟨fun _=>{},rfl,?_⟩
  refine aY (List.Perm.refl _) ⟨0,s',rfl,?_,hm'⟩
  unfold xh
  rw[if_neg t1,if_pos ⟨e1,by rw[hu0,e2]⟩]
  exact⟨rfl,x,hx,hr⟩
 have raiseg: ∀h gg,kd=5→u0=false→aM h ((q,.cells (kC n es a AR (some au) s.bs.length cR s.up.length cU G s.now) 60 (0,0))::(a.mN++(a.hN++(a.mE++(mR++(mU++(mG++mB))))))) gg→holds Tryz.prog 25 I (cl_ fun v h'=> ∃e s',v= .int .i64 e∧xh K es kd A s s' e∧iB K n es s' q h')
   (.call 21 [ptV q,.int .i64 (idx A es.length)] (.tup []) fun _=> .done (.int .i64 0)) h:=by
  intro h gg e1 e2 hp
  refine ak _ gg fR hp (fun hl=>by
   have:=w8 (I:=plus I gg) hK hm0 hok hBd hx
   rwa[Int.toNat_of_nonneg hix.1]at this) ?_
  rintro w h3 ⟨rfl,s',hr,hm'⟩
  refine⟨fun _=>{},rfl,?_⟩
  refine aY (List.Perm.refl _) ⟨0,s',rfl,?_,hm'⟩
  unfold xh
  rw[if_neg t1,if_neg (by omega),if_pos ⟨e1,by rw[hu0,e2]⟩]
  exact⟨rfl,x,hx,hr⟩
 have none4: ¬(kd=4∧u0=true)→ ¬(kd=5∧u0=false)→xh K es kd A s s 0:=by
  intro h1 h2
  unfold xh
  rw[if_neg t1,if_neg (by rw[hu0];simpa using h1),if_neg (by rw[hu0];simpa using h2)]
  exact⟨rfl,rfl⟩
 refine ldI mE rE kE ?_;dsimp only[ag]
 refine ay (fun t2=>?_) (fun t2=>?_)
 ·have t2:kd=4:=by simpa using t2
  refine ldL mE rE kE ?_;dsimp only[ag]
  refine aI au rfl (sz:=1) kE (by omega) (by omega) rfl ?_
  dsimp only
  rw[Nat.mul_one]
  refine Jo kE (hci _ _ sE) ?_
  refine ay (fun t3=>?_) (fun t3=>?_)
  ·exact cutg _ _ t2 t3 pE
  ·refine ldI mE rE kE ?_;dsimp only[ag]
   refine b7 (by simp;omega) ?_
   exact bad 0 _ _ (none4 (fun h=>by simp[h.2]at t3) (fun h=>by omega)) pE
 ·have t2:kd≠4:=by simpa using t2
  refine ldI mE rE kE ?_;dsimp only[ag]
  refine ay (fun t4=>?_) (fun t4=>?_)
  ·have t4:kd=5:=by simpa using t4
   refine ldL mE rE kE ?_;dsimp only[ag]
   refine aI au rfl (sz:=1) kE (by omega) (by omega) rfl ?_
   dsimp only
   rw[Nat.mul_one]
   refine Jo kE (hci _ _ sE) ?_
   refine ay (fun t3=>?_) (fun t3=>?_)
   ·exact raiseg _ _ t4 (by simpa using t3) pE
   ·exact bad 0 _ _ (none4 (fun h=>by omega) (fun h=>by simp[h.2]at t3)) pE
  ·have t4:kd≠5:=by simpa using t4
   exact bad 0 _ _ (none4 (fun h=>by omega) (fun h=>by omega)) pE
theorem CJ{I:Ctx}{K:az}(hK:br K){n q:Nat}{cs:Array Value}{fz:Nat×Nat}{A:Option Addr}{c:Nat}{csn:List Value}{id:Int}(hI:I q=some (.cells cs 60 fz))(h0:cs[0]? =some (.slice A n c))(hr:RdC I [] A csn)(hn:nE K I n csn)(hid:Nn n id)(hn16:n≤16):
  Fn Tryz.prog 19 #[ptV q,.int .i64 id] I [] (fun v h'=> ∃p,v= .tuple #[ptV p,.int .i64 0]∧cW K (DD K id) p h'):=by
 have h1:=hid.1
 have h2:=hid.2
 refine qT _ _ ?_
 refine dS kE (uB hI h0) ?_
 dsimp only
 rw[cr (by omega)]
 obtain⟨Aj,cj,g1,g2,g3⟩:=hn.get (i:=(id - 1).toNat) (by omega)
 obtain⟨ad,rfl,hcell⟩:=hr (fun e=>by have:=g3 0 _ rfl;rw[e]at this;simp at this)
 refine aI ad rfl (sz:=2) kE (by omega) (by omega) rfl ?_
 dsimp only
 refine bL (cs:=[.slice Aj 1 cj,.slice none 0 0]) (ag [{A:=Aj,n:=1,c:=cj},{A:=none,n:=0,c:=0}]) kE kE (fun k v hk=>by rw[add_add];exact(hcell _ v (g3 k v hk)).sub Sub.self) rfl ?_
 dsimp only[ag]
 refine bt K3 fun y _ _=>?_
 refine stU uE kE rE vE ?_;dsimp only[ag];refine ldL mE rE kE ?_;dsimp only[ag];refine ldL mE rE kE ?_;dsimp only[ag]
 refine ak [] _ FP (List.Perm.refl _) (fun hl=>F1 hK (by omega) (g2.up (Sub.self.up hl)) g1) ?_
 rintro w h3 ⟨p,rfl,hb⟩
 refine⟨ag [{A:=some ⟨p,0,none⟩},{i:=0}],rfl,?_⟩
 exact aY (List.Perm.refl _) ⟨p,rfl,hb⟩
def K9(es:List Ed)(up:List Bool)(id:Int)(j:Nat):Bool:=match up[j]?,es[j]? with
 |some u,some e=>u&&(e.a==id||e.b==id)
 |_,_=>false
def BQ(es:List Ed)(up:List Bool)(id:Int)(i:Nat):List Nat:=(List.range i).filter (K9 es up id)
theorem yD(es:List Ed)(up:List Bool)(id:Int)(i:Nat):BQ es up id (i+1)=BQ es up id i++if K9 es up id i then[i]else[]:=by
 unfold BQ
 rw[List.range_succ,List.filter_append,List.filter_cons,List.filter_nil]
theorem BV(es:List Ed)(up:List Bool)(id:Int)(i:Nat):(BQ es up id i).length≤i:=by
 unfold BQ
 refine Nat.le_trans (List.length_filter_le _ _) ?_
 simp
theorem J0{es:List Ed}{up:List Bool}{id:Int}{i j:Nat}(h:j∈BQ es up id i):j<i∧ ∃e,es[j]? =some e∧up[j]? =some true∧(e.a=id∨e.b=id):=by
 unfold BQ at h
 obtain⟨h1,h2⟩:=List.mem_filter.1 h
 refine⟨List.mem_range.1 h1,?_⟩
 unfold K9 at h2
 split at h2
 ·rename_i u e e1 e2
  rw[Bool.and_eq_true]at h2
  refine⟨e,e2,by rw[e1,h2.1],by simpa using h2.2⟩
 ·cases h2
abbrev No(l:List Nat):List Value:=l.flatMap fun j=>[Value.int .i64 ((j:Nat):Int)]
theorem Jm(l:List Nat):No l=l.map fun j=>Value.int .i64 ((j:Nat):Int):=by
 induction l with
 |nil=>rfl
 |cons a l ih=>rw[No,List.flatMap_cons,List.map_cons];exact congrArg _ ih
def F0(K:az)(es:List Ed):List Nat→en K→en K→Prop
 |[],s,s'=>s'=s
 |i::l,s,s'=> ∃e s1,es[i]? =some e∧Q2 K e i s s1∧F0 K es l s1 s'
def nS(K:az)(es:List Ed):List Nat→en K→en K→Prop
 |[],s,s'=>s'=s
 |i::l,s,s'=> ∃e s1,es[i]? =some e∧Ag K e i s s1∧nS K es l s1 s'
theorem D7{K:az}{es:List Ed}: ∀{l:List Nat} {i:Nat} {s s1 s':en K} {e:Ed},F0 K es l s s1→es[i]? =some e→Q2 K e i s1 s'→F0 K es (l++[i]) s s'
 |[],i,s,s1,s',e,h,he,hc=>by rw[show s1=s from h]at hc;exact⟨e,s',he,hc,rfl⟩
 |j::l,i,s,s1,s',e,⟨e0,s0,a,b,h⟩,he,hc=>⟨e0,s0,a,b,D7 h he hc⟩
theorem ud{K:az}{es:List Ed}: ∀{l:List Nat} {i:Nat} {s s1 s':en K} {e:Ed},nS K es l s s1→es[i]? =some e→Ag K e i s1 s'→nS K es (l++[i]) s s'
 |[],i,s,s1,s',e,h,he,hc=>by rw[show s1=s from h]at hc;exact⟨e,s',he,hc,rfl⟩
 |j::l,i,s,s1,s',e,⟨e0,s0,a,b,h⟩,he,hc=>⟨e0,s0,a,b,ud h he hc⟩
theorem xS{K:az}(hK:br K){n:Nat}{es:List Ed}: ∀{l:List Nat} {B:Nat} {s s':en K},i5 K n es B s→F0 K es l s s'→i5 K n es (B+l.length*200000) s'
 |[],B,s,s',h,hc=>by rw[show s'=s from hc];exact h.more (by omega)
 |i::l,B,s,s',h,⟨e,s1,he,hc,hr⟩=>(xS hK (HA hK h hc) hr).more (by rw[List.length_cons];omega)
theorem nc{K:az}(hK:br K){n:Nat}{es:List Ed}: ∀{l:List Nat} {B:Nat} {s s':en K},i5 K n es B s→nS K es l s s'→i5 K n es (B+l.length*200000) s'
 |[],B,s,s',h,hc=>by rw[show s'=s from hc];exact h.more (by omega)
 |i::l,B,s,s',h,⟨e,s1,he,hc,hr⟩=>(nc hK (C2 hK h he hc) hr).more (by rw[List.length_cons];omega)
def Dd(K:az)(id:Int)(s:en K):en K:={s with bs:=s.bs.set (id - 1).toNat (DD K id)}
def wo(K:az)(es:List Ed)(id:Int)(s s':en K)(e:Int):Prop:=
 if¬Nn s.bs.length id then s'=s∧e=5
 else e=0∧ ∃s1,F0 K es (BQ es s.up id es.length) s s1∧nS K es (BQ es s.up id es.length) (Dd K id s1) s'
theorem CL{K:az}(hK:br K){n:Nat}{es:List Ed}{B:Nat}{id:Int}{s:en K}(h:i5 K n es B s)(hid:Nn n id):i5 K n es B (Dd K id s):=by
 obtain⟨b,hb⟩:=sJ h.len hid
 have hn:=h.n16
 have h1:=hid.1
 have h2:=hid.2
 have g:za K n 0 b {DD K id with id:=b.id}:=⟨⟨hK.new_ok (by omega),(fun x hx=>by cases hx),(fun k hk=>by simp[ah]at hk),(fun p hp=>by cases hp),List.nodup_nil⟩,rfl,Nat.zero_le _⟩
 have h3:=h.set hb g
 exact {
     len:=by show(s.bs.set _ _).length=n;rw[List.length_set];exact h.len
     n16:=h.n16
     bok:=fun c hc=>(List.mem_or_eq_of_mem_set hc).elim (h.bok c) fun e=>by
      subst e
      exact⟨hK.new_ok (by omega),(fun x hx=>by cases hx),(fun k hk=>by simp[ah]at hk),(fun p hp=>by cases hp),List.nodup_nil⟩
     bag:=h.bag
     wt:=by
      have g1:=Au (b':=DD K id) hb
      have g2:=h.wt
      show s.bag.length+((s.bs.set (id - 1).toNat (DD K id)).flatMap (·.out)).length≤B
      have:(DD K id).out.length=0:=rfl
      omega
     up:=h.up
     el:=h.el
     ed:=h.ed}
theorem NF{K:az}(hK:br K){n:Nat}{es:List Ed}{B:Nat}{id e:Int}{s s':en K}(h:i5 K n es B s)(hr:wo K es id s s' e):i5 K n es (B+es.length*400000) s':=by
 unfold wo at hr
 split at hr
 ·rw[hr.1];exact h.more (by omega)
 ·rename_i hid
  obtain⟨_,s1,h1,h2⟩:=hr
  have hid:Nn n id:=by have:=Classical.not_not.1 hid;rwa[h.len]at this
  have hl:=BV es s.up id es.length
  exact(nc hK (CL hK (xS hK h h1) hid) h2).more (by omega)
theorem Q6{I:Ctx}{K:az}(hK:br K){n:Nat}{es:List Ed}{B:Nat}{s0:en K}{q:Nat}{l:List Nat}{A5:Option Addr}{c5:Nat}{ml:Mem}{Q:Value→Mem→Prop}(ol:Own 3 1 A5 l.length c5 (No l) ml)(hle: ∀j∈l,j<es.length)(hll:l.length≤32)(hok:i5 K n es B s0)(hB:B+l.length*200000≤800000000)
  (hQ: ∀s' m,nS K es l s0 s'→iB K n es s' q m→Q (.int .i64 0) m):
  ∀(k i:Nat) (s:en K) (m h gg:Mem) (u:Nat→Value),i+k=l.length→nS K es (l.take i) s0 s→iB K n es s q m→aM h (ml++m) gg→
  Wp Tryz.prog 27 dD (dn ⟨q,0,none⟩ A5 l.length c5 i u) I h (cl_ Q):=by
 intro k
 induction k with
 |zero=>
  intro i s m h gg u hi hr hm hp
  rw[List.take_of_length_le (by omega)]at hr
  refine jj _ _ _ _ _ _ ?_
  refine b7 (by simp;omega) ?_
  exact aY (h1:=m) (g:=ml++gg) (List.Perm.trans hp cE) (hQ s m hr hm)
 |succ k ih=>
  intro i s m h gg u hi hr hm hp
  obtain⟨j,hj⟩: ∃j,l[i]? =some j:=⟨_,List.getElem?_eq_getElem (show i<l.length by omega)⟩
  have htk:l.take (i+1)=l.take i++[j]:=(ep (List.Perm.refl l) hj).2
  have hjl:=hle j (List.mem_of_getElem? hj)
  obtain⟨e,he⟩: ∃e,es[j]? =some e:=⟨_,List.getElem?_eq_getElem hjl⟩
  have hc0:(No l)[i]? =some (.int .i64 ((j:Nat):Int)):=by rw[Jm,List.getElem?_map,hj];rfl
  have hokS:=(nc hK hok hr)
  have hlt:(l.take i).length=i:=by rw[List.length_take];omega
  rw[hlt]at hokS
  have hmul:i*200000+200000≤l.length*200000:=by omega
  refine Wp.perm (h:=ml++(m++gg)) ?_ ((List.Perm.trans hp cE).symm)
  refine jj _ _ _ _ _ _ ?_
  refine aX (by simp;omega) ?_
  obtain⟨ad,rfl,hcell⟩:=ol.rd (I:=I) (h:=ml++(m++gg)) (fun x hx=>List.mem_append_left _ hx) (fun e=>by rw[e]at hc0;simp at hc0)
  refine aI ad rfl (sz:=1) kE (by omega) (by omega) rfl ?_
  dsimp only
  rw[Int.toNat_natCast,Nat.mul_one]
  refine aZ kE (hcell i _ hc0) ?_
  dsimp only
  refine ak m _ fR (aM.perm (m:=m) pE) (fun hl=>w8 hK hm hokS (by omega) he) ?_
  rintro w h2 ⟨rfl,s',hr2,hm2⟩
  refine⟨fun _=>{},rfl,?_⟩
  refine aj fun _ _=>?_
  rw[dT (by omega)]
  exact ih (i+1) s' h2 _ _ _ (by omega) (by rw[htk];exact ud hr he hr2) hm2 pE
theorem Qe{I:Ctx}{K:az}(hK:br K){n:Nat}{es:List Ed}{B:Nat}{s0:en K}{q:Nat}{id:Int}{l:List Nat}{A5:Option Addr}{c5:Nat}{ml:Mem}{Q:Value→Mem→Prop}(ol:Own 3 1 A5 l.length c5 (No l) ml)(hle: ∀j∈l,j<es.length)(hll:l.length≤32)(hok:i5 K n es B s0)(hB:B+l.length*400000≤800000000)(hid:Nn n id)
  (hQ: ∀s1 s' m,F0 K es l s0 s1→nS K es l (Dd K id s1) s'→iB K n es s' q m→Q (.int .i64 0) m):
  ∀(k i:Nat) (s:en K) (m h gg:Mem) (u:Nat→Value),i+k=l.length→F0 K es (l.take i) s0 s→iB K n es s q m→aM h (ml++m) gg→
  Wp Tryz.prog 27 dI (dz ⟨q,0,none⟩ id A5 l.length c5 i u) I h (cl_ Q):=by
 intro k
 induction k with
 |zero=>
  intro i s m h gg u hi hr hm hp
  rw[List.take_of_length_le (by omega)]at hr
  have hokS:=xS hK hok hr
  have hlen:=hokS.len
  have hn16:=hokS.n16
  have h1:=hid.1
  have h2:=hid.2
  obtain⟨a,AR,cR,AU,cU,G,ps,mR,mU,mG,mB,rfl,ha,oR,oU,hG,hB2⟩:=hm
  have hpl:=hB2.len
  refine Wp.perm (h:=ml++((q,.cells (kC n es a AR AU s.bs.length cR s.up.length cU G s.now) 60 (0,0))::(a.mN++(a.hN++(a.mE++(mR++(mU++(mG++mB))))))++gg)) ?_ ((List.Perm.trans hp cE).symm)
  simp only[List.cons_append,List.append_assoc]
  refine jd _ _ _ _ _ _ _ ?_
  refine b7 (by simp;omega) ?_
  refine ldL mE rE kE ?_;dsimp only[ag]
  refine ak [] _ jb (List.Perm.refl _) (fun hl=>CJ hK (c:=a.cN) (csn:=a.csn) (A:=a.AN) (aF hl (.inl mE)) (by rfl) ((ha.on.rd sE).all hl) (ha.nods.up fun b o hb=>aF hl (.inl (by have:=p9 hb;simp[this]))) hid hn16) ?_
  rintro w hw ⟨p',rfl,hbn⟩
  refine⟨ag [{A:=some ⟨p',0,none⟩},{i:=0}],rfl,?_⟩
  dsimp only[ag]
  refine pn1 mE rE kE ?_
  obtain⟨b,hb⟩:=sJ hlen hid
  obtain⟨p1,m1,mz1,hp1,hperm1,hb1,hset1⟩:=hB2.get hb
  obtain⟨ar,rfl,hcr⟩:=oR.rd (I:=I) (h:=mR) (fun x hx=>hx) (fun e=>by rw[List.map_eq_nil_iff]at e;rw[e]at hp1;simp at hp1)
  rw[cr (by omega)]
  refine aI ar rfl (sz:=1) kE (by omega) (by omega) rfl ?_
  dsimp only
  rw[Nat.mul_one]
  refine iH (id - 1).toNat (m:=mR) (cl_.aff _) (aM.perm (m:=mR) pE) oR rfl kE (by simp[Value.cells];omega) (by simp[Value.cells]) ?_
  intro mR' oR'
  rw[show(ptV p').cells.toList=[ptV p']from rfl,HI p' (by omega)]at oR'
  refine aj fun _ _=>?_
  obtain⟨mB',hB',hq'⟩:=hset1 (DD K id) p' hw hbn
  have hm':iB K n es (Dd K id s) q ((q,.cells (kC n es a (some ar) AU s.bs.length cR s.up.length cU G s.now) 60 (0,0))::(a.mN++(a.hN++(a.mE++(mR'++(mU++(mG++mB'))))))):=
   ⟨a,some ar,cR,AU,cU,G,ps.set (id - 1).toNat p',mR',mU,mG,mB',by unfold Dd;dsimp only;rw[List.length_set],ha,by unfold Dd;dsimp only;rw[List.length_set];exact oR',oU,hG,hB'⟩
  refine Q6 hK ol hle hll (CL hK hokS hid) (by omega) (fun s' m' hr' hm''=>hQ s s' m' hr hr' hm'') l.length 0 _ _ _ (m1++gg) _ (by omega) rfl hm' ?_
  refine List.Perm.trans (l₂:=mR'++(hw++(ml++((q,.cells (kC n es a (some ar) AU s.bs.length cR s.up.length cU G s.now) 60 (0,0))::(a.mN++(a.hN++(a.mE++(mU++(mG++((m1++mz1)++gg)))))))))) ?_ ?_
  ·refine List.Perm.trans (l₂:=mR'++(hw++(ml++((q,.cells (kC n es a (some ar) AU s.bs.length cR s.up.length cU G s.now) 60 (0,0))::(a.mN++(a.hN++(a.mE++(mU++(mG++(mB++gg)))))))))) cE ?_
   exact(aD fun D_ a_=>by have e0_:=List.Perm.count_eq (hperm1) a_;simp only[Value.cells,List.count_append,List.count_cons,List.count_nil,List.nil_append,List.cons_append,List.append_nil,List.append_assoc]at e0_;simp only[Value.cells,List.count_append,List.count_cons,List.count_nil,List.nil_append,List.cons_append,List.append_nil,List.append_assoc]<;>omega)
  ·exact(aD fun D_ a_=>by have e0_:=List.Perm.count_eq (hq') a_;simp only[Value.cells,List.count_append,List.count_cons,List.count_nil,List.nil_append,List.cons_append,List.append_nil,List.append_assoc]at e0_;simp only[Value.cells,List.count_append,List.count_cons,List.count_nil,List.nil_append,List.cons_append,List.append_nil,List.append_assoc]<;>omega)
 |succ k ih=>
  intro i s m h gg u hi hr hm hp
  obtain⟨j,hj⟩: ∃j,l[i]? =some j:=⟨_,List.getElem?_eq_getElem (show i<l.length by omega)⟩
  have htk:l.take (i+1)=l.take i++[j]:=(ep (List.Perm.refl l) hj).2
  have hjl:=hle j (List.mem_of_getElem? hj)
  obtain⟨e,he⟩: ∃e,es[j]? =some e:=⟨_,List.getElem?_eq_getElem hjl⟩
  have hc0:(No l)[i]? =some (.int .i64 ((j:Nat):Int)):=by rw[Jm,List.getElem?_map,hj];rfl
  have hokS:=(xS hK hok hr)
  have hlt:(l.take i).length=i:=by rw[List.length_take];omega
  rw[hlt]at hokS
  have hmul:i*200000+200000≤l.length*200000:=by omega
  refine Wp.perm (h:=ml++(m++gg)) ?_ ((List.Perm.trans hp cE).symm)
  refine jd _ _ _ _ _ _ _ ?_
  refine aX (by simp;omega) ?_
  obtain⟨ad,rfl,hcell⟩:=ol.rd (I:=I) (h:=ml++(m++gg)) (fun x hx=>List.mem_append_left _ hx) (fun e=>by rw[e]at hc0;simp at hc0)
  refine aI ad rfl (sz:=1) kE (by omega) (by omega) rfl ?_
  dsimp only
  rw[Int.toNat_natCast,Nat.mul_one]
  refine aZ kE (hcell i _ hc0) ?_
  dsimp only
  refine ak m _ kJ (aM.perm (m:=m) pE) (fun hl=>Gu hK hm hokS (by omega) he) ?_
  rintro w h2 ⟨rfl,s',hr2,hm2⟩
  refine⟨fun _=>{},rfl,?_⟩
  refine aj fun _ _=>?_
  rw[dT (by omega)]
  exact ih (i+1) s' h2 _ _ _ (by omega) (by rw[htk];exact D7 hr he hr2) hm2 pE
end Go.Proofs.YtadanegddceleaaGreatS
