import Derived.Test.YtadanegddceleaaGreatqam
import Derived.Test.YtadanegddceleaaGreatqav
set_option linter.unusedSimpArgs false
set_option linter.unusedVariables false
set_option maxRecDepth 20000
namespace Go.Proofs.YtadanegddceleaaGreatS
abbrev plK(k:Int):Pl:=(0,k,(0,0))
theorem Jg:iC Tryz.prog 3=some (.int .i64 0):=by kernel_rfl
def sent(K:az)(b:dm K.S)(s':K.S)(ls:List Ltr):dm K.S:={b with s:=s',out:=b.out++ls.map (lpk b.id)}
def uS(K:az)(k c:Int)(b b':dm K.S)(e:Int):Prop:=
 if k<1∨k>32∨k=b.id∨c<1∨c>15 then b'=b∧e=1
 else if(ah b.links (plK k)).getD 0>0 then b'=b∧e=6
 else e=0∧ ∃s' ls,K.up k c b.s s' ls∧JK K {sent K b s' ls with links:=aL b.links (plK k) c} b'
def nj(K:az)(k now:Int)(b b':dm K.S)(e:Int):Prop:=
 if(ah b.links (plK k)).getD 0=0 then b'=b∧e=5
 else e=0∧ ∃s' ls,K.down k now b.s s' ls∧JK K {sent K b s' ls with links:=dq b.links (plK k)} b'
theorem G8{I:Ctx}{K:az}(hK:br K){N:Int→Prop}{b:dm K.S}{p:Nat}{m:Mem}{k c now:Int}(hm:cW K b p m)(hok:K.ok N b.s)(hN:N k)(hbd:b.out.length≤900000000):
  Fn Tryz.prog 40 #[ptV p,.int .i64 0,.int .i64 k,.int .i64 c,.int .i64 now] I m (fun v h'=> ∃e b',v= .int .i64 e∧uS K k c b b' e∧cW K b' p h'):=by
 have hm0:=hm
 obtain⟨ps,L,O,C,T,A0,c0,lo,oo,co,cs,ms,mt,mo,hb,rfl,g1,g2,g3,g4,g5,g6,g7⟩:=hm
 refine vQ _ _ _ _ _ ?_
 refine ak [] _ lq (List.Perm.refl _) (fun hl=>En (d:=0) (v:=ifV K ps) (aF hl (.inl mq0)) (by rfl) (.inl rfl)) ?_
 rintro w h1 ⟨rfl,rfl⟩
 refine⟨fun _=>{v:=ifV K ps},by rw[if_pos rfl];rfl,?_⟩
 rw[List.nil_append]
 refine bt BB fun y _ _=>?_
 refine stU uE kE rE vE ?_;dsimp only[ag]
 refine ifE ?_
 refine b7 rfl ?_
 have bad: ∀e h gg,uS K k c b b e→aM h ((p,.cells (wp K b ps L O C T A0 c0) 101 (0,0))::(L,lo)::(O,oo)::(C,co)::(ms++(mt++(mo++hb)))) gg→holds Tryz.prog 40 I (cl_ fun v h'=> ∃e b',v= .int .i64 e∧uS K k c b b' e∧cW K b' p h') (.done (.int .i64 e)) h:=
  fun e h gg hr hp=>aY hp ⟨e,b,rfl,hr,hm0⟩
 have badE:(k<1∨k>32∨k=b.id∨c<1∨c>15)→uS K k c b b 1:=fun h=>by unfold uS;rw[if_pos h];exact⟨rfl,rfl⟩
 refine ay (fun t1=>bad _ _ _ (badE (by simp at t1;omega)) pE) (fun t1=>?_)
 refine ay (fun t2=>bad _ _ _ (badE (by simp at t2;omega)) pE) (fun t2=>?_)
 refine ldI mE rE kE ?_;dsimp only[ag]
 refine ay (fun t3=>bad _ _ _ (badE (by simp at t3;omega)) pE) (fun t3=>?_)
 refine ay (fun t4=>bad _ _ _ (badE (by simp at t4;omega)) pE) (fun t4=>?_)
 refine ay (fun t5=>bad _ _ _ (badE (by simp at t5;omega)) pE) (fun t5=>?_)
 have hgood: ¬(k<1∨k>32∨k=b.id∨c<1∨c>15):=by simp at t1 t2 t3 t4 t5;omega
 refine ldM (mq1 mq0) (by rfl) kE ?_
 refine la9 mE rE kE ?_;dsimp only[ag]
 refine dZ Py rfl Jg (.inl mE) g1 (x:=plK k) (ok:=false) (fun _=>{i:=(ah b.links (plK k)).getD 0}) (by cases ah b.links (plK k)<;>rfl) ?_
 dsimp only
 refine ay (fun t6=>bad _ _ _ (by unfold uS;rw[if_neg hgood,if_pos (by simpa using t6)];exact⟨rfl,rfl⟩) pE) (fun t6=>?_)
 refine ldM (mq1 mq0) (by rfl) kE ?_
 refine la9 mE rE kE ?_;dsimp only[ag]
 refine uw (cl_.aff _) Py rfl (aM.perm1 pE) g1 (x:=plK k) c rfl fun lo' hlo'=>?_
 refine oa ms _ (hK.su ps _ _) (aM.perm (m:=ms) pE) (fun hl=>hK.up g4 hok) ?_
 rintro w h2 ⟨s',ls,m1,m2,hup,rfl,hM,A,cc,rfl,hls⟩
 obtain⟨hok',hln,hlok⟩:=hK.up_ok hok hN hup
 refine⟨fun _=>{A:=A,n:=ls.length,c:=cc},rfl,?_⟩
 have hm1:cW K {b with s:=s',links:=aL b.links (plK k) c} p ((p,.cells (wp K {b with s:=s',links:=aL b.links (plK k) c} ps L O C T A0 c0) 101 (0,0))::(L,lo')::(O,oo)::(C,co)::(m1++(mt++(mo++hb)))):=⟨ps,L,O,C,T,A0,c0,lo',oo,co,cs,m1,mt,mo,hb,rfl,hlo',g2,g3,hM,g5,g6,g7⟩
 rw[List.append_assoc]
 refine ak _ _ bM (aM.perm (m:=((p,.cells (wp K {b with s:=s',links:=aL b.links (plK k) c} ps L O C T A0 c0) 101 (0,0))::(L,lo')::(O,oo)::(C,co)::(m1++(mt++(mo++hb))))++m2) pE) (fun hl=>jJ hm1 ⟨A,cc,rfl,hls⟩ (fun l hl=>(hK.ltr (hlok l hl)).1) (by omega) hbd) ?_
 rintro w h3 ⟨rfl,hm3⟩
 refine⟨fun _=>{},rfl,?_⟩
 refine ak h3 _ bN (List.Perm.refl _) (fun hl=>jF hK hm3 hok') ?_
 rintro w h4 ⟨rfl,b',hr,hm4⟩
 refine⟨fun _=>{},rfl,?_⟩
 refine aY (List.Perm.refl _) ⟨0,b',rfl,?_,hm4⟩
 unfold uS
 rw[if_neg hgood,if_neg (by simpa using t6)]
 exact⟨rfl,s',ls,hup,hr⟩
theorem Cc{I:Ctx}{K:az}(hK:br K){N:Int→Prop}{b:dm K.S}{p:Nat}{m:Mem}{k now:Int}(hm:cW K b p m)(hok:K.ok N b.s)(hbd:b.out.length≤900000000):
  Fn Tryz.prog 68 #[ptV p,.int .i64 0,.int .i64 k,.int .i64 now] I m (fun v h'=> ∃e b',v= .int .i64 e∧nj K k now b b' e∧cW K b' p h'):=by
 have hm0:=hm
 obtain⟨ps,L,O,C,T,A0,c0,lo,oo,co,cs,ms,mt,mo,hb,rfl,g1,g2,g3,g4,g5,g6,g7⟩:=hm
 refine s8 _ _ _ _ ?_
 refine bt BB fun y _ _=>?_
 refine stU uE kE rE vE ?_;dsimp only[ag]
 refine ldM (mq1 mq0) (by rfl) kE ?_
 refine la9 mE rE kE ?_;dsimp only[ag]
 refine dZ Py rfl Jg (.inl mE) g1 (x:=plK k) (ok:=false) (fun _=>{i:=(ah b.links (plK k)).getD 0}) (by cases ah b.links (plK k)<;>rfl) ?_
 dsimp only
 refine ay (fun t6=>?_) (fun t6=>?_)
 ·refine aY (aM.perm (m:=(p,.cells (wp K b ps L O C T A0 c0) 101 (0,0))::(L,lo)::(O,oo)::(C,co)::(ms++(mt++(mo++hb)))) pE) ⟨5,b,rfl,?_,hm0⟩
  unfold nj
  rw[if_pos (by simpa using t6)]
  exact⟨rfl,rfl⟩
 refine ldM (mq1 mq0) (by rfl) kE ?_
 refine la9 mE rE kE ?_;dsimp only[ag]
 refine C3 (cl_.aff _) Py rfl (aM.perm1 pE) g1 (x:=plK k) fun lo' hlo'=>?_
 refine ko (e:=95) (sz:=1) (n:=16) kE kE (by omega) (by omega) ?_
 dsimp only
 refine ldV (b:=p) mE (by rfl) kE ?_
 refine oa ms _ (hK.sd ps _ _) (aM.perm (m:=ms) pE) (fun hl=>hK.down g4 hok) ?_
 rintro w h2 ⟨s',ls,m1,m2,hup,rfl,hM,A,cc,rfl,hls⟩
 obtain⟨hok',hln,hlok⟩:=hK.down_ok hok hup
 refine⟨fun _=>{A:=A,n:=ls.length,c:=cc},rfl,?_⟩
 have hm1:cW K {b with s:=s',links:=dq b.links (plK k)} p ((p,.cells (wp K {b with s:=s',links:=dq b.links (plK k)} ps L O C T A0 c0) 101 (0,0))::(L,lo')::(O,oo)::(C,co)::(m1++(mt++(mo++hb)))):=⟨ps,L,O,C,T,A0,c0,lo',oo,co,cs,m1,mt,mo,hb,rfl,hlo',g2,g3,hM,g5,g6,g7⟩
 rw[List.append_assoc]
 refine ak _ _ bM (aM.perm (m:=((p,.cells (wp K {b with s:=s',links:=dq b.links (plK k)} ps L O C T A0 c0) 101 (0,0))::(L,lo')::(O,oo)::(C,co)::(m1++(mt++(mo++hb))))++m2) pE) (fun hl=>jJ hm1 ⟨A,cc,rfl,hls⟩ (fun l hl=>(hK.ltr (hlok l hl)).1) (by omega) hbd) ?_
 rintro w h3 ⟨rfl,hm3⟩
 refine⟨fun _=>{},rfl,?_⟩
 refine ak h3 _ bN (List.Perm.refl _) (fun hl=>jF hK hm3 hok') ?_
 rintro w h4 ⟨rfl,b',hr,hm4⟩
 refine⟨fun _=>{},rfl,?_⟩
 refine aY (List.Perm.refl _) ⟨0,b',rfl,?_,hm4⟩
 unfold nj
 rw[if_neg (by simpa using t6)]
 exact⟨rfl,s',ls,hup,hr⟩
def zy(K:az)(d:Int)(p:Int×Int)(now:Int)(b b':dm K.S)(e:Int):Prop:=
 if d≠0 then b'=b∧e=1
 else∃s' ls e1,K.own p now b.s s' ls e1∧e=e1∧if e1≠0 then b'=sent K b s' ls else JK K {sent K b s' ls with owns:=aL b.owns (0,0,p) true} b'
def uD(K:az)(d:Int)(p:Int×Int)(now:Int)(b b':dm K.S)(e:Int):Prop:=
 if(ah b.owns (d,0,p)).getD false=false then b'=b∧e=5
 else e=0∧ ∃s' ls,K.drop p now b.s s' ls∧JK K {sent K b s' ls with owns:=dq b.owns (d,0,p)} b'
theorem ND{I:Ctx}{K:az}(hK:br K){N:Int→Prop}{b:dm K.S}{q:Nat}{m:Mem}{d now:Int}{p:Int×Int}(hm:cW K b q m)(hok:K.ok N b.s)(hp:qb p)(hbd:b.out.length≤900000000):
  Fn Tryz.prog 49 #[ptV q,.int .i64 d,pfV p,.int .i64 now] I m (fun v h'=> ∃e b',v= .int .i64 e∧zy K d p now b b' e∧cW K b' q h'):=by
 have hm0:=hm
 obtain⟨ps,L,O,C,T,A0,c0,lo,oo,co,cs,ms,mt,mo,hb,rfl,g1,g2,g3,g4,g5,g6,g7⟩:=hm
 refine xg _ _ _ _ _ ?_
 refine aP fun y _ _=>?_
 refine ak [] _ lq (List.Perm.refl _) (fun hl=>En (d:=d) (v:=ifV K ps) (aF hl (.inl (mq1 mq0))) (by rfl) ?_) ?_
 ·by_cases h:d=0
  ·exact .inl h
  ·refine .inr (.inr (.inr fun i h1 h2=>?_))
   obtain rfl|rfl|rfl|rfl|rfl|rfl|rfl|rfl|rfl|rfl|rfl|rfl|rfl|rfl|rfl:i=1∨i=2∨i=3∨i=4∨i=5∨i=6∨i=7∨i=8∨i=9∨i=10∨i=11∨i=12∨i=13∨i=14∨i=15:=by omega
   all_goals rfl
 rintro w h1 ⟨rfl,rfl⟩
 by_cases hd:d=0
 ·subst hd
  rw[if_pos rfl]
  refine⟨fun _=>{v:=ifV K ps},rfl,?_⟩
  rw[List.nil_append]
  refine ifE ?_
  refine b7 rfl ?_
  refine lz mE rE kE ?_;dsimp only[ag]
  refine oa ms _ (hK.so ps _ _) (aM.perm (m:=ms) pE) (fun hl=>hK.own (p:=p) g4 hok hp) ?_
  rintro w h2 ⟨sv,e1,rfl,s',ls,m1,m2,hup,rfl,hM,A,cc,rfl,hls⟩
  obtain⟨hok',hln,hlok⟩:=hK.own_ok hok hp hup
  refine⟨ag [{A:=A,n:=ls.length,c:=cc},{i:=e1}],rfl,?_⟩
  dsimp only[ag]
  have hm1:cW K {b with s:=s'} q ((q,.cells (wp K {b with s:=s'} ps L O C T A0 c0) 101 (0,0))::(L,lo)::(O,oo)::(C,co)::(m1++(mt++(mo++hb)))):=⟨ps,L,O,C,T,A0,c0,lo,oo,co,cs,m1,mt,mo,hb,rfl,g1,g2,g3,hM,g5,g6,g7⟩
  rw[List.append_assoc]
  refine ak _ _ bM (aM.perm (m:=((q,.cells (wp K {b with s:=s'} ps L O C T A0 c0) 101 (0,0))::(L,lo)::(O,oo)::(C,co)::(m1++(mt++(mo++hb))))++m2) pE) (fun hl=>jJ hm1 ⟨A,cc,rfl,hls⟩ (fun l hl=>(hK.ltr (hlok l hl)).1) (by omega) hbd) ?_
  rintro w h3 ⟨rfl,hm3⟩
  refine⟨fun _=>{},rfl,?_⟩
  refine ay (fun t1=>?_) (fun t1=>?_)
  ·have t1:e1≠0:=by simpa using t1
   refine aY (aM.perm (m:=h3) pE) ⟨e1,_,rfl,?_,hm3⟩
   unfold zy
   rw[if_neg (by omega)]
   exact⟨s',ls,e1,hup,rfl,by rw[if_pos t1];rfl⟩
  ·have t1:e1=0:=by simpa using t1
   have hm3':=hm3
   obtain⟨ps,L,O,C,T,A0,c0,lo,oo,co,cs,ms,mt,mo,hb,rfl,g1,g2,g3,g4,g5,g6,g7⟩:=hm3
   simp only[List.cons_append,List.append_assoc]
   refine ldM mq0 (by rfl) kE ?_
   refine lz mE rE kE ?_;dsimp only[ag]
   refine uw (cl_.aff _) Py rfl (aM.perm1 pE) g2 (x:=(0,0,p)) true rfl fun oo' hoo'=>?_
   have hm4:cW K {sent K b s' ls with owns:=aL b.owns (0,0,p) true} q ((q,.cells (wp K {sent K b s' ls with owns:=aL b.owns (0,0,p) true} ps L O C T A0 c0) 101 (0,0))::(L,lo)::(O,oo')::(C,co)::(ms++(mt++(mo++hb)))):=⟨ps,L,O,C,T,A0,c0,lo,oo',co,cs,ms,mt,mo,hb,rfl,g1,hoo',g3,g4,g5,g6,g7⟩
   refine ak _ _ bN (aM.perm (m:=(q,.cells (wp K {sent K b s' ls with owns:=aL b.owns (0,0,p) true} ps L O C T A0 c0) 101 (0,0))::(L,lo)::(O,oo')::(C,co)::(ms++(mt++(mo++hb)))) pE) (fun hl=>jF hK hm4 hok') ?_
   rintro w h4 ⟨rfl,b',hr,hm5⟩
   refine⟨fun _=>{},rfl,?_⟩
   refine aY (List.Perm.refl _) ⟨0,b',rfl,?_,hm5⟩
   unfold zy
   rw[if_neg (by omega)]
   exact⟨s',ls,e1,hup,t1.symm,by rw[if_neg (by omega)];exact hr⟩
 ·rw[if_neg hd]
  refine⟨fun _=>{v:= .nilIface},rfl,?_⟩
  refine ifN ?_
  refine aX rfl ?_
  refine aY (aM.perm (m:=(q,.cells (wp K b ps L O C T A0 c0) 101 (0,0))::(L,lo)::(O,oo)::(C,co)::(ms++(mt++(mo++hb)))) pE) ⟨1,b,rfl,?_,hm0⟩
  unfold zy
  rw[if_pos hd]
  exact⟨rfl,rfl⟩
theorem KG{I:Ctx}{K:az}(hK:br K){N:Int→Prop}{b:dm K.S}{q:Nat}{m:Mem}{d now:Int}{p:Int×Int}(hm:cW K b q m)(hok:K.ok N b.s)(hp:qb p)(hbd:b.out.length≤900000000)(how: ∀x∈am b.owns,x.1=0):
  Fn Tryz.prog 48 #[ptV q,.int .i64 d,pfV p,.int .i64 now] I m (fun v h'=> ∃e b',v= .int .i64 e∧uD K d p now b b' e∧cW K b' q h'):=by
 have hm0:=hm
 obtain⟨ps,L,O,C,T,A0,c0,lo,oo,co,cs,ms,mt,mo,hb,rfl,g1,g2,g3,g4,g5,g6,g7⟩:=hm
 refine wa _ _ _ _ _ ?_
 refine aP fun y _ _=>?_
 refine lz mE rE kE ?_;dsimp only[ag]
 refine bt BB fun z _ _=>?_
 refine stU uE kE rE vE ?_;dsimp only[ag]
 refine ldM (mq1 (mq1 mq0)) (by rfl) kE ?_
 refine la9 mE rE kE ?_;dsimp only[ag]
 refine dZ Py rfl Im (.inl mE) g2 (x:=(d,0,p)) (ok:=false) (fun _=>{b:=(ah b.owns (d,0,p)).getD false}) (by cases ah b.owns (d,0,p)<;>rfl) ?_
 dsimp only
 refine ay (fun t6=>?_) (fun t6=>?_)
 ·refine aY (aM.perm (m:=(q,.cells (wp K b ps L O C T A0 c0) 101 (0,0))::(L,lo)::(O,oo)::(C,co)::(ms++(mt++(mo++hb)))) pE) ⟨5,b,rfl,?_,hm0⟩
  unfold uD
  rw[if_pos (by simpa using t6)]
  exact⟨rfl,rfl⟩
 have t6: ¬(ah b.owns (d,0,p)).getD false=false:=by simpa using t6
 have hd:d=0:=by
  refine how (d,0,p) (aO.1 ?_)
  cases h:ah b.owns (d,0,p)with
  |none=>rw[h]at t6;exact absurd rfl t6
  |some x=>rfl
 subst hd
 refine ldM (mq1 (mq1 mq0)) (by rfl) kE ?_
 refine la9 mE rE kE ?_;dsimp only[ag]
 refine C3 (cl_.aff _) Py rfl (aM.perm1 pE) g2 (x:=(0,0,p)) fun oo' hoo'=>?_
 refine ko (e:=95) (sz:=1) (n:=16) kE kE (by omega) (by omega) ?_
 dsimp only
 refine ldV (b:=q) mE (by rfl) kE ?_
 refine lz mE rE kE ?_;dsimp only[ag]
 refine oa ms _ (hK.sr ps _ _) (aM.perm (m:=ms) pE) (fun hl=>hK.drop (p:=p) g4 hok hp) ?_
 rintro w h2 ⟨s',ls,m1,m2,hup,rfl,hM,A,cc,rfl,hls⟩
 obtain⟨hok',hln,hlok⟩:=hK.drop_ok hok hp hup
 refine⟨fun _=>{A:=A,n:=ls.length,c:=cc},rfl,?_⟩
 have hm1:cW K {b with s:=s',owns:=dq b.owns (0,0,p)} q ((q,.cells (wp K {b with s:=s',owns:=dq b.owns (0,0,p)} ps L O C T A0 c0) 101 (0,0))::(L,lo)::(O,oo')::(C,co)::(m1++(mt++(mo++hb)))):=⟨ps,L,O,C,T,A0,c0,lo,oo',co,cs,m1,mt,mo,hb,rfl,g1,hoo',g3,hM,g5,g6,g7⟩
 rw[List.append_assoc]
 refine ak _ _ bM (aM.perm (m:=((q,.cells (wp K {b with s:=s',owns:=dq b.owns (0,0,p)} ps L O C T A0 c0) 101 (0,0))::(L,lo)::(O,oo')::(C,co)::(m1++(mt++(mo++hb))))++m2) pE) (fun hl=>jJ hm1 ⟨A,cc,rfl,hls⟩ (fun l hl=>(hK.ltr (hlok l hl)).1) (by omega) hbd) ?_
 rintro w h3 ⟨rfl,hm3⟩
 refine⟨fun _=>{},rfl,?_⟩
 refine ak h3 _ bN (aM.perm (m:=h3) pE) (fun hl=>jF hK hm3 hok') ?_
 rintro w h4 ⟨rfl,b',hr,hm4⟩
 refine⟨fun _=>{},rfl,?_⟩
 refine aY (List.Perm.refl _) ⟨0,b',rfl,?_,hm4⟩
 unfold uD
 rw[if_neg t6]
 exact⟨rfl,s',ls,hup,hr⟩
def uc(K:az)(k:Int)(B:List UInt8)(now:Int)(b b':dm K.S)(e:Int):Prop:=
 if(ah b.links (plK k)).getD 0=0 then b'=b∧e=5
 else∃s' ls,K.recv k ((ah b.links (plK k)).getD 0) B now b.s s' ls e∧if e≠0 then b'={b with s:=s',bad:=IntKind.wrap .i64 (b.bad+1)}else JK K (sent K b s' ls) b'
theorem Lf{I:Ctx}{K:az}(hK:br K){N:Int→Prop}{b:dm K.S}{q:Nat}{m:Mem}{k now:Int}{A:Option Addr}{n c:Nat}{B:List UInt8}(hm:cW K b q m)(hok:K.ok N b.s)(hB:K.bok B)(hr:RdB I A n B)(hn:n≤c)(hbd:b.out.length≤900000000):
  Fn Tryz.prog 45 #[ptV q,.int .i64 0,.int .i64 k,.slice A n c,.int .i64 now] I m (fun v h'=> ∃e b',v= .int .i64 e∧uc K k B now b b' e∧cW K b' q h'):=by
 have hm0:=hm
 obtain⟨ps,L,O,C,T,A0,c0,lo,oo,co,cs,ms,mt,mo,hb,rfl,g1,g2,g3,g4,g5,g6,g7⟩:=hm
 refine q8 _ _ _ _ _ _ _ ?_
 refine ldM mq0 (by rfl) kE ?_
 refine dZ Py rfl Jg (.inl mE) g1 (x:=plK k) (ok:=false) (fun _=>{i:=(ah b.links (plK k)).getD 0}) (by cases ah b.links (plK k)<;>rfl) ?_
 dsimp only
 refine ay (fun t1=>?_) (fun t1=>?_)
 ·refine aY (aM.perm (m:=(q,.cells (wp K b ps L O C T A0 c0) 101 (0,0))::(L,lo)::(O,oo)::(C,co)::(ms++(mt++(mo++hb)))) pE) ⟨5,b,rfl,?_,hm0⟩
  unfold uc
  rw[if_pos (by simpa using t1)]
  exact⟨rfl,rfl⟩
 have t1: ¬(ah b.links (plK k)).getD 0=0:=by simpa using t1
 refine ko (e:=95) (sz:=1) (n:=16) kE kE (by omega) (by omega) ?_
 dsimp only
 refine ldV (b:=q) mE (by rfl) kE ?_
 refine oa ms _ (hK.sv ps _ _ _ _) (aM.perm (m:=ms) pE) (fun hl=>hK.recv g4 hok hB (hr.up (fK (m:=ms) hl (aM.perm (m:=ms) pE))) hn) ?_
 rintro w h2 ⟨sv,e,rfl,s',ls,m1,m2,hup,rfl,hM,A1,cc,rfl,hls⟩
 obtain⟨hok',hln,hlok⟩:=hK.recv_ok hok hB hup
 refine⟨ag [{A:=none,n:=0,c:=0},{A:=A1,n:=ls.length,c:=cc},{i:=e}],rfl,?_⟩
 dsimp only[ag]
 rw[List.append_assoc]
 refine ay (fun t2=>?_) (fun t2=>?_)
 ·have t2:e≠0:=by simpa using t2
  refine ldI mE rE kE ?_;dsimp only[ag];refine stU uE kE rE vE ?_;dsimp only[ag]
  refine aY (aM.perm (m:=(q,.cells (wp K {b with s:=s',bad:=IntKind.wrap .i64 (b.bad+1)} ps L O C T A0 c0) 101 (0,0))::(L,lo)::(O,oo)::(C,co)::(m1++(mt++(mo++hb)))) pE) ⟨e,{b with s:=s',bad:=IntKind.wrap .i64 (b.bad+1)},rfl,?_,ps,L,O,C,T,A0,c0,lo,oo,co,cs,m1,mt,mo,hb,rfl,g1,g2,g3,hM,g5,g6,g7⟩
  unfold uc
  rw[if_neg t1]
  exact⟨s',ls,hup,by rw[if_pos t2]⟩
 ·have t2:e=0:=by simpa using t2
  refine aj fun _ _=>?_
  refine pY _ _ _ _ _ _ _ _ _ _ _ _ _ ?_
  refine b7 (by simp) ?_
  have hm1:cW K {b with s:=s'} q ((q,.cells (wp K {b with s:=s'} ps L O C T A0 c0) 101 (0,0))::(L,lo)::(O,oo)::(C,co)::(m1++(mt++(mo++hb)))):=⟨ps,L,O,C,T,A0,c0,lo,oo,co,cs,m1,mt,mo,hb,rfl,g1,g2,g3,hM,g5,g6,g7⟩
  refine ak _ _ bM (aM.perm (m:=((q,.cells (wp K {b with s:=s'} ps L O C T A0 c0) 101 (0,0))::(L,lo)::(O,oo)::(C,co)::(m1++(mt++(mo++hb))))++m2) pE) (fun hl=>jJ hm1 ⟨A1,cc,rfl,hls⟩ (fun l hl=>(hK.ltr (hlok l hl)).1) (by omega) hbd) ?_
  rintro w h3 ⟨rfl,hm3⟩
  refine⟨fun _=>{},rfl,?_⟩
  refine ak h3 _ bN (List.Perm.refl _) (fun hl=>jF hK hm3 hok') ?_
  rintro w h4 ⟨rfl,b',hr,hm4⟩
  refine⟨fun _=>{},rfl,?_⟩
  refine aY (List.Perm.refl _) ⟨0,b',rfl,?_,hm4⟩
  unfold uc
  rw[if_neg t1]
  rw[t2]at hup
  exact⟨s',ls,hup,by rw[if_neg (by omega)];exact hr⟩
def D3(links:List (Pl×Int))(n:Nat):List Int:=((List.range n).map fun i=>((i:Nat):Int)+1).filter fun k=>decide ((ah links (plK k)).getD 0>0)
theorem GY(links:List (Pl×Int))(n:Nat):D3 links (n+1)=D3 links n++if(ah links (plK ((n:Nat)+1))).getD 0>0 then[((n:Nat):Int)+1]else[]:=by
 unfold D3
 rw[List.range_succ,List.map_append,List.filter_append]
 congr 1
 simp only[List.map_cons,List.map_nil,List.filter_cons,List.filter_nil,decide_eq_true_eq]
theorem BL(links:List (Pl×Int))(n:Nat):(D3 links n).length≤n:=by
 unfold D3
 refine Nat.le_trans (List.length_filter_le _ _) ?_
 simp
theorem JT{links:List (Pl×Int)}{n:Nat}{k:Int}(h:k∈D3 links n):(ah links (plK k)).getD 0>0∧1≤k∧k≤n:=by
 unfold D3 at h
 rw[List.mem_filter]at h
 obtain⟨h1,h2⟩:=h
 obtain⟨i,hi,rfl⟩:=List.mem_map.1 h1
 have:=List.mem_range.1 hi
 exact⟨by simpa using h2,by omega,by omega⟩
theorem NG{I:Ctx}{p:Nat}{cs:Array Value}{fz:Nat×Nat}{L:Nat}{lo:Obj}{links:List (Pl×Int)}(hI:I p=some (.cells cs 101 fz))(hc:cs[18]? =some (.map (some L)))(hL:I L=some lo)(hlo:ky FJ (Value.int .i64) links lo):
  ∀(n i:Nat) (A:Option Addr) (c:Nat) (m h gg:Mem) (u:Nat→Value),i+n=32→Own 3 1 A (D3 links i).length c (Rf (D3 links i)) m→aM h m gg→
  Wp Tryz.prog 64 bK (bF ⟨p,0,none⟩ 0 A (D3 links i).length c ((i:Nat)+1) u) I h (cl_ fun v h'=> ∃A c,v= .slice A (D3 links 32).length c∧Own 3 1 A (D3 links 32).length c (Rf (D3 links 32)) h'):=by
 intro n
 induction n with
 |zero=>
  intro i A c m h gg u hi ho hp
  obtain rfl:i=32:=by omega
  refine gV _ _ _ _ _ _ _ ?_
  refine b7 (by simp) ?_
  exact aY hp ⟨A,c,rfl,ho⟩
 |succ n ih=>
  intro i A c m h gg u hi ho hp
  refine gV _ _ _ _ _ _ _ ?_
  refine aX (by simp;omega) ?_
  refine nt kE ⟨rfl,_,_,_,.inr hI,hc⟩ ?_
  refine dZ Py rfl Jg (.inr hL) hlo (x:=plK ((i:Nat)+1)) (ok:=false) (fun _=>{i:=(ah links (plK ((i:Nat)+1))).getD 0}) (by cases ah links (plK ((i:Nat)+1))<;>rfl) ?_
  dsimp only
  have hnl:=BL links i
  refine ay (fun t1=>?_) (fun t1=>?_)
  ·have t1:(ah links (plK ((i:Nat)+1))).getD 0>0:=by simpa using t1
   refine gK (e:=3) #[.int .i64 ((i:Nat)+1)] kE fun g hg hIg=>?_
   refine aN (cl_.aff _) (g:=(g,.cells #[.int .i64 ((i:Nat)+1)] 3 (0,0))::(m++gg)) (List.Perm.cons _ hp) ?_
   dsimp only
   refine bP (cl_.aff _) IH kE (cs2:=[.int .i64 ((i:Nat)+1)]) (fun _=>⟨_,rfl,cw mE rfl⟩) (fun h=>by cases h) rfl (by simp) (m:=m) qE ho (by omega) (by omega) ?_
   intro A2 c2 m2 ho2
   refine aj fun _ _=>?_
   rw[show IntKind.i64.wrap (((i:Nat):Int)+1+1)=((i+1:Nat):Int)+1 by rw[cr (by omega)];omega]
   have ihh:=ih (i+1) A2 c2 m2
   rw[GY,if_pos t1,List.length_append,show Rf (D3 links i++[((i:Nat):Int)+1])=Rf (D3 links i)++[Value.int .i64 (((i:Nat):Int)+1)]from List.flatMap_append]at ihh
   exact ihh _ _ _ (by omega) ho2 pE
  ·have t1: ¬(ah links (plK ((i:Nat)+1))).getD 0>0:=by simpa using t1
   refine aj fun _ _=>?_
   rw[show IntKind.i64.wrap (((i:Nat):Int)+1+1)=((i+1:Nat):Int)+1 by rw[cr (by omega)];omega]
   have ihh:=ih (i+1) A c m
   rw[GY,if_neg t1,List.append_nil]at ihh
   exact ihh _ _ _ (by omega) ho hp
theorem Mn{I:Ctx}{p:Nat}{cs:Array Value}{fz:Nat×Nat}{L:Nat}{lo:Obj}{links:List (Pl×Int)}(hI:I p=some (.cells cs 101 fz))(hc:cs[18]? =some (.map (some L)))(hL:I L=some lo)(hlo:ky FJ (Value.int .i64) links lo):
  Fn Tryz.prog 64 #[ptV p,.int .i64 0] I [] (fun v h'=> ∃A c,v= .slice A (D3 links 32).length c∧Own 3 1 A (D3 links 32).length c (Rf (D3 links 32)) h'):=by
 refine oV _ _ ?_
 refine aj fun _ _=>?_
 exact NG hI hc hL hlo 32 0 none 0 [] [] [] _ (by omega) (Own.nil _ _) pE
theorem Sm{P:Program}{f:Ctl}{I:Ctx}{h:Mem}{Q:Value→Mem→Prop}{k:(Nat→jT)→Tr}{v:Value}(hs:bq P (FU v)=some (.value v))(hk:holds P f I Q (k fun _=>{v:=v}) h):holds P f I Q (.rdn (FU v) (.one (.sc .v)) k) h:=
 k8 (fun _=>{v:=v}) (d8 _ hs rfl) hk
theorem Mr{P:Program}{f:Ctl}{I:Ctx}{h:Mem}{Q:Value→Mem→Prop}{T:Tr}{v:Value}(hs:bq P (FU v)=some (.value v))(hk:holds P f I Q T h):holds P f I Q (.pin (FU v) v T) h:=
 DN (d8 _ hs rfl) hk
def Kc(K:az)(b:dm K.S)(p:Nat)(hx m:Mem):Prop:= ∃ps L O C T A c lo oo co cs ms mt mo hb,m=(p,.cells (wp K b ps L O C T A c) 101 (0,0))::(L,lo)::(O,oo)::(C,co)::(ms++(mt++(mo++hb)))∧
 ky FJ (Value.int .i64) b.links lo∧ky FJ Value.bool b.owns oo∧ky FJ Value.bool ([]:List (Pl×Bool)) co∧K.M b.s ps ms∧Lv b.tab T mt∧Own 87 4 A b.out.length c cs mo∧nZ (plus noC hb) b.out cs∧ ∀x∈hx,x∈hb
theorem Kc.m{K:az}{b:dm K.S}{p:Nat}{hx m:Mem}(h:Kc K b p hx m):cW K b p m:=by
 obtain⟨ps,L,O,C,T,A0,c0,lo,oo,co,cs,ms,mt,mo,hb,rfl,h1,h2,h3,h4,h5,h6,h7,_⟩:=h
 exact⟨ps,L,O,C,T,A0,c0,lo,oo,co,cs,ms,mt,mo,hb,rfl,h1,h2,h3,h4,h5,h6,h7⟩
theorem GB{I:Ctx}{K:az}{b:dm K.S}{p:Nat}{m hx:Mem}{k:Int}{A:Option Addr}{n c:Nat}{B:List UInt8}(hm:Kc K b p hx m)(hr:RdB (plus noC hx) A n B)(hbd:b.out.length≤1000000000):
  Fn Tryz.prog 65 #[ptV p,.int .i64 0,.int .i64 k,.slice A n c] I m (fun v h'=>v=undef∧Kc K {b with out:=b.out++[⟨0,b.id,k,B⟩]} p hx h'):=by
 obtain⟨ps,L,O,C,T,A0,c0,lo,oo,co,cs,ms,mt,mo,hb,rfl,h1,h2,h3,h4,h5,h6,h7,h8⟩:=hm
 refine mi _ _ _ _ _ _ ?_
 refine ldL mE rE kE ?_;dsimp only[ag];refine ldI mE rE kE ?_;dsimp only[ag]
 refine gK (e:=87) #[.int .i64 0,.int .i64 b.id,.int .i64 k,.slice A n c] kE fun g hg hI=>?_
 dsimp only
 refine bP (cl_.aff _) qI kE (cs2:=[.int .i64 0,.int .i64 b.id,.int .i64 k,.slice A n c]) (fun _=>⟨_,rfl,cw mE rfl⟩) (fun h=>by cases h) rfl (by simp) (m:=mo) qE h6 (by omega) (by omega) ?_
 intro A2 c2 m2 ho2
 refine stU uE kE rE vE ?_;dsimp only[ag]
 refine lE (cl_.aff _) _ (aM.perm (m:=(p,.cells (Q9 K b ps L O C T A2 (b.out.length+1) c2) 101 (0,0))::(L,lo)::(O,oo)::(C,co)::(ms++(mt++(m2++hb)))) pE) ?_
 refine zS fun hl=>?_
 refine aY (h1:=(p,.cells (Q9 K b ps L O C T A2 (b.out.length+1) c2) 101 (0,0))::(L,lo)::(O,oo)::(C,co)::(ms++(mt++(m2++hb)))) (g:=[]) (by rw[List.append_nil]) ⟨rfl,ps,L,O,C,T,A2,c2,lo,oo,co,cs++[.int .i64 0,.int .i64 b.id,.int .i64 k,.slice A n c],ms,mt,m2,hb,by simp,h1,h2,h3,h4,h5,?_,?_,h8⟩
 ·rw[List.length_append];exact ho2
 ·have hl2:dJ noC hb:=by
   have h4:dJ I (hb++((p,.cells (Q9 K b ps L O C T A2 (b.out.length+1) c2) 101 (0,0))::(L,lo)::(O,oo)::(C,co)::(ms++(mt++m2)))):=hl.perm cE
   exact h4.left.no
  refine nZ.append h7 ⟨_,[],by simp,⟨A,n,c,rfl,?_⟩,rfl⟩
  exact hr.up fun i o hb'=>aF hl2 (.inl (h8 _ (p9 hb')))
def GK(K:az)(now:Int)(b b':dm K.S):Prop:= ∃s' ps ls,K.tick (D3 b.links 32) now b.s s' ps ls∧JK K {b with s:=s',out:=b.out++ps.map (fun q=>⟨0,b.id,q.t,q.B⟩)++ls.map (lpk b.id)} b'
theorem O9{I:Ctx}{K:az}(hK:br K){N:Int→Prop}{b:dm K.S}{p:Nat}{now:Int}{v0:Value}{m:Mem}{Q:Value→Mem→Prop}(hm:cW K b p m)(hok:K.ok N b.s)(hQ: ∀b' m',JK K b b'→cW K b' p m'→Q undef m'): ∀(n i:Nat) (h gg:Mem) (u:Nat→Value),i+n=16→1≤i→aM h m gg→
  Wp Tryz.prog 43 dc (de ⟨p,0,none⟩ now v0 .nilIface .nilIface .nilIface .nilIface .nilIface .nilIface .nilIface .nilIface .nilIface .nilIface .nilIface .nilIface .nilIface .nilIface .nilIface i u) I h (cl_ Q):=by
 intro n
 induction n with
 |zero=>
  intro i h gg u hi h1 hp
  refine gN _ _ _ _ _ _ _ _ _ _ _ _ _ _ _ _ _ _ _ _ ?_
  refine b7 (by simp;omega) ?_
  refine ak m gg bN hp (fun hl=>jF hK hm hok) ?_
  rintro w h2 ⟨rfl,b',hr,hm2⟩
  refine⟨fun _=>{},rfl,?_⟩
  exact aY (List.Perm.refl _) (hQ b' h2 hr hm2)
 |succ n ih=>
  intro i h gg u hi h1 hp
  refine gN _ _ _ _ _ _ _ _ _ _ _ _ _ _ _ _ _ _ _ _ ?_
  refine aX (by simp;omega) ?_
  refine JM (Te v0 i h1 (by omega)) ?_
  refine ifN ?_
  refine aX rfl ?_
  refine aj fun _ _=>?_
  rw[dT (by omega)]
  exact ih (i+1) _ _ _ (by omega) (by omega) hp
theorem Se{I:Ctx}{K:az}(hK:br K){N:Int→Prop}{b:dm K.S}{p:Nat}{now:Int}{v0:Value}{ps:List Pk}{ls:List Ltr}{Ap Al:Option Addr}{cp cl:Nat}{csp:List Value}{mp ml hx:Mem}{Q:Value→Mem→Prop}(hps:Own 87 4 Ap ps.length cp csp mp)(hpk:nZ (plus noC hx) ps csp)
  (hls:Own 171 10 Al ls.length cl (ls.flatMap Ltr.C) ml)(hlo: ∀l∈ls,nw N l)(hl1:ls.length≤1000000)(hl2:ps.length≤1000000)(hbd:b.out.length≤800000000)(hok:K.ok N b.s)
  (hQ: ∀b' m',JK K {b with out:=b.out++ps.map (fun q=>⟨0,b.id,q.t,q.B⟩)++ls.map (lpk b.id)} b'→cW K b' p m'→Q undef m'):
  ∀(n i:Nat) (m h gg:Mem) (u:Nat→Value),i+n=ps.length→Kc K {b with out:=b.out++(ps.take i).map (fun q=>⟨0,b.id,q.t,q.B⟩)} p hx m→aM h (mp++(ml++m)) gg→
  Wp Tryz.prog 43 eF (eH ⟨p,0,none⟩ now v0 .nilIface .nilIface .nilIface .nilIface .nilIface .nilIface .nilIface .nilIface .nilIface .nilIface .nilIface .nilIface .nilIface .nilIface .nilIface 0 Al ls.length cl Ap ps.length cp ps.length i u) I h (cl_ Q):=by
 intro n
 induction n with
 |zero=>
  intro i m h gg u hi hm hp
  rw[List.take_of_length_le (by omega)]at hm
  refine kI _ _ _ _ _ _ _ _ _ _ _ _ _ _ _ _ _ _ _ _ _ _ _ _ _ _ _ _ ?_
  refine b7 (by simp;omega) ?_
  refine ak (m++ml) (mp++gg) bM ((List.Perm.trans hp cE)) (fun hl=>jJ hm.m ⟨Al,cl,rfl,hls⟩ hlo (by omega) (by simp;omega)) ?_
  rintro w h2 ⟨rfl,hm2⟩
  refine⟨fun _=>{},rfl,?_⟩
  refine aj fun _ _=>?_
  refine O9 hK (N:=N) hm2 hok (fun b' m' hr hb=>hQ b' m' hr hb) 15 1 _ _ _ (by omega) (by omega) (List.Perm.refl _)
 |succ n ih=>
  intro i m h gg u hi hm hp
  obtain⟨x,hxi⟩: ∃x,ps[i]? =some x:=⟨_,List.getElem?_eq_getElem (show i<ps.length by omega)⟩
  have htk:ps.take (i+1)=ps.take i++[x]:=(ep (List.Perm.refl ps) hxi).2
  obtain⟨c4,⟨A',n',c',rfl,hB⟩,hc4⟩:=hpk.get hxi
  obtain⟨ad,rfl,hcell⟩: ∃a,Ap=some a∧ ∀J k,(∀x∈mp,x∈k)→df J k (a.add (i*4)) [.int .i64 x.d,.int .i64 x.f,.int .i64 x.t,.slice A' n' c']:=by
   obtain⟨h1,h2,⟨_,h3,_⟩|⟨b,arr,h3,_⟩⟩:=id hps
   ·omega
   ·refine⟨_,h3,fun J k hk q v hq=>?_⟩
    obtain⟨a2,e1,e2⟩:=hps.rd (I:=J) hk (fun e=>by have:=hc4 0 _ rfl;rw[e]at this;cases this)
    rw[h3]at e1
    injection e1 with e1
    subst e1
    rw[add_add]
    exact e2 _ v (hc4 q v hq)
  refine Wp.perm (h:=mp++(ml++(m++gg))) ?_ ((List.Perm.trans hp cE).symm)
  refine kI _ _ _ _ _ _ _ _ _ _ _ _ _ _ _ _ _ _ _ _ _ _ _ _ _ _ _ _ ?_
  refine aX (by simp;omega) ?_
  refine aI ad rfl (sz:=4) kE (by omega) (by omega) rfl ?_
  dsimp only
  rw[Int.toNat_natCast]
  refine bL (cs:=[.int .i64 x.d,.int .i64 x.f,.int .i64 x.t,.slice A' n' c']) (ag [{i:=x.d},{i:=x.f},{i:=x.t},{A:=A',n:=n',c:=c'}]) kE kE (hcell _ _ fun x hx=>List.mem_append_left _ hx) rfl ?_
  dsimp only[ag]
  refine bt dK fun y _ _=>?_
  refine stU uE kE rE vE ?_;dsimp only[ag];refine ldI mE rE kE ?_;dsimp only[ag];refine ldL mE rE kE ?_;dsimp only[ag]
  refine ak m _ lP (aM.perm (m:=m) pE) (fun hl=>GB (k:=x.t) hm hB (by simp;omega)) ?_
  rintro w h2 ⟨rfl,hm2⟩
  refine⟨fun _=>{},rfl,?_⟩
  refine aj fun _ _=>?_
  rw[dT (by omega)]
  refine ih (i+1) h2 _ _ _ (by omega) ?_ pE
  rw[htk,List.map_append,←List.append_assoc]
  exact hm2
theorem Lp{I:Ctx}{K:az}(hK:br K){N:Int→Prop}{b:dm K.S}{p:Nat}{m:Mem}{now:Int}(hm:cW K b p m)(hok:K.ok N b.s)(hlk: ∀k,(ah b.links (plK k)).getD 0>0→N k)(hbd:b.out.length≤800000000):
  Fn Tryz.prog 43 #[ptV p,.int .i64 now] I m (fun v h'=>v=undef∧ ∃b',GK K now b b'∧cW K b' p h'):=by
 obtain⟨ps,L,O,C,T,A0,c0,lo,oo,co,cs,ms,mt,mo,hb,rfl,h1,h2,h3,h4,h5,h6,h7⟩:=hm
 refine vz _ _ ?_
 refine bL (cs:=[ifV K ps,.nilIface,.nilIface,.nilIface,.nilIface,.nilIface,.nilIface,.nilIface,.nilIface,.nilIface,.nilIface,.nilIface,.nilIface,.nilIface,.nilIface,.nilIface]) (ag [{v:=ifV K ps},{v:= .nilIface},{v:= .nilIface},{v:= .nilIface},{v:= .nilIface},{v:= .nilIface},{v:= .nilIface},{v:= .nilIface},{v:= .nilIface},{v:= .nilIface},{v:= .nilIface},{v:= .nilIface},{v:= .nilIface},{v:= .nilIface},{v:= .nilIface},{v:= .nilIface}]) kE kE (by rw[kp];exact cw mq0 rfl) rfl ?_
 dsimp only[ag]
 refine aj fun _ _=>?_
 refine gN _ _ _ _ _ _ _ _ _ _ _ _ _ _ _ _ _ _ _ _ ?_
 refine aX (by simp) ?_
 refine JM (Td _) ?_
 refine ifE ?_
 refine b7 rfl ?_
 refine Sm (hK.stn ps) ?_
 refine ak [] _ nQ (List.Perm.refl _) (fun hl=>Mn (aF hl (.inl mq0)) (by rfl) (aF hl (.inl (mq1 mq0))) h1) ?_
 rintro w hn ⟨An,cn,rfl,hon⟩
 refine⟨fun _=>{A:=An,n:=(D3 b.links 32).length,c:=cn},rfl,?_⟩
 refine Mr (hK.stn ps) ?_
 refine oa ms _ (hK.st ps _ _) (aM.perm (m:=ms) pE) (fun hl=>hK.tick (ks:=D3 b.links 32) h4 hok ?_ ?_ (BL _ _)) ?_
 ·intro e
  have:=hon.some_of e
  exact List.eq_nil_of_length_eq_zero this
 ·have hl':=((hl.perm (aM.perm (m:=ms) pE)).perm List.perm_append_comm).left
  exact(hon.rd sE).all hl'
 rintro w hw ⟨pv,sv,s',ps',ls,m1,m2,m3,rfl,hup,rfl,hM,⟨Al,cl,rfl,hls⟩,Ap,cp,csp,mp,hx,rfl,rfl,hps,hpk⟩
 obtain⟨hok',hln,hlok,hpn,hpok⟩:=hK.tick_ok hok (fun k hk=>hlk k (JT hk).1) (BL _ _) hup
 refine⟨ag [{A:=Ap,n:=ps'.length,c:=cp},{A:=Al,n:=ls.length,c:=cl}],rfl,?_⟩
 dsimp only[ag]
 simp only[List.append_assoc]
 refine aj fun _ hl=>?_
 have hm':Kc K {b with s:=s'} p hx ((p,.cells (wp K {b with s:=s'} ps L O C T A0 c0) 101 (0,0))::(L,lo)::(O,oo)::(C,co)::(m1++(mt++(mo++(hb++hx))))):=by
  refine⟨ps,L,O,C,T,A0,c0,lo,oo,co,cs,m1,mt,mo,hb++hx,rfl,h1,h2,h3,hM,h5,h6,h7.up fun i o hb'=>?_,fun x hx=>List.mem_append_right _ hx⟩
  have hl2:dJ noC (hb++hx):=(hl.perm (aM.perm (m:=hb++hx) pE)).left.no
  exact aF hl2 (.inl (List.mem_append_left _ (p9 hb')))
 refine Se (b:={b with s:=s'}) hK hps hpk hls (fun l hl=>(hK.ltr (hlok l hl)).1) (by omega) (by omega) (by show b.out.length≤_;omega) hok' (fun b' m' hr hb'=>⟨rfl,b',⟨s',ps',ls,hup,hr⟩,hb'⟩) ps'.length 0 _ _ _ _ (by omega) (by simpa using hm') pE
theorem E2{I:Ctx}{K:az}{b:dm K.S}{p:Nat}{m:Mem}(hm:cW K b p m):
  Fn Tryz.prog 41 #[ptV p] I m (fun v h'=> ∃m1 m2,h'=m1++m2∧cW K {b with out:=[]} p m1∧S3 b.out v m2):=by
 obtain⟨ps,L,O,C,T,A0,c0,lo,oo,co,cs,ms,mt,mo,hb,rfl,h1,h2,h3,h4,h5,h6,h7⟩:=hm
 refine vT _ ?_
 refine ldL mE rE kE ?_;dsimp only[ag];refine stU uE kE rE vE ?_;dsimp only[ag]
 refine dl (h1:=(p,.cells (wp K {b with out:=[]} ps L O C T none 0) 101 (0,0))::(L,lo)::(O,oo)::(C,co)::(ms++(mt++(mo++hb)))) pE
  (h2:=((p,.cells (wp K {b with out:=[]} ps L O C T none 0) 101 (0,0))::(L,lo)::(O,oo)::(C,co)::(ms++(mt++[])))++(mo++hb)) cE
  ⟨_,_,rfl,⟨ps,L,O,C,T,none,0,lo,oo,co,[],ms,mt,[],[],by simp,h1,h2,h3,h4,h5,Own.nil _ _,rfl⟩,A0,c0,cs,mo,hb,rfl,rfl,h6,h7⟩
theorem Gy{I:Ctx}{K:az}{b:dm K.S}{p:Nat}{m:Mem}(hm:cW K b p m):
  Fn Tryz.prog 30 #[ptV p] I m (fun v h'=> ∃rs m1 m2,h'=m1++m2∧rs.Perm (QY b.tab)∧cW K b p m1∧rN rs v m2):=by
 have hm0:=hm
 obtain⟨ps,L,O,C,T,A0,c0,lo,oo,co,cs,ms,mt,mo,hb,rfl,h1,h2,h3,h4,h5,h6,h7⟩:=hm
 refine uX _ ?_
 refine ldP mE rE kE ?_;dsimp only[ag]
 refine ak [] _ wl (List.Perm.refl _) (fun hl=>by
   obtain⟨_,_,_,_,_,_,_,hin⟩:=h5.in hl sE
   exact CB hin) ?_
 rintro w hw ⟨rs,hrs,A,c,rfl,ho⟩
 refine⟨fun _=>{A:=A,n:=rs.length,c:=c},rfl,?_⟩
 exact aY (h1:=_++hw) (g:=[]) (by rw[List.append_nil];exact List.perm_append_comm) ⟨rs,_,hw,rfl,hrs,hm0,A,c,rfl,ho⟩
theorem AQ{I:Ctx}:Fn Tryz.prog 52 #[.slice none 0 0] I [] (fun v h'=>v= .slice none 0 0∧h'=[]):=by
 refine tI _ _ _ ?_
 refine k8 (fun _=>{b:=true}) (yv (.inl rfl) kE rfl) ?_
 refine aX rfl ?_
 exact aC ⟨rfl,rfl⟩
abbrev DD(K:az)(id:Int):dm K.S:=⟨id,K.new id,[],[],[],[],0⟩
theorem F1{I:Ctx}{K:az}(hK:br K){id:Int}{A:Option Addr}{c:Nat}(hid:1≤id∧id≤32)(hj:RdC I [] A [.int .i64 0,.int .i64 K.proto])(hc:1≤c):
  Fn Tryz.prog 34 #[.int .i64 id,.slice A 1 c,.slice none 0 0] I [] (fun v h'=> ∃p,v= .tuple #[ptV p,.int .i64 0]∧cW K (DD K id) p h'):=by
 obtain⟨ad,rfl,hcell⟩:=hj (by simp)
 refine GI _ _ _ _ _ _ _ ?_
 refine b7 (by simp;omega) ?_
 refine b7 (by simp;omega) ?_
 refine b7 (by simp) ?_
 refine b7 (by simp) ?_
 refine b7 (by simp) ?_
 refine ak [] _ sX (List.Perm.refl _) (fun hl=>AQ) ?_
 rintro w h1 ⟨rfl,rfl⟩
 refine⟨fun _=>{A:=none,n:=0,c:=0},rfl,?_⟩
 rw[List.nil_append]
 refine ip fun L _ _=>?_
 refine ip fun O _ _=>?_
 refine ip fun C _ _=>?_
 refine ak [] _ K2 (List.Perm.refl _) (fun hl=>HO) ?_
 rintro w mt ⟨T,rfl,hT⟩
 refine⟨fun _=>{A:=some ⟨T,0,none⟩},rfl,?_⟩
 refine aP fun p _ _=>?_
 refine aj fun _ _=>?_
 refine wm _ _ _ _ _ _ _ _ _ ?_
 refine aX (by simp) ?_
 refine aI ad rfl (sz:=2) kE (by omega) (by omega) rfl ?_
 dsimp only
 rw[show(0:Int).toNat*2=0 from rfl,qR]
 refine bL (cs:=[.int .i64 0,.int .i64 K.proto]) (ag [{i:=0},{i:=K.proto}]) kE kE (hcell.sub Sub.self) rfl ?_
 dsimp only[ag]
 refine bt J8 fun y _ _=>?_
 refine stU uE kE rE vE ?_;dsimp only[ag];refine ldI mE rE kE ?_;dsimp only[ag]
 refine b7 rfl ?_
 refine ldI mE rE kE ?_;dsimp only[ag]
 refine b7 rfl ?_
 refine ldI mE rE kE ?_;dsimp only[ag]
 refine ko (e:=95) (sz:=1) (n:=16) kE kE (by omega) (by omega) ?_
 dsimp only
 refine ldV (b:=p) mE (by rfl) kE ?_
 refine ifM ?_
 refine b7 rfl ?_
 refine ldI mE rE kE ?_;dsimp only[ag];refine la3 mE rE kE ?_;dsimp only[ag]
 refine ak [] _ uQ (List.Perm.refl _) (fun hl=>hK.make (aF hl (.inl mE)) (by rfl) hid) ?_
 rintro w ms ⟨ps,rfl,hM⟩
 refine⟨fun _=>{v:=ifV K ps},rfl,?_⟩
 refine pn1 mE rE kE ?_;dsimp only[ag]
 refine ko (e:=95) (sz:=1) (n:=16) kE kE (by omega) (by omega) ?_
 dsimp only
 refine stU uE kE rE vE ?_;refine ldI mE rE kE ?_;dsimp only[ag]
 refine ko (e:=95) (sz:=1) (n:=16) kE kE (by omega) (by omega) ?_
 dsimp only
 refine ldV (b:=p) mE (by rfl) kE ?_
 refine ifE ?_
 refine b7 rfl ?_
 refine aj fun _ _=>?_
 refine wm _ _ _ _ _ _ _ _ _ ?_
 refine b7 kE ?_
 refine aj fun _ _=>?_
 refine DP _ _ _ _ _ _ ?_
 refine b7 (by simp) ?_
 refine aY (aM.perm (m:=(p,.cells (wp K (DD K id) ps L O C T none 0) 101 (0,0))::(L,.map #[] 0)::(O,.map #[] 0)::(C,.map #[] 0)::(ms++mt)) pE) ⟨p,rfl,ps,L,O,C,T,none,0,_,_,_,[],ms,mt,[],[],by simp,ky.nil _ _,ky.nil _ _,ky.nil _ _,hM,hT,Own.nil _ _,rfl⟩
structure Ed where
 a:Int
 b:Int
 c:Int
abbrev Ed.C(e:Ed):List Value:=[.int .i64 0,.int .i64 e.a,.int .i64 e.b,.int .i64 e.c]
abbrev Ed.V(e:Ed):Value:= .agg #[.int .i64 0,.int .i64 e.a,.int .i64 e.b,.int .i64 e.c]
structure en (K:az)where
 bs:List (dm K.S)
 up:List Bool
 bag:List Pk
 now:Int
def nE(K:az)(J:Ctx):Nat→List Value→Prop
 |0,cs=>cs=[]
 |n+1,cs=> ∃A c r,cs= .slice A 1 c:: .slice none 0 0::r∧1≤c∧RdC J [] A [.int .i64 0,.int .i64 K.proto]∧nE K J n r
theorem nE.up{K:az}{J J':Ctx}: ∀{n:Nat} {cs:List Value},nE K J n cs→(∀b o,J b=some o→J' b=some o)→nE K J' n cs
 |0,_,h,_=>h
 |n+1,_,⟨A,c,r,e,h1,h2,h3⟩,hs=>⟨A,c,r,e,h1,h2.up hs,h3.up hs⟩
theorem nE.len{K:az}{J:Ctx}: ∀{n:Nat} {cs:List Value},nE K J n cs→cs.length=n*2
 |0,_,h=>by rw[show _=[]from h];rfl
 |n+1,_,⟨A,c,r,e,h1,h2,h3⟩=>by rw[e,List.length_cons,List.length_cons,h3.len];omega
theorem nE.get{K:az}{J:Ctx}: ∀{n:Nat} {cs:List Value} {i:Nat},nE K J n cs→i<n→ ∃A c,1≤c∧RdC J [] A [.int .i64 0,.int .i64 K.proto]∧ ∀q v,([.slice A 1 c,.slice none 0 0]:List Value)[q]? =some v→cs[i*2+q]? =some v
 |n+1,_,0,⟨A,c,r,e,h1,h2,h3⟩,_=>by
  refine⟨A,c,h1,h2,fun q v hq=>?_⟩
  subst e
  rw[Nat.zero_mul,Nat.zero_add]
  match q with
  |0=>exact hq
  |1=>exact hq
  |q+2=>simp at hq
 |n+1,_,i+1,⟨A,c,r,e,h1,h2,h3⟩,hi=>by
  obtain⟨A',c',g1,g2,g3⟩:=h3.get (i:=i) (by omega)
  refine⟨A',c',g1,g2,fun q v hq=>?_⟩
  subst e
  rw[show(i+1)*2+q=i*2+q+1+1 by omega,List.getElem?_cons_succ,List.getElem?_cons_succ]
  exact g3 q v hq
theorem nE.plain{K:az}{J:Ctx}: ∀{n:Nat} {cs:List Value},nE K J n cs→ ∀v∈cs,(∀x,v≠ .agg x)∧ ∀x,v≠ .tuple x
 |0,cs,h=>by rw[show cs=[]from h];simp
 |n+1,_,⟨A,c,r,e,h1,h2,h3⟩=>by
  subst e
  intro v hv
  rcases List.mem_cons.1 hv with rfl|hv
  ·simp
  ·rcases List.mem_cons.1 hv with rfl|hv
   ·simp
   ·exact h3.plain v hv
def I1(K:az):List (dm K.S)→List Nat→Mem→Prop
 |[],[],m=>m=[]
 |b::bs,p::ps,m=> ∃m1 m2,m=m1++m2∧cW K b p m1∧I1 K bs ps m2
 |_,_,_=>False
theorem I1.len{K:az}: ∀{bs:List (dm K.S)} {ps:List Nat} {m:Mem},I1 K bs ps m→ps.length=bs.length
 |[],[],_,_=>rfl
 |b::bs,p::ps,_,⟨m1,m2,_,_,h⟩=>by rw[List.length_cons,List.length_cons,h.len]
 |[],_::_,_,h=>h.elim
 |_::_,[],_,h=>h.elim
theorem I1.get{K:az}: ∀{bs:List (dm K.S)} {ps:List Nat} {m:Mem} {i:Nat} {b:dm K.S},I1 K bs ps m→bs[i]? =some b→ ∃p m1 mz,ps[i]? =some p∧m.Perm (m1++mz)∧cW K b p m1∧
  ∀b' p' m1',cW K b' p' m1'→ ∃m',I1 K (bs.set i b') (ps.set i p') m'∧m'.Perm (m1'++mz)
 |x::bs,p::ps,_,0,b,⟨m1,m2,e,h1,h2⟩,hb=>by
  subst e
  simp at hb
  subst hb
  exact⟨p,m1,m2,rfl,List.Perm.refl _,h1,fun b' p' m1' h=>⟨m1'++m2,⟨m1',m2,rfl,h,h2⟩,List.Perm.refl _⟩⟩
 |x::bs,p::ps,_,i+1,b,⟨m1,m2,e,h1,h2⟩,hb=>by
  subst e
  obtain⟨q,n1,nz,g1,g2,g3,g4⟩:=h2.get (by simpa using hb)
  refine⟨q,n1,m1++nz,by simpa using g1,(g2.append_left m1).trans (by rw[←List.append_assoc,←List.append_assoc];exact List.perm_append_comm.append_right nz),g3,fun b' p' m1' h=>?_⟩
  obtain⟨m',k1,k2⟩:=g4 b' p' m1' h
  exact⟨m1++m',⟨m1,m',rfl,h1,k1⟩,(k2.append_left m1).trans (by rw[←List.append_assoc,←List.append_assoc];exact List.perm_append_comm.append_right nz)⟩
 |[],[],_,_,_,_,hb=>by simp at hb
 |[],_::_,_,_,_,h,_=>h.elim
 |_::_,[],_,_,_,h,_=>h.elim
theorem I1.app{K:az}: ∀{bs:List (dm K.S)} {ps:List Nat} {m m2:Mem} {b:dm K.S} {p:Nat},I1 K bs ps m→cW K b p m2→I1 K (bs++[b]) (ps++[p]) (m++m2)
 |[],[],_,m2,b,p,h,hb=>by rw[show _=[]from h];exact⟨m2,[],by simp,hb,rfl⟩
 |x::bs,q::ps,_,m2,b,p,⟨n1,n2,e,h1,h2⟩,hb=>by subst e;exact⟨n1,n2++m2,by rw[List.append_assoc],h1,h2.app hb⟩
 |[],_::_,_,_,_,_,h,_=>h.elim
 |_::_,[],_,_,_,_,h,_=>h.elim
structure NAd where
 AN:Option Addr
 cN:Nat
 csn:List Value
 mN:Mem
 hN:Mem
 AE:Option Addr
 cE:Nat
 mE:Mem
structure OH (K:az) (n:Nat) (es:List Ed) (a:NAd):Prop where
 on:Own 54 2 a.AN n a.cN a.csn a.mN
 nods:nE K (plus noC a.hN) n a.csn
 oe:Own 42 4 a.AE es.length a.cE (es.flatMap Ed.C) a.mE
abbrev kC(n:Nat)(es:List Ed)(a:NAd)(AR AU:Option Addr)(nR cR nU cU G:Nat)(now:Int):Array Value:=#[.slice a.AN n a.cN,.slice AR nR cR,.slice a.AE es.length a.cE,.slice AU nU cU,ptV G,.int .i64 now]
def iB(K:az)(n:Nat)(es:List Ed)(s:en K)(q:Nat)(m:Mem):Prop:= ∃a AR cR AU cU G ps mR mU mG mB,
 m=(q,.cells (kC n es a AR AU s.bs.length cR s.up.length cU G s.now) 60 (0,0))::(a.mN++(a.hN++(a.mE++(mR++(mU++(mG++mB))))))∧OH K n es a∧
 Own 61 1 AR s.bs.length cR (ps.map ptV) mR∧Own 4 1 AU s.up.length cU (s.up.map Value.bool) mU∧iN 76 G s.bag mG∧I1 K s.bs ps mB
theorem II{es:List Ed}{i:Nat}{e:Ed}(h:es[i]? =some e): ∀q v,(Ed.C e)[q]? =some v→(es.flatMap Ed.C)[i*4+q]? =some v:=by
 induction es generalizing i with
 |nil=>simp at h
 |cons x es ih=>
  intro q v hq
  have hq4:q<4:=(List.getElem?_eq_some_iff.1 hq).1
  rw[List.flatMap_cons]
  cases i with
  |zero=>
   simp at h
   subst h
   rw[Nat.zero_mul,Nat.zero_add,List.getElem?_append_left (show q<(Ed.C x).length from hq4)]
   exact hq
  |succ i=>
   rw[List.getElem?_append_right (show(Ed.C x).length≤_ by show 4≤_;omega),show(i+1)*4+q - (Ed.C x).length=i*4+q by show _ - 4=_;omega]
   exact ih (by simpa using h) q v hq
theorem EM{es:List Ed}{i:Nat}{e:Ed}{A:Option Addr}{c:Nat}{ml:Mem}(ho:Own 42 4 A es.length c (es.flatMap Ed.C) ml)(h:es[i]? =some e): ∃a,A=some a∧ ∀J k,(∀x∈ml,x∈k)→df J k (a.add (i*4)) (Ed.C e):=by
 obtain⟨h1,h2,⟨_,h3,_⟩|⟨b,arr,h3,_⟩⟩:=id ho
 ·have:=(List.getElem?_eq_some_iff.1 h).1;omega
 ·refine⟨_,h3,fun J k hk q v hq=>?_⟩
  obtain⟨a2,e1,e2⟩:=ho.rd (I:=J) hk (fun e=>by have:=II h 0 _ rfl;rw[e]at this;cases this)
  rw[h3]at e1
  injection e1 with e1
  subst e1
  rw[add_add]
  exact e2 _ v (II h q v hq)
def yX(ps:List Nat)(id:Int):Option Nat:=if 1≤id then ps[(id - 1).toNat]? else none
theorem kc{I:Ctx}{q:Nat}{cs:Array Value}{fz:Nat×Nat}{A:Option Addr}{c:Nat}{ps:List Nat}{id:Int}(hI:I q=some (.cells cs 60 fz))(h1:cs[1]? =some (.slice A ps.length c))(hr:RdC I [] A (ps.map ptV))(hbd:ps.length≤1000):
  Fn Tryz.prog 29 #[ptV q,.int .i64 id] I [] (fun v h'=>v=ptO (yX ps id)∧h'=[]):=by
 refine sW _ _ ?_
 refine ay (fun t1=>?_) (fun t1=>?_)
 ·have t1:id<1:=by simpa using t1
  exact aC ⟨by unfold yX;rw[if_neg (by omega)];rfl,rfl⟩
 ·have t1:1≤id:=by simp at t1;omega
  refine dS kE (uB hI h1) ?_
  dsimp only
  refine ay (fun t2=>?_) (fun t2=>?_)
  ·have t2:id>(ps.length:Int):=by simpa using t2
   exact aC ⟨by unfold yX;rw[if_pos t1,List.getElem?_eq_none (by omega)];rfl,rfl⟩
  ·have t2:id≤(ps.length:Int):=by simp at t2;omega
   have hlt:(id - 1).toNat<ps.length:=by omega
   obtain⟨p,hp⟩: ∃p,ps[(id - 1).toNat]? =some p:=⟨_,List.getElem?_eq_getElem hlt⟩
   obtain⟨ad,rfl,hcell⟩:=hr (by intro e;rw[List.map_eq_nil_iff]at e;rw[e]at hlt;simp at hlt)
   refine dS kE (uB hI h1) ?_
   dsimp only
   rw[cr (by omega)]
   refine aI ad rfl (sz:=1) kE (by omega) (by omega) rfl ?_
   dsimp only
   rw[Nat.mul_one]
   refine ub kE ((hcell _ _ (by rw[List.getElem?_map,hp];rfl)).sub Sub.self) ?_
   exact aC ⟨by unfold yX;rw[if_pos t1,hp];rfl,rfl⟩
def clr{S:Type}(b:dm S):dm S:={b with out:=[]}
def lW{K:az}(s:en K):en K:={s with bs:=s.bs.map clr,bag:=s.bag++s.bs.flatMap (·.out)}
theorem Qj{S:Type}{bs:List (dm S)}{i:Nat}{b:dm S}(h:bs[i]? =some b):((bs.take i).map clr++bs.drop i).set i (clr b)=(bs.take (i+1)).map clr++bs.drop (i+1)∧((bs.take i).map clr++bs.drop i)[i]? =some b∧bs.take (i+1)=bs.take i++[b]:=by
 have hlt:i<bs.length:=(List.getElem?_eq_some_iff.1 h).1
 have htk:bs.take (i+1)=bs.take i++[b]:=(ep (List.Perm.refl bs) h).2
 have hd:bs.drop i=b::bs.drop (i+1):=by
  rw[List.drop_eq_getElem_cons hlt]
  congr 1
  exact(List.getElem?_eq_some_iff.1 h).2
 have hl:((bs.take i).map clr).length=i:=by simp;omega
 refine⟨?_,?_,htk⟩
 ·rw[hd,List.set_append_right _ _ (by omega),hl,Nat.sub_self,List.set_cons_zero,htk,List.map_append,List.append_assoc]
  rfl
 ·rw[List.getElem?_append_right (by omega),hl,Nat.sub_self,hd]
  rfl
theorem O8{I:Ctx}{q G i0 nR cR:Nat}{AR:Option Addr}{cs:Array Value}{fz:Nat×Nat}{ps L:List Pk}{Ap:Option Addr}{cp:Nat}{csp:List Value}{mp hx mz:Mem}{Q:Value→Mem→Prop}(hps:Own 87 4 Ap ps.length cp csp mp)(hpk:nZ (plus noC hx) ps csp)(h4:cs[4]? =some (ptV G))(hpb: ∀p∈ps,p.B.length≤100000000000)(hbd:L.length+ps.length≤100000000000)
  (hk: ∀mG h gg u,iN 76 G (L++ps) mG→aM h ([(q,.cells cs 60 fz)]++(mG++mz)) gg→Wp Tryz.prog 22 b6 (bY ⟨q,0,none⟩ AR nR cR nR (IntKind.wrap .i64 ((i0:Nat)+1)) u) I h (cl_ Q)):
  ∀(n i:Nat) (mG h gg:Mem) (u:Nat→Value),i+n=ps.length→iN 76 G (L++ps.take i) mG→aM h ([(q,.cells cs 60 fz)]++(mp++(hx++(mG++mz)))) gg→
  Wp Tryz.prog 22 c9 (c7 ⟨q,0,none⟩ AR nR cR nR i0 Ap ps.length cp ps.length i u) I h (cl_ Q):=by
 intro n
 induction n with
 |zero=>
  intro i mG h gg u hi hm hp
  rw[List.take_of_length_le (by omega)]at hm
  refine Wp.perm (h:=(q,.cells cs 60 fz)::(mp++(hx++(mG++(mz++gg))))) ?_ ((List.Perm.trans hp cE).symm)
  refine iK _ _ _ _ _ _ _ _ _ _ _ _ ?_
  refine b7 (by simp;omega) ?_
  refine aj fun _ _=>?_
  exact hk mG _ _ _ hm pE
 |succ n ih=>
  intro i mG h gg u hi hm hp
  obtain⟨x,hxi⟩: ∃x,ps[i]? =some x:=⟨_,List.getElem?_eq_getElem (show i<ps.length by omega)⟩
  have htk:ps.take (i+1)=ps.take i++[x]:=(ep (List.Perm.refl ps) hxi).2
  obtain⟨c4,⟨A',n',c',rfl,hB⟩,hc4⟩:=hpk.get hxi
  obtain⟨ad,rfl,hcell⟩: ∃a,Ap=some a∧ ∀J k,(∀x∈mp,x∈k)→df J k (a.add (i*4)) [.int .i64 x.d,.int .i64 x.f,.int .i64 x.t,.slice A' n' c']:=by
   obtain⟨h1,h2,⟨_,h3,_⟩|⟨b,arr,h3,_⟩⟩:=id hps
   ·omega
   ·refine⟨_,h3,fun J k hk q v hq=>?_⟩
    obtain⟨a2,e1,e2⟩:=hps.rd (I:=J) hk (fun e=>by have:=hc4 0 _ rfl;rw[e]at this;cases this)
    rw[h3]at e1
    injection e1 with e1
    subst e1
    rw[add_add]
    exact e2 _ v (hc4 q v hq)
  refine Wp.perm (h:=(q,.cells cs 60 fz)::(mp++(hx++(mG++(mz++gg))))) ?_ ((List.Perm.trans hp cE).symm)
  refine iK _ _ _ _ _ _ _ _ _ _ _ _ ?_
  refine aX (by simp;omega) ?_
  refine aI ad rfl (sz:=4) kE (by omega) (by omega) rfl ?_
  dsimp only
  rw[Int.toNat_natCast]
  refine bL (cs:=[.int .i64 x.d,.int .i64 x.f,.int .i64 x.t,.slice A' n' c']) (ag [{i:=x.d},{i:=x.f},{i:=x.t},{A:=A',n:=n',c:=c'}]) kE kE (hcell _ _ fun x hx=>mq1 (List.mem_append_left _ hx)) rfl ?_
  dsimp only[ag]
  refine bt dK fun y _ _=>?_
  refine stU uE kE rE vE ?_;dsimp only[ag]
  refine ldP (mq1 mq0) h4 kE ?_
  refine la8 mE rE kE ?_;dsimp only[ag]
  refine ak mG _ sK (aM.perm (m:=mG) pE) (fun hl=>Ew (p:=x) hm (hB.up fun b o hb'=>?_) (hpb x (List.mem_of_getElem? hxi)) (by simp;omega)) ?_
  ·have hl':=((hl.perm (aM.perm (m:=mG) pE)).perm List.perm_append_comm).left
   refine aF hl' (.inl ?_)
   have hb2:=p9 hb'
   simp[hb2]
  rintro w h2 ⟨rfl,hm2⟩
  refine⟨fun _=>{},rfl,?_⟩
  refine aj fun _ _=>?_
  rw[dT (by omega)]
  refine ih (i+1) h2 _ _ _ (by omega) ?_ pE
  rw[htk,←List.append_assoc]
  exact hm2
theorem N6{I:Ctx}{K:az}{n0:Nat}{es:List Ed}{s:en K}{q:Nat}{a:NAd}{AR AU:Option Addr}{cR cU G:Nat}{ps:List Nat}{mR mU:Mem}(ha:OH K n0 es a)(oR:Own 61 1 AR s.bs.length cR (ps.map ptV) mR)(oU:Own 4 1 AU s.up.length cU (s.up.map Value.bool) mU)
  (hpl:ps.length=s.bs.length)(hpb: ∀b∈s.bs,∀p∈b.out,p.B.length≤100000000000)(hbl:s.bag.length+(s.bs.flatMap (·.out)).length≤100000000000)(hbn:s.bs.length≤1000):
  ∀(n i:Nat) (mG mB h gg:Mem) (u:Nat→Value),i+n=s.bs.length→iN 76 G (s.bag++(s.bs.take i).flatMap (·.out)) mG→I1 K ((s.bs.take i).map clr++s.bs.drop i) ps mB→
  aM h ([(q,.cells (kC n0 es a AR AU s.bs.length cR s.up.length cU G s.now) 60 (0,0))]++(a.mN++(a.hN++(a.mE++(mR++(mU++(mG++mB))))))) gg→
  Wp Tryz.prog 22 b6 (bY ⟨q,0,none⟩ AR s.bs.length cR s.bs.length i u) I h (cl_ fun v h'=>v=undef∧iB K n0 es (lW s) q h'):=by
 intro n
 induction n with
 |zero=>
  intro i mG mB h gg u hi hG hB hp
  rw[List.take_of_length_le (by omega)]at hG hB
  rw[List.drop_of_length_le (by omega),List.append_nil]at hB
  refine iU _ _ _ _ _ _ _ ?_
  refine b7 (by simp;omega) ?_
  refine aY hp ⟨rfl,a,AR,cR,AU,cU,G,ps,mR,mU,mG,mB,?_,ha,?_,oU,hG,hB⟩
  ·show _=(q,Obj.cells (kC n0 es a AR AU (s.bs.map clr).length cR s.up.length cU G s.now) 60 (0,0))::_
   rw[List.length_map];rfl
  ·show Own 61 1 AR (s.bs.map clr).length cR _ mR
   rw[List.length_map];exact oR
 |succ n ih=>
  intro i mG mB h gg u hi hG hB hp
  obtain⟨b,hbi⟩: ∃b,s.bs[i]? =some b:=⟨_,List.getElem?_eq_getElem (show i<s.bs.length by omega)⟩
  obtain⟨c1,c2,c3⟩:=Qj hbi
  obtain⟨p,m1,mz,hpi,hperm,hb,hset⟩:=hB.get c2
  have hps:ps.set i p=ps:=by
   obtain⟨h1,h2⟩:=List.getElem?_eq_some_iff.1 hpi
   rw[←h2];exact List.set_getElem_self _
  refine Wp.perm (h:=(q,.cells (kC n0 es a AR AU s.bs.length cR s.up.length cU G s.now) 60 (0,0))::(mR++(m1++(mG++(a.mN++(a.hN++(a.mE++(mU++(mz++gg))))))))) ?_ ?_
  rotate_left
  ·refine(List.Perm.trans hp ?_).symm
   refine List.Perm.trans (l₂:=([(q,.cells (kC n0 es a AR AU s.bs.length cR s.up.length cU G s.now) 60 (0,0))]++(a.mN++(a.hN++(a.mE++(mR++(mU++(mG++(m1++mz))))))))++gg) ?_ cE
   exact List.Perm.append_right _ (List.Perm.append_left _ (List.Perm.append_left _ (List.Perm.append_left _ (List.Perm.append_left _ (List.Perm.append_left _ (List.Perm.append_left _ (List.Perm.append_left _ hperm)))))))
  refine iU _ _ _ _ _ _ _ ?_
  refine aX (by simp;omega) ?_
  have hne:ps.map ptV≠[]:=by intro e;rw[List.map_eq_nil_iff]at e;rw[e]at hpi;simp at hpi
  obtain⟨ad,rfl,hcell⟩:=oR.rd (I:=I) (h:=(q,.cells (kC n0 es a AR AU s.bs.length cR s.up.length cU G s.now) 60 (0,0))::(mR++(m1++(mG++(a.mN++(a.hN++(a.mE++(mU++(mz++gg))))))))) (fun x hx=>mq1 (List.mem_append_left _ hx)) hne
  refine aI ad rfl (sz:=1) kE (by omega) (by omega) rfl ?_
  dsimp only
  rw[Int.toNat_natCast,Nat.mul_one]
  refine ub kE (hcell i (ptV p) (by rw[List.getElem?_map,hpi];rfl)) ?_
  refine ak m1 _ um (aM.perm (m:=m1) pE) (fun hl=>E2 hb) ?_
  rintro w hw ⟨n1,n2,rfl,hb2,Ap,cp,csp,mp,hx,rfl,rfl,hps2,hpk⟩
  refine⟨fun _=>{A:=Ap,n:=b.out.length,c:=cp},rfl,?_⟩
  obtain⟨mB',hB',hperm'⟩:=hset (clr b) p n1 hb2
  rw[c1,hps]at hB'
  simp only[List.append_assoc]
  refine aj fun _ _=>?_
  have hbm:b∈s.bs:=List.mem_of_getElem? hbi
  have hsub:((s.bs.take i).flatMap (·.out)).length+b.out.length≤(s.bs.flatMap (·.out)).length:=by
   have e:s.bs=s.bs.take (i+1)++s.bs.drop (i+1):=(List.take_append_drop _ _).symm
   rw[c3]at e
   conv=>rhs;rw[e]
   rw[List.flatMap_append,List.flatMap_append,List.length_append,List.length_append,List.flatMap_singleton]
   omega
  refine O8 (G:=G) (cs:=kC n0 es a (some ad) AU s.bs.length cR s.up.length cU G s.now) (fz:=(0,0)) (L:=s.bag++(s.bs.take i).flatMap (·.out)) (ps:=b.out) (mz:=mR++(n1++(a.mN++(a.hN++(a.mE++(mU++mz)))))) hps2 hpk (by rfl) (fun p hp=>hpb b hbm p hp) (by rw[List.length_append];omega) ?_ b.out.length 0 mG _ _ _ (by omega) (by simpa using hG) pE
  intro mG' h' gg' u' hG' hp'
  rw[dT (by omega)]
  refine ih (i+1) mG' mB' _ gg' _ (by omega) ?_ hB' ?_
  ·rw[c3,List.flatMap_append,List.flatMap_singleton,←List.append_assoc];exact hG'
  ·refine List.Perm.trans hp' ?_
   refine List.Perm.trans (l₂:=([(q,.cells (kC n0 es a (some ad) AU s.bs.length cR s.up.length cU G s.now) 60 (0,0))]++(a.mN++(a.hN++(a.mE++(mR++(mU++(mG'++(n1++mz))))))))++gg') cE ?_
   exact List.Perm.append_right _ (List.Perm.append_left _ (List.Perm.append_left _ (List.Perm.append_left _ (List.Perm.append_left _ (List.Perm.append_left _ (List.Perm.append_left _ (List.Perm.append_left _ hperm'.symm)))))))
theorem us{I:Ctx}{K:az}{n0:Nat}{es:List Ed}{s:en K}{q:Nat}{m:Mem}(hm:iB K n0 es s q m)(hpb: ∀b∈s.bs,∀p∈b.out,p.B.length≤100000000000)(hbl:s.bag.length+(s.bs.flatMap (·.out)).length≤100000000000)(hbn:s.bs.length≤1000):
  Fn Tryz.prog 22 #[ptV q] I m (fun v h'=>v=undef∧iB K n0 es (lW s) q h'):=by
 obtain⟨a,AR,cR,AU,cU,G,ps,mR,mU,mG,mB,rfl,ha,oR,oU,hG,hB⟩:=hm
 refine qO _ ?_
 refine ldL mE rE kE ?_;dsimp only[ag]
 refine aj fun _ _=>?_
 exact N6 ha oR oU hB.len hpb hbl hbn s.bs.length 0 mG mB _ [] _ (by omega) (by simpa using hG) (by simpa using hB) pE
def Ag(K:az)(e:Ed)(i:Nat)(s s':en K):Prop:= ∃bA bA' bB bB' x y,s.bs[(e.a - 1).toNat]? =some bA∧uS K e.b e.c bA bA' x∧(s.bs.set (e.a - 1).toNat bA')[(e.b - 1).toNat]? =some bB∧uS K e.a e.c bB bB' y∧
 s'={s with bs:=(s.bs.set (e.a - 1).toNat bA').set (e.b - 1).toNat bB',up:=s.up.set i true}
theorem HI{α:Type}{f:α→Value}{l:List α}{i:Nat}(x:α)(hi:i<l.length):wrL (l.map f) i [f x]=(l.set i x).map f:=by
 unfold wrL
 rw[List.map_set,List.set_eq_take_append_cons_drop,if_pos (by simpa using hi)]
 simp
theorem C5{P:Program}{I:Ctx}{f:Ctl}{Q:Value→Mem→Prop}{h:Mem}{t:Tr}{a c c1 c2 g:Mem}(p:aM h (c++a) g)(q:c.Perm (c1++c2))(hh:holds P f I (cl_ Q) t (c1++(c2++a))):holds P f I (cl_ Q) t h:=
 lE (cl_.aff _) t (h:=c1++(c2++a)) (g:=g) (List.Perm.trans p (by rw[←List.append_assoc c1 c2 a];exact(q.append_right a).append_right g)) hh
theorem I5{P:Program}{I:Ctx}{f:Ctl}{Q:Value→Mem→Prop}{h:Mem}{t:Tr}{a c c1 c2 g:Mem}(p:aM h (c1++(c2++a)) g)(q:c.Perm (c1++c2))(hh:holds P f I (cl_ Q) t (c++a)):holds P f I (cl_ Q) t h:=
 lE (cl_.aff _) t (h:=c++a) (g:=g) (List.Perm.trans p (by rw[←List.append_assoc c1 c2 a];exact(q.symm.append_right a).append_right g)) hh
theorem iy{α:Type}{l:List α}{i:Nat}{x:α}(h:l[i]? =some x):l.set i x=l:=by
 obtain⟨h1,h2⟩:=List.getElem?_eq_some_iff.1 h
 rw[←h2];exact List.set_getElem_self _
theorem Ko{I:Ctx}{K:az}(hK:br K){N:Int→Prop}{n:Nat}{es:List Ed}{s:en K}{q i:Nat}{m:Mem}{e:Ed}{bA bB:dm K.S}(hm:iB K n es s q m)(he:es[i]? =some e)(hA:s.bs[(e.a - 1).toNat]? =some bA)(hB0:s.bs[(e.b - 1).toNat]? =some bB)(ha1:1≤e.a)(hb1:1≤e.b)(hab:e.a≠e.b)
  (hok1:K.ok N bA.s)(hok2:K.ok N bB.s)(hN1:N e.b)(hN2:N e.a)(hout1:bA.out.length≤900000000)(hout2:bB.out.length≤900000000)(hbn:s.bs.length≤1000)(hel:es.length=s.up.length)(hes:es.length≤1000):
  Fn Tryz.prog 21 #[ptV q,.int .i64 i] I m (fun v h'=>v=undef∧ ∃s',Ag K e i s s'∧iB K n es s' q h'):=by
 obtain⟨a,AR,cR,AU,cU,G,ps,mR,mU,mG,mB,rfl,ha,oR,oU,hG,hB⟩:=hm
 have hpl:=hB.len
 refine rq _ _ ?_
 refine ldL mE rE kE ?_;dsimp only[ag]
 obtain⟨ae,hae,hce⟩:=EM ha.oe he
 have hei:i<es.length:=(List.getElem?_eq_some_iff.1 he).1
 rw[hae]
 refine aI ae rfl (sz:=4) kE (by omega) (by omega) rfl ?_
 dsimp only
 rw[Int.toNat_natCast]
 refine bL (cs:=Ed.C e) (ag [{i:=0},{i:=e.a},{i:=e.b},{i:=e.c}]) kE kE (hce _ _ sE) rfl ?_
 dsimp only[ag]
 refine bt u4 fun y _ _=>?_
 refine stU uE kE rE vE ?_;dsimp only[ag];refine ldI mE rE kE ?_;dsimp only[ag];refine ldI mE rE kE ?_;dsimp only[ag];refine ldI mE rE kE ?_;dsimp only[ag];refine ldI mE rE kE ?_;dsimp only[ag];refine ldI mE rE kE ?_;dsimp only[ag]
 obtain⟨p1,m1,mz1,hp1,hperm1,hb1,hset1⟩:=hB.get hA
 refine C5 (a:=(y,.cells ⟨Ed.C e⟩ 42 (0,0))::(q,.cells (kC n es a AR AU s.bs.length cR s.up.length cU G s.now) 60 (0,0))::(a.mN++(a.hN++(a.mE++(mR++(mU++(mG))))))) (c:=mB) pE hperm1 ?_
 refine ak [] _ bb (List.Perm.refl _) (fun hl=>kc (id:=e.a) (aF hl (.inl mE)) (by rw[←hpl];rfl) ((oR.rd sE).all hl) (by omega)) ?_
 rintro w h ⟨rfl,rfl⟩
 have hf1:yX ps (e.a)=some p1:=by unfold yX;rw[if_pos (by omega)];exact hp1
 refine⟨fun _=>{A:=some ⟨p1,0,none⟩},by rw[hf1];rfl,?_⟩
 dsimp only
 rw[List.nil_append]
 refine pn1 mE rE kE ?_;refine pn1 mE rE kE ?_;refine pn1 mE rE kE ?_;refine pn1 mE rE kE ?_
 refine ak m1 _ lR (aM.perm (m:=m1) pE) (fun hl=>G8 hK (k:=e.b) (c:=e.c) (now:=s.now) hb1 hok1 hN1 (by have:=hout1;omega)) ?_
 rintro w h1 ⟨x1,b1',rfl,hR1,hM1⟩
 refine⟨fun _=>{i:=x1},rfl,?_⟩
 obtain⟨mB1,hB1,hq1⟩:=hset1 b1' p1 h1 hM1
 rw[iy hp1]at hB1
 refine I5 (a:=(y,.cells ⟨Ed.C e⟩ 42 (0,0))::(q,.cells (kC n es a AR AU s.bs.length cR s.up.length cU G s.now) 60 (0,0))::(a.mN++(a.hN++(a.mE++(mR++(mU++(mG))))))) (c:=mB1) (c1:=h1) (c2:=mz1) pE hq1 ?_
 refine ldI mE rE kE ?_;dsimp only[ag];refine ldI mE rE kE ?_;dsimp only[ag];refine ldI mE rE kE ?_;dsimp only[ag];refine ldI mE rE kE ?_;dsimp only[ag];refine ldI mE rE kE ?_;dsimp only[ag]
 have hB2:(s.bs.set (e.a - 1).toNat b1')[(e.b - 1).toNat]? =some bB:=by rw[List.getElem?_set_ne (by omega)];exact hB0
 obtain⟨p2,m2,mz2,hp2,hperm2,hb2,hset2⟩:=hB1.get hB2
 refine C5 (a:=(y,.cells ⟨Ed.C e⟩ 42 (0,0))::(q,.cells (kC n es a AR AU s.bs.length cR s.up.length cU G s.now) 60 (0,0))::(a.mN++(a.hN++(a.mE++(mR++(mU++(mG))))))) (c:=mB1) pE hperm2 ?_
 refine ak [] _ bb (List.Perm.refl _) (fun hl=>kc (id:=e.b) (aF hl (.inl mE)) (by rw[←hpl];rfl) ((oR.rd sE).all hl) (by omega)) ?_
 rintro w h ⟨rfl,rfl⟩
 have hf2:yX ps (e.b)=some p2:=by unfold yX;rw[if_pos (by omega)];exact hp2
 refine⟨fun _=>{A:=some ⟨p2,0,none⟩},by rw[hf2];rfl,?_⟩
 dsimp only
 rw[List.nil_append]
 refine pn1 mE rE kE ?_;refine pn1 mE rE kE ?_;refine pn1 mE rE kE ?_;refine pn1 mE rE kE ?_
 refine ak m2 _ lR (aM.perm (m:=m2) pE) (fun hl=>G8 hK (k:=e.a) (c:=e.c) (now:=s.now) hb2 hok2 hN2 (by have:=hout2;omega)) ?_
 rintro w h2 ⟨x2,b2',rfl,hR2,hM2⟩
 refine⟨fun _=>{i:=x2},rfl,?_⟩
 obtain⟨mB2,hB2',hq2⟩:=hset2 b2' p2 h2 hM2
 rw[iy hp2]at hB2'
 refine I5 (a:=(y,.cells ⟨Ed.C e⟩ 42 (0,0))::(q,.cells (kC n es a AR AU s.bs.length cR s.up.length cU G s.now) 60 (0,0))::(a.mN++(a.hN++(a.mE++(mR++(mU++(mG))))))) (c:=mB2) (c1:=h2) (c2:=mz2) pE hq2 ?_
 refine ldL mE rE kE ?_;dsimp only[ag]
 obtain⟨au,hau,hcu⟩:=oU.rd (I:=I) (h:=mB2++((y,.cells ⟨Ed.C e⟩ 42 (0,0))::(q,.cells (kC n es a AR AU s.bs.length cR s.up.length cU G s.now) 60 (0,0))::(a.mN++(a.hN++(a.mE++(mR++(mU++(mG)))))))) sE (by intro x;rw[List.map_eq_nil_iff]at x;rw[x]at hel;simp at hel;rw[hel]at hei;simp at hei)
 subst hau
 refine aI au rfl (sz:=1) kE (by omega) (by omega) rfl ?_
 dsimp only
 rw[Int.toNat_natCast,Nat.mul_one]
 refine iH i (m:=mU) (cl_.aff _) (aM.perm (m:=mU) pE) oU rfl kE (by simp[Value.cells];omega) (by simp[Value.cells]) ?_
 intro mU' oU'
 rw[show(Value.bool true).cells.toList=[Value.bool true]from rfl,HI true (by omega)]at oU'
 have hlen:((s.bs.set (e.a - 1).toNat b1').set (e.b - 1).toNat b2').length=s.bs.length:=by simp
 have hlen2:(s.up.set i true).length=s.up.length:=by simp
 refine aY (aM.perm (m:=(q,.cells (kC n es a AR (some au) s.bs.length cR s.up.length cU G s.now) 60 (0,0))::(a.mN++(a.hN++(a.mE++(mR++(mU'++(mG++(mB2)))))))) pE) ⟨rfl,{s with bs:=(s.bs.set (e.a - 1).toNat b1').set (e.b - 1).toNat b2',up:=s.up.set i true},⟨bA,b1',bB,b2',x1,x2,hA,hR1,hB2,hR2,rfl⟩,a,AR,cR,some au,cU,G,ps,mR,mU',mG,mB2,by dsimp only;rw[hlen,hlen2],ha,by dsimp only;rw[hlen];exact oR,by dsimp only;rw[hlen2];exact oU',hG,hB2'⟩
end Go.Proofs.YtadanegddceleaaGreatS
