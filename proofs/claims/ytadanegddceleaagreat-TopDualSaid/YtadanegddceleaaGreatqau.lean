import Derived.Test.YtadanegddceleaaGreatqam
import Derived.Test.YtadanegddceleaaGreatqat
set_option linter.unusedSimpArgs false
set_option linter.unusedVariables false
set_option maxRecDepth 20000
namespace Go.Proofs.YtadanegddceleaaGreatS
def TrM(T:List Nd)(most many:Int)(a:Nat)(m:Mem):Prop:= ∃A c mo,m=(a,.cells #[.int .i64 most,.int .i64 many,.slice (some A) T.length c] 192 (0,0))::mo∧Own 225 4 (some A) T.length c (trC T) mo
theorem df.of_own{e:TypeId}{a:Addr}{n c:Nat}{cs:List Value}{m h:Mem}{I:Ctx}(ho:Own e 4 (some a) n c cs m)(hm: ∀x∈m,x∈h): ∀j v,cs[j]? =some v→bh I h (a.add j) v:=by
 intro j v hv
 obtain⟨a2,e1,e2⟩:=ho.rd hm (by intro e;rw[e]at hv;simp at hv)
 injection e1 with e1
 subst e1
 exact e2 j v hv
theorem KW{I:Ctx}{a:Nat}{most many:Int}{p:Int×Int}(hp:0≤p.1∧p.1<4294967296)(hl:0≤p.2∧p.2≤32):
  ∀(n i:Nat) (y4:Nat) (T:List Nd) (A:Addr) (c:Nat) (mo:Mem) (u:Nat→Value),i+n=p.2.toNat→va T→(aH p).take i∈gR T→Own 225 4 (some A) T.length c (trC T) mo→
  Wp Tryz.prog 130 cF (cM ⟨a,0,none⟩ true y4 (ix T ((aH p).take i):Nat) i u) I ((y4,.cells #[.int .u32 p.1,.int .i64 p.2] 45 (0,0))::(a,.cells #[.int .i64 most,.int .i64 many,.slice (some A) T.length c] 192 (0,0))::mo)
   (cl_ fun v h'=> ∃T',T'=Bm (aH p) i n T∧v= .tuple #[.int .i64 (ix T' (aH p):Nat),.bool true]∧TrM T' most many a h'):=by
 have hlen:=jL p
 intro n
 induction n with
 |zero=>
  intro i y4 T A c mo u hi ht hm ho
  refine ig _ _ _ _ _ _ ?_
  refine ldI mE rE kE ?_;dsimp only[ag]
  refine aX (by simp;omega) ?_
  rw[List.take_of_length_le (by omega)]
  exact dl (h1:=(a,.cells #[.int .i64 most,.int .i64 many,.slice (some A) T.length c] 192 (0,0))::mo) pE (List.Perm.refl _) ⟨T,rfl,rfl,A,c,mo,rfl,ho⟩
 |succ n ih=>
  intro i y4 T A c mo u hi ht hm ho
  have hbd:=ht.few
  have hib:i<(aH p).length:=by omega
  have hs:=tN hib
  rw[BP hib]at hs
  obtain⟨j,x,hp1,hx,hxl⟩:=rX hm
  have hix:ix T ((aH p).take i)=j:=by unfold ix;rw[hp1];rfl
  have hjl:j<T.length:=(List.getElem?_eq_some_iff.1 hx).1
  have hbel: ∀I h,(∀x∈mo,x∈h)→bh I h (A.add (j*4+(bI p.1 i).toNat)) (.int .i64 (ix T ((aH p).take (i+1)):Nat)):=by
   intro I h hmo
   refine df.of_own ho hmo _ _ (zP hx _ _ ?_)
   rw[hs,←hxl]
   cases bI p.1 i<;>rfl
  have hlb:(bI p.1 i).toNat≤1:=by cases bI p.1 i<;>decide
  refine ig _ _ _ _ _ _ ?_
  refine ldI mE rE kE ?_;dsimp only[ag]
  refine b7 (by simp;omega) ?_
  refine ldI mE rE kE ?_;dsimp only[ag]
  refine aA (v:= .int .i64 ((bI p.1 i).toNat:Nat)) (fun _=>{i:=((bI p.1 i).toNat:Nat)}) ri (fun hl=>BE hp (by omega)) rfl ?_
  dsimp only
  rw[hix]
  refine ldL mE rE kE ?_;dsimp only[ag]
  refine aI A rfl (sz:=4) kE (by omega) (by omega) rfl ?_
  dsimp only
  refine ko (e:=3) (sz:=1) (n:=2) kE kE (by omega) (by omega) ?_
  dsimp only
  rw[Int.toNat_natCast,Int.toNat_natCast,add_add,Nat.mul_one]
  refine aZ kE (hbel _ _ (fun x hx=>mq1 (mq1 hx))) ?_
  dsimp only
  by_cases hnew:(aH p).take (i+1)∈gR T
  ·have hpos:=Hq ht hnew (by intro e;have:=congrArg List.length e;rw[List.length_take,List.length_nil]at this;omega)
   refine b7 (by simp;omega) ?_
   refine ldL mE rE kE ?_;dsimp only[ag]
   refine aI A rfl (sz:=4) kE (by omega) (by omega) rfl ?_
   dsimp only
   refine ko (e:=3) (sz:=1) (n:=2) kE kE (by omega) (by omega) ?_
   dsimp only
   rw[Int.toNat_natCast,Int.toNat_natCast,add_add,Nat.mul_one]
   refine aZ kE (hbel _ _ (fun x hx=>mq1 (mq1 hx))) ?_
   refine aj fun _ _=>?_
   dsimp only
   rw[dT (by omega)]
   have e1:zV T ((aH p).take (i+1))=T:=by unfold zV;rw[if_pos hnew]
   rw[Bm,e1]
   exact ih (i+1) y4 T A c mo _ (by omega) ht hnew ho
  ·refine aX (by rw[ua hnew];rfl) ?_
   refine b7 rfl ?_
   have hnew2:x.l++[bI p.1 i]∉gR T:=by rw[hxl,←hs];exact hnew
   refine ldL mE rE kE ?_;dsimp only[ag]
   refine gK (e:=225) ⟨[.int .i64 0,.int .i64 0,.int .i64 0,.bool false]⟩ kE fun g hg hI=>?_
   dsimp only
   refine bP (cl_.aff _) HR kE (cs2:=[.int .i64 0,.int .i64 0,.int .i64 0,.bool false]) (fun _=>⟨_,rfl,cw mE rfl⟩) (fun h=>by cases h) rfl (by simp) (m:=mo) p1E ho (by omega) (by omega) ?_
   intro A2 c2 m2 ho2
   obtain⟨A2,rfl⟩: ∃a,A2=some a:=by
    obtain⟨h1,h2,⟨h3,h4,h5⟩|⟨b,arr,h3,_⟩⟩:=ho2
    ·omega
    ·exact⟨_,h3⟩
   refine stU uE kE rE vE ?_;dsimp only[ag];refine ldL mE rE kE ?_;dsimp only[ag];refine ldL mE rE kE ?_;dsimp only[ag]
   refine aI A2 rfl (sz:=4) kE (by omega) (by omega) rfl ?_
   dsimp only
   refine ko (e:=3) (sz:=1) (n:=2) kE kE (by omega) (by omega) ?_
   dsimp only
   rw[Int.toNat_natCast,Int.toNat_natCast,add_add,Nat.mul_one]
   refine iH (j*4+(bI p.1 i).toNat) (cl_.aff _) qE ho2 rfl kE (by simp[Value.cells];omega) (by simp[Value.cells]) ?_
   intro m3 ho3
   have e0:IntKind.wrap .i64 (((T.length+1:Nat):Int) - 1)=(T.length:Int):=by rw[cr (by omega)];omega
   rw[e0,show(Value.int .i64 (T.length:Int)).cells.toList=[.int .i64 (T.length:Nat)]from rfl,J2 ht hx hnew2]at ho3
   have e1:zV T ((aH p).take (i+1))=T++[⟨x.l++[bI p.1 i],0,false⟩]:=by unfold zV;rw[if_neg hnew,hs,hxl]
   obtain⟨ht2,_,hm2⟩:=wW ht (l:=(aH p).take i) (b:=bI p.1 i) hm (by rw[←hs,List.length_take];omega)
   rw[←hs,e1]at ht2 hm2
   have hx2:(T++[⟨x.l++[bI p.1 i],0,false⟩])[j]? =some x:=by rw[List.getElem?_append_left hjl];exact hx
   have hbel2: ∀I h,(∀x∈m3,x∈h)→bh I h (A2.add (j*4+(bI p.1 i).toNat)) (.int .i64 (ix (T++[⟨x.l++[bI p.1 i],0,false⟩]) ((aH p).take (i+1)):Nat)):=by
    intro I h hmo
    refine df.of_own ho3 hmo _ _ (zP hx2 _ _ ?_)
    rw[hs,←hxl]
    cases bI p.1 i<;>rfl
   refine ldL mE rE kE ?_;dsimp only[ag]
   refine aI A2 rfl (sz:=4) kE (by omega) (by omega) rfl ?_
   dsimp only
   refine ko (e:=3) (sz:=1) (n:=2) kE kE (by omega) (by omega) ?_
   dsimp only
   rw[Int.toNat_natCast,Int.toNat_natCast,add_add,Nat.mul_one]
   refine aZ kE (hbel2 _ _ (fun x hx=>List.mem_append_left _ hx)) ?_
   refine aj fun _ _=>?_
   dsimp only
   rw[dT (by omega)]
   rw[Bm,e1]
   have e7:(T++[(⟨x.l++[bI p.1 i],0,false⟩:Nd)]).length=T.length+1:=by simp
   have ih2:=fun u=>ih (i+1) y4 _ A2 c2 m3 u (by omega) ht2 hm2 (by rw[e7];exact ho3)
   rw[e7]at ih2
   refine Wp.perm (Wp.drop (g:=[(g,.cells #[.int .i64 0,.int .i64 0,.int .i64 0,.bool false] 225 (0,0))]) (ih2 _)) ?_
   exact List.Perm.symm ((aM.perm (m:=(y4,.cells #[.int .u32 p.1,.int .i64 p.2] 45 (0,0))::(a,.cells #[.int .i64 most,.int .i64 many,.slice (some A2) (T.length+1) c2] 192 (0,0))::(m3++[(g,.cells #[.int .i64 0,.int .i64 0,.int .i64 0,.bool false] 225 (0,0))])) (g:=[]) pE).trans (by rw[List.append_nil];exact List.Perm.refl _))
theorem KD{I:Ctx}{a:Nat}{T:List Nd}{most many:Int}{m:Mem}{p:Int×Int}(hm0:TrM T most many a m)(ht:va T)(hp:0≤p.1∧p.1<4294967296)(hl:0≤p.2∧p.2≤32):
  Fn Tryz.prog 130 #[ptV a,pfV p,.bool true] I m (fun v h'=> ∃T',T'=Bm (aH p) 0 p.2.toNat T∧v= .tuple #[.int .i64 (ix T' (aH p):Nat),.bool true]∧TrM T' most many a h'):=by
 have hbd:=ht.few
 have hlen:=jL p
 obtain⟨A,c,mo,rfl,ho⟩:=hm0
 refine sM _ _ _ _ ?_
 refine aP fun y4 _ _=>?_
 refine aj fun _ _=>?_
 obtain⟨i,hi0⟩: ∃i:Nat,i=0:=⟨0,rfl⟩
 have hm:(aH p).take i∈gR T:=by rw[hi0];exact tW ht
 have e0:(0:Int)=((ix T ((aH p).take i):Nat):Int):=by rw[hi0];show(0:Int)=((ix T []:Nat):Int);rw[LM ht];rfl
 suffices hh: ∀u,Wp Tryz.prog 130 g8 (hZ ⟨a,0,none⟩ true y4 (ix T ((aH p).take i):Nat) (i:Nat) u) I ((y4,.cells #[.int .u32 p.1,.int .i64 p.2] 45 (0,0))::(a,.cells #[.int .i64 most,.int .i64 many,.slice (some A) T.length c] 192 (0,0))::mo)
   (cl_ fun v h'=> ∃T',T'=Bm (aH p) i p.2.toNat T∧v= .tuple #[.int .i64 (ix T' (aH p):Nat),.bool true]∧TrM T' most many a h') by
  have:=hh
  rw[←e0,hi0]at this
  exact this _
 intro u
 cases hn:p.2.toNat with
 |zero=>
  have hi:i+0=p.2.toNat:=by omega
  refine gU _ _ _ _ _ _ ?_
  refine ldI mE rE kE ?_;dsimp only[ag]
  refine aX (by simp;omega) ?_
  rw[List.take_of_length_le (by omega)]
  exact dl (h1:=(a,.cells #[.int .i64 most,.int .i64 many,.slice (some A) T.length c] 192 (0,0))::mo) pE (List.Perm.refl _) ⟨T,rfl,rfl,A,c,mo,rfl,ho⟩
 |succ n=>
  have hi:i+(n+1)=p.2.toNat:=by omega
  have ih:=fun i y4 T A c mo u=>KW (I:=I) (a:=a) (most:=most) (many:=many) hp hl n i y4 T A c mo u
  have hib:i<(aH p).length:=by omega
  have hs:=tN hib
  rw[BP hib]at hs
  obtain⟨j,x,hp1,hx,hxl⟩:=rX hm
  have hix:ix T ((aH p).take i)=j:=by unfold ix;rw[hp1];rfl
  have hjl:j<T.length:=(List.getElem?_eq_some_iff.1 hx).1
  have hbel: ∀I h,(∀x∈mo,x∈h)→bh I h (A.add (j*4+(bI p.1 i).toNat)) (.int .i64 (ix T ((aH p).take (i+1)):Nat)):=by
   intro I h hmo
   refine df.of_own ho hmo _ _ (zP hx _ _ ?_)
   rw[hs,←hxl]
   cases bI p.1 i<;>rfl
  have hlb:(bI p.1 i).toNat≤1:=by cases bI p.1 i<;>decide
  refine gU _ _ _ _ _ _ ?_
  refine ldI mE rE kE ?_;dsimp only[ag]
  refine b7 (by simp;omega) ?_
  refine ldI mE rE kE ?_;dsimp only[ag]
  refine aA (v:= .int .i64 ((bI p.1 i).toNat:Nat)) (fun _=>{i:=((bI p.1 i).toNat:Nat)}) ri (fun hl=>BE hp (by omega)) rfl ?_
  dsimp only
  rw[hix]
  refine ldL mE rE kE ?_;dsimp only[ag]
  refine aI A rfl (sz:=4) kE (by omega) (by omega) rfl ?_
  dsimp only
  refine ko (e:=3) (sz:=1) (n:=2) kE kE (by omega) (by omega) ?_
  dsimp only
  rw[Int.toNat_natCast,Int.toNat_natCast,add_add,Nat.mul_one]
  refine aZ kE (hbel _ _ (fun x hx=>mq1 (mq1 hx))) ?_
  dsimp only
  by_cases hnew:(aH p).take (i+1)∈gR T
  ·have hpos:=Hq ht hnew (by intro e;have:=congrArg List.length e;rw[List.length_take,List.length_nil]at this;omega)
   refine b7 (by simp;omega) ?_
   refine ldL mE rE kE ?_;dsimp only[ag]
   refine aI A rfl (sz:=4) kE (by omega) (by omega) rfl ?_
   dsimp only
   refine ko (e:=3) (sz:=1) (n:=2) kE kE (by omega) (by omega) ?_
   dsimp only
   rw[Int.toNat_natCast,Int.toNat_natCast,add_add,Nat.mul_one]
   refine aZ kE (hbel _ _ (fun x hx=>mq1 (mq1 hx))) ?_
   refine aj fun _ _=>?_
   dsimp only
   rw[dT (by omega)]
   have e1:zV T ((aH p).take (i+1))=T:=by unfold zV;rw[if_pos hnew]
   rw[Bm,e1]
   exact ih (i+1) y4 T A c mo _ (by omega) ht hnew ho
  ·refine aX (by rw[ua hnew];rfl) ?_
   refine b7 rfl ?_
   have hnew2:x.l++[bI p.1 i]∉gR T:=by rw[hxl,←hs];exact hnew
   refine ldL mE rE kE ?_;dsimp only[ag]
   refine gK (e:=225) ⟨[.int .i64 0,.int .i64 0,.int .i64 0,.bool false]⟩ kE fun g hg hI=>?_
   dsimp only
   refine bP (cl_.aff _) HR kE (cs2:=[.int .i64 0,.int .i64 0,.int .i64 0,.bool false]) (fun _=>⟨_,rfl,cw mE rfl⟩) (fun h=>by cases h) rfl (by simp) (m:=mo) p1E ho (by omega) (by omega) ?_
   intro A2 c2 m2 ho2
   obtain⟨A2,rfl⟩: ∃a,A2=some a:=by
    obtain⟨h1,h2,⟨h3,h4,h5⟩|⟨b,arr,h3,_⟩⟩:=ho2
    ·omega
    ·exact⟨_,h3⟩
   refine stU uE kE rE vE ?_;dsimp only[ag];refine ldL mE rE kE ?_;dsimp only[ag];refine ldL mE rE kE ?_;dsimp only[ag]
   refine aI A2 rfl (sz:=4) kE (by omega) (by omega) rfl ?_
   dsimp only
   refine ko (e:=3) (sz:=1) (n:=2) kE kE (by omega) (by omega) ?_
   dsimp only
   rw[Int.toNat_natCast,Int.toNat_natCast,add_add,Nat.mul_one]
   refine iH (j*4+(bI p.1 i).toNat) (cl_.aff _) qE ho2 rfl kE (by simp[Value.cells];omega) (by simp[Value.cells]) ?_
   intro m3 ho3
   have e0:IntKind.wrap .i64 (((T.length+1:Nat):Int) - 1)=(T.length:Int):=by rw[cr (by omega)];omega
   rw[e0,show(Value.int .i64 (T.length:Int)).cells.toList=[.int .i64 (T.length:Nat)]from rfl,J2 ht hx hnew2]at ho3
   have e1:zV T ((aH p).take (i+1))=T++[⟨x.l++[bI p.1 i],0,false⟩]:=by unfold zV;rw[if_neg hnew,hs,hxl]
   obtain⟨ht2,_,hm2⟩:=wW ht (l:=(aH p).take i) (b:=bI p.1 i) hm (by rw[←hs,List.length_take];omega)
   rw[←hs,e1]at ht2 hm2
   have hx2:(T++[⟨x.l++[bI p.1 i],0,false⟩])[j]? =some x:=by rw[List.getElem?_append_left hjl];exact hx
   have hbel2: ∀I h,(∀x∈m3,x∈h)→bh I h (A2.add (j*4+(bI p.1 i).toNat)) (.int .i64 (ix (T++[⟨x.l++[bI p.1 i],0,false⟩]) ((aH p).take (i+1)):Nat)):=by
    intro I h hmo
    refine df.of_own ho3 hmo _ _ (zP hx2 _ _ ?_)
    rw[hs,←hxl]
    cases bI p.1 i<;>rfl
   refine ldL mE rE kE ?_;dsimp only[ag]
   refine aI A2 rfl (sz:=4) kE (by omega) (by omega) rfl ?_
   dsimp only
   refine ko (e:=3) (sz:=1) (n:=2) kE kE (by omega) (by omega) ?_
   dsimp only
   rw[Int.toNat_natCast,Int.toNat_natCast,add_add,Nat.mul_one]
   refine aZ kE (hbel2 _ _ (fun x hx=>List.mem_append_left _ hx)) ?_
   refine aj fun _ _=>?_
   dsimp only
   rw[dT (by omega)]
   rw[Bm,e1]
   have e7:(T++[(⟨x.l++[bI p.1 i],0,false⟩:Nd)]).length=T.length+1:=by simp
   have ih2:=fun u=>ih (i+1) y4 _ A2 c2 m3 u (by omega) ht2 hm2 (by rw[e7];exact ho3)
   rw[e7]at ih2
   refine Wp.perm (Wp.drop (g:=[(g,.cells #[.int .i64 0,.int .i64 0,.int .i64 0,.bool false] 225 (0,0))]) (ih2 _)) ?_
   exact List.Perm.symm ((aM.perm (m:=(y4,.cells #[.int .u32 p.1,.int .i64 p.2] 45 (0,0))::(a,.cells #[.int .i64 most,.int .i64 many,.slice (some A2) (T.length+1) c2] 192 (0,0))::(m3++[(g,.cells #[.int .i64 0,.int .i64 0,.int .i64 0,.bool false] 225 (0,0))])) (g:=[]) pE).trans (by rw[List.append_nil];exact List.Perm.refl _))
theorem TrM.in{T:List Nd}{most many:Int}{a:Nat}{m h:Mem}{I:Ctx}(hm:TrM T most many a m)(hl:dJ I h)(hs: ∀x∈m,x∈h): ∃A c,FV (plus I h) a T most many A c∧ ∃mo,m=(a,.cells #[.int .i64 most,.int .i64 many,.slice (some A) T.length c] 192 (0,0))::mo∧Own 225 4 (some A) T.length c (trC T) mo:=by
 obtain⟨A,c,mo,rfl,ho⟩:=hm
 refine⟨A,c,⟨⟨(0,0),aF hl (.inl (hs _ mq0))⟩,fun i x hx q v hq=>?_⟩,mo,rfl,ho⟩
 rw[add_add]
 have hc:bh I h (A.add (i*4+q)) v:=df.of_own ho (fun x hx=>hs _ (mq1 hx)) _ _ (zP hx q v hq)
 obtain⟨a1,cs,t,fz,hh,hv⟩:=hc
 exact⟨a1,cs,t,fz,.inr (aF hl hh),hv⟩
theorem FV.up{I J:Ctx}{a:Nat}{T:List Nd}{most many:Int}{A:Addr}{c:Nat}(h:FV I a T most many A c)(hs: ∀b o,I b=some o→J b=some o):FV J a T most many A c:=by
 obtain⟨⟨fz,hb⟩,hr⟩:=h
 refine⟨⟨fz,hs _ _ hb⟩,fun i x hx q v hq=>?_⟩
 obtain⟨a1,cs,t,fz,hh,hv⟩:=hr i x hx q v hq
 exact⟨a1,cs,t,fz,hh.elim (fun h=>by cases h) (fun h=> .inr (hs _ _ h)),hv⟩
theorem FV.plus{I:Ctx}{h:Mem}{a:Nat}{T:List Nd}{most many:Int}{A:Addr}{c:Nat}(hi:FV I a T most many A c)(hl:dJ I h):FV (plus I h) a T most many A c:=hi.up fun b o hb=>aF hl (.inr hb)
def D9(T:List Nd)(A:Addr)(p:Int×Int):Option Addr:=if ov p.1.toNat p.2=true∧(mh T (aH p)).isSome=true then some (A.add (ix T (aH p)*4))else none
theorem xd{I:Ctx}{a:Nat}{T:List Nd}{most many:Int}{A:Addr}{c:Nat}{p:Int×Int}(hin:FV I a T most many A c)(ht:va T)(hp:qb p):
  Fn Tryz.prog 129 #[ptV a,pfV p] I [] (fun v h'=>v= .pointer (D9 T A p)∧h'=[]):=by
 have hbd:=ht.few
 obtain⟨fz,hb⟩:=hin.b
 refine AD _ _ _ ?_
 refine aP fun y _ _=>?_
 refine lz mE rE kE ?_;dsimp only[ag]
 refine aA (v:= .bool (ov p.1.toNat p.2)) (fun _=>{b:=ov p.1.toNat p.2}) iE (fun hl=>uf hp) rfl ?_
 dsimp only
 refine ay (fun t1=>?_) (fun t1=>?_)
 ·exact d9 [_] rfl ⟨by unfold D9;rw[if_neg (fun h=>by rw[h.1]at t1;cases t1)],rfl⟩
 have t1:ov p.1.toNat p.2=true:=by simpa using t1
 obtain⟨h32,hbl⟩:=Ia t1
 refine lz mE rE kE ?_;dsimp only[ag]
 refine aA (v:=Hf T (aH p)) (ag [{i:=(ix T (aH p):Nat)},{b:=decide (aH p∈gR T)}]) ql (fun hl=>Kk (hin.plus hl) ht hp.1 h32) rfl ?_
 dsimp only[ag]
 by_cases hm:aH p∈gR T
 ·rw[decide_eq_true hm]
  refine b7 rfl ?_
  obtain⟨j,x,hp1,hx,hxl⟩:=rX hm
  have hix:ix T (aH p)=j:=by unfold ix;rw[hp1];rfl
  have hjl:j<T.length:=(List.getElem?_eq_some_iff.1 hx).1
  have hv:=Fe hp1 hx
  have hcell:bh I [] (A.add (j*4+3)) (.bool x.h):=by rw[←add_add];exact hin.r j x hx 3 _ rfl
  rw[hix]
  refine dS kE ⟨rfl,_,_,_,.inr hb,rfl⟩ ?_
  dsimp only
  refine aI A rfl (sz:=4) kE (by omega) (by omega) rfl ?_
  dsimp only
  rw[Int.toNat_natCast,add_add]
  refine Is kE (hcell.mono fun x hx=>by cases hx) ?_
  dsimp only
  refine ay (fun t2=>?_) (fun t2=>?_)
  ·exact d9 [_] rfl ⟨by unfold D9;rw[if_neg (fun h=>by rw[hv]at h;simp at t2;simp[t2]at h)],rfl⟩
  ·have t2:x.h=true:=by simpa using t2
   refine dS kE ⟨rfl,_,_,_,.inr hb,rfl⟩ ?_
   dsimp only
   refine aI A rfl (sz:=4) kE (by omega) (by omega) rfl ?_
   dsimp only
   rw[Int.toNat_natCast]
   exact d9 [_] rfl ⟨by unfold D9;rw[if_pos ⟨t1,by rw[hv,t2];rfl⟩,hix],rfl⟩
 ·rw[decide_eq_false hm]
  refine aX rfl ?_
  exact d9 [_] rfl ⟨by unfold D9;rw[if_neg (fun h=>by rw[Ci hm]at h;cases h.2)],rfl⟩
theorem Gg{T:List Nd}{A:Addr}{p:Int×Int}(ht:va T)(h:(D9 T A p).isSome=true): ∃j x,D9 T A p=some (A.add (j*4))∧T[j]? =some x∧x.l=aH p∧mh T (aH p)=some x.n∧x.h=true∧ov p.1.toNat p.2=true:=by
 unfold D9 at h⊢
 split at h
 ·rename_i hc
  rw[if_pos hc]
  obtain⟨h1,h2⟩:=hc
  have hm:aH p∈gR T:=Classical.byContradiction fun hn=>by rw[Ci hn]at h2;cases h2
  obtain⟨j,x,hp1,hx,hxl⟩:=rX hm
  have hv:=Fe hp1 hx
  have hxh:x.h=true:=by
   cases hxh:x.h
   ·rw[hv,hxh]at h2;cases h2
   ·rfl
  refine⟨j,x,by unfold ix;rw[hp1];rfl,hx,hxl,by rw[hv,if_pos hxh],hxh,h1⟩
 ·cases h
theorem Hj{T:List Nd}{A:Addr}{p:Int×Int}(h:D9 T A p=none)(hm:ov p.1.toNat p.2=true):mh T (aH p)=none:=by
 unfold D9 at h
 split at h
 ·cases h
 ·rename_i hc
  cases hv:mh T (aH p)with
  |none=>rfl
  |some x=>exact absurd ⟨hm,by rw[hv];rfl⟩ hc
theorem EE{I:Ctx}{a:Nat}{T:List Nd}{most many:Int}{A:Addr}{c:Nat}{p:Int×Int}(hin:FV I a T most many A c)(ht:va T)(hp:qb p)(hm:ov p.1.toNat p.2=true):
  Fn Tryz.prog 116 #[ptV a,pfV p] I [] (fun v h'=>v= .tuple #[.int .i64 ((mh T (aH p)).getD 0),.bool (mh T (aH p)).isSome]∧h'=[]):=by
 refine B6 _ _ _ ?_
 refine aP fun _ _ _=>?_;dsimp only[ag];refine lz mE rE kE ?_;dsimp only[ag]
 refine aA (v:= .pointer (D9 T A p)) (fun _=>{A:=D9 T A p}) lh (fun hl=>xd (hin.plus hl) ht hp) rfl ?_
 dsimp only
 refine kb kE ?_;dsimp only[ag]
 cases hf:D9 T A p with
 |none=>
  refine aX rfl ?_
  exact d9 [_] rfl ⟨by rw[Hj hf hm];rfl,rfl⟩
 |some ad=>
  obtain⟨j,x,e,hx,_,hv,_,_⟩:=Gg ht (by rw[hf];rfl:(D9 T A p).isSome=true)
  rw[hf]at e
  injection e with e
  subst e
  refine b7 rfl ?_
  refine dH ?_
  dsimp only
  rw[add_add]
  have hcell:bh I [] (A.add (j*4+2)) (.int .i64 x.n):=by rw[←add_add];exact hin.r j x hx 2 _ rfl
  refine aZ kE (hcell.mono fun x hx=>by cases hx) ?_
  exact d9 [_] rfl ⟨by rw[hv];rfl,rfl⟩
theorem KY{I:Ctx}{most:Int}:Fn Tryz.prog 74 #[.int .i64 most] I [] (fun v h'=> ∃a,v=ptV a∧TrM [⟨[],0,false⟩] most 0 a h'):=by
 refine KR _ ?_
 refine JP (n:=1) (c:=1) HR (by decide) (by decide) (by decide) fun g _ _ ho=>?_
 dsimp only
 refine aP fun a _ _=>?_
 refine dl (h1:=(a,.cells #[.int .i64 most,.int .i64 0,.slice (some ⟨g,0,none⟩) 1 1] 192 (0,0))::[(g,_)]) pE (List.Perm.refl _) ⟨a,rfl,⟨g,0,none⟩,1,_,rfl,?_⟩
 rw[show trC [⟨[],0,false⟩]=(Builtin.zeroCells (Value.agg #[.int .i64 0,.int .i64 0,.int .i64 0,.bool false]).cells 1).toList by kernel_rfl]
 exact ho
theorem Pu:va [⟨[],0,false⟩]:=⟨rfl,by simp[gR],fun l b h=>by simp[gR]at h,fun l h=>by simp[gR]at h;subst h;decide⟩
theorem If{I:Ctx}{a:Nat}{T:List Nd}{most many:Int}{m:Mem}{p:Int×Int}(hm:TrM T most many a m)(ht:va T)(hp:qb p){n:Int}(hv:mh T (aH p)=some n)(hmay:ov p.1.toNat p.2=true)(hmany:0≤many∧many≤1000000):
  Fn Tryz.prog 118 #[ptV a,pfV p] I m (fun v h'=>v= .int .i64 0∧TrM (qZ T (aH p) 0 false) most (many - 1) a h'):=by
 obtain⟨A,c,mo,rfl,ho⟩:=hm
 have hm0:TrM T most many a ((a,.cells #[.int .i64 most,.int .i64 many,.slice (some A) T.length c] 192 (0,0))::mo):=⟨A,c,mo,rfl,ho⟩
 have hbd:=ht.few
 refine AH _ _ _ ?_
 refine aP fun _ _ _=>?_;dsimp only[ag];refine lz mE rE kE ?_;dsimp only[ag]
 refine aA (v:= .pointer (D9 T A p)) (fun _=>{A:=D9 T A p}) lh (fun hl=>?_) rfl ?_
 ·obtain⟨A',c',hin,mo',e,_⟩:=hm0.in hl (fun x hx=>mq1 hx)
  injection e with e1 e2
  injection e1 with _ e1
  injection e1 with e1
  injection e1 with e1
  injection e1 with e3 e4
  injection e4 with e4 e5
  injection e5 with e5 e6
  injection e5 with e5 _ e7
  injection e5 with e5
  subst e5;subst e7
  exact xd hin ht hp
 dsimp only
 refine kb kE ?_;dsimp only[ag]
 cases hf:D9 T A p with
 |none=>rw[Hj hf hmay]at hv;cases hv
 |some ad=>
  obtain⟨j,x,e,hx,hxl,_,hxh,_⟩:=Gg ht (by rw[hf];rfl:(D9 T A p).isSome=true)
  rw[hf]at e
  injection e with e
  subst e
  have hjl:j<T.length:=(List.getElem?_eq_some_iff.1 hx).1
  refine b7 rfl ?_
  refine dH ?_
  dsimp only
  rw[add_add]
  refine iH (j*4+2) (cl_.aff _) qE ho rfl kE (by simp[Value.cells];omega) (by simp[Value.cells]) ?_
  intro m2 ho2
  rw[show(Value.int .i64 0).cells.toList=[.int .i64 0]from rfl,Jl ht.nd hx]at ho2
  have ht2:=FD ht x.l 0 x.h
  have hx2:(qZ T x.l 0 x.h)[j]? =some ⟨x.l,0,x.h⟩:=by
   unfold qZ
   rw[List.getElem?_map,hx]
   simp
  refine dH ?_
  dsimp only
  rw[add_add]
  refine iH (j*4+3) (cl_.aff _) qE ho2 rfl kE (by simp[Value.cells];omega) (by simp[Value.cells]) ?_
  intro m3 ho3
  rw[show(Value.bool false).cells.toList=[.bool false]from rfl]at ho3
  have e3:=JZ ht2.nd hx2 false
  rw[e3]at ho3
  refine ldI mE rE kE ?_;dsimp only[ag];refine stU uE kE rE vE ?_;dsimp only[ag]
  rw[cr (x:=many - 1) (by omega)]
  have e4:qZ (qZ T x.l 0 x.h) x.l 0 false=qZ T (aH p) 0 false:=by
   rw[←hxl]
   unfold qZ
   rw[List.map_map]
   refine List.map_congr_left fun y _=>?_
   simp only[Function.comp_apply]
   by_cases h:y.l=x.l<;>simp[h]
  have hl3:(qZ T (aH p) 0 false).length=T.length:=by simp[qZ]
  refine dl (h1:=[(a,.cells #[.int .i64 most,.int .i64 (many - 1),.slice (some A) T.length c] 192 (0,0))]++m3) pE (List.Perm.refl _) ⟨rfl,A,c,m3,by rw[hl3];rfl,?_⟩
  rw[hl3,←e4]
  exact ho3
theorem TrM.in'{T:List Nd}{most many:Int}{a:Nat}{A:Addr}{c:Nat}{mo h:Mem}{I:Ctx}(ho:Own 225 4 (some A) T.length c (trC T) mo)(hl:dJ I h)(hs: ∀x∈(a,Obj.cells #[.int .i64 most,.int .i64 many,.slice (some A) T.length c] 192 (0,0))::mo,x∈h):FV (plus I h) a T most many A c:=by
 refine⟨⟨(0,0),aF hl (.inl (hs _ mq0))⟩,fun i x hx q v hq=>?_⟩
 rw[add_add]
 have hc:bh I h (A.add (i*4+q)) v:=df.of_own ho (fun x hx=>hs _ (mq1 hx)) _ _ (zP hx q v hq)
 obtain⟨a1,cs,t,fz,hh,hv⟩:=hc
 exact⟨a1,cs,t,fz,.inr (aF hl hh),hv⟩
theorem Pm{T:List Nd}{l:List Bool}{n n2:Int}{h h2:Bool}:qZ (qZ T l n h) l n2 h2=qZ T l n2 h2:=by
 unfold qZ
 rw[List.map_map]
 refine List.map_congr_left fun y _=>?_
 simp only[Function.comp_apply]
 by_cases h:y.l=l<;>simp[h]
def Qb(T:List Nd)(p:Int×Int)(n:Int):List Nd:=qZ (Bm (aH p) 0 p.2.toNat T) (aH p) n true
theorem KA{T:List Nd}(ht:va T){p:Int×Int}(hmay:ov p.1.toNat p.2=true)(n:Int):va (Qb T p n)∧ ∀l,mh (Qb T p n) l=if l=aH p then some n else mh T l:=by
 obtain⟨h32,hbl⟩:=Ia hmay
 obtain⟨a,b,c⟩:=w7 hbl (n:=p.2.toNat) (i:=0) ht (by rw[jL];omega) (tW ht)
 refine⟨FD a _ _ _,fun l=>?_⟩
 unfold Qb
 rw[ER c,b]
 rfl
theorem KO{I:Ctx}{a:Nat}{T:List Nd}{most many n:Int}{m:Mem}{p:Int×Int}(hm:TrM T most many a m)(ht:va T)(hp:qb p)(hv:mh T (aH p)=none)(hmay:ov p.1.toNat p.2=true)(hmany:0≤many∧many<most∧most≤1000000):
  Fn Tryz.prog 117 #[ptV a,pfV p,.int .i64 n] I m (fun v h'=>v= .int .i64 0∧TrM (Qb T p n) most (many+1) a h'):=by
 have hm0:=hm
 obtain⟨A,c,mo,rfl,ho⟩:=hm
 obtain⟨h32,hbl⟩:=Ia hmay
 refine Df _ _ _ _ ?_
 refine aP fun y _ _=>?_
 refine lz mE rE kE ?_;dsimp only[ag]
 refine aA (v:= .pointer none) (fun _=>{A:=none}) lh (fun hl=>?_) rfl ?_
 ·have h0:D9 T A p=none:=by unfold D9;rw[if_neg (fun h=>by rw[hv]at h;cases h.2)]
  rw[←h0]
  exact xd (TrM.in' ho hl fun x hx=>mq1 hx) ht hp
 dsimp only
 refine lz mE rE kE ?_;dsimp only[ag]
 refine aA (v:= .bool (ov p.1.toNat p.2)) (fun _=>{b:=ov p.1.toNat p.2}) iE (fun hl=>uf hp) rfl ?_
 dsimp only
 rw[hmay]
 refine b7 rfl ?_
 refine zZ kE ?_;dsimp only[ag]
 refine b7 rfl ?_
 refine ldI mE rE kE ?_;dsimp only[ag];refine ldI mE rE kE ?_;dsimp only[ag]
 refine b7 (by simp;omega) ?_
 refine lz mE rE kE ?_;dsimp only[ag]
 refine ak _ _ ql (List.perm_append_comm (l₁:=[_])) (fun hl=>KD hm0 ht hp.1 h32) ?_
 rintro v m1 ⟨T',hT',rfl,A2,c2,mo2,rfl,ho2⟩
 obtain⟨ht2,hv2,hmem⟩:=w7 hbl (n:=p.2.toNat) (i:=0) ht (by rw[jL];omega) (tW ht)
 rw[←hT']at ht2 hv2 hmem
 have hbd:=ht2.few
 obtain⟨j,x,hp1,hx,hxl⟩:=rX hmem
 have hix:ix T' (aH p)=j:=by unfold ix;rw[hp1];rfl
 have hjl:j<T'.length:=(List.getElem?_eq_some_iff.1 hx).1
 refine⟨ag [{i:=(ix T' (aH p):Nat)},{b:=true}],rfl,?_⟩
 dsimp only[ag]
 rw[hix,List.cons_append]
 refine ldL mE rE kE ?_;dsimp only[ag];refine ldL mE rE kE ?_;dsimp only[ag]
 refine aI A2 rfl (sz:=4) kE (by omega) (by omega) rfl ?_
 dsimp only
 rw[Int.toNat_natCast,add_add]
 refine iH (j*4+2) (cl_.aff _) qE ho2 rfl kE (by simp[Value.cells];omega) (by simp[Value.cells]) ?_
 intro m3 ho3
 rw[show(Value.int .i64 n).cells.toList=[.int .i64 n]from rfl,Jl ht2.nd hx]at ho3
 have ht3:=FD ht2 x.l n x.h
 have hx3:(qZ T' x.l n x.h)[j]? =some ⟨x.l,n,x.h⟩:=by
  unfold qZ
  rw[List.getElem?_map,hx]
  simp
 refine aI A2 rfl (sz:=4) kE (by omega) (by omega) rfl ?_
 dsimp only
 rw[Int.toNat_natCast,add_add]
 refine iH (j*4+3) (cl_.aff _) qE ho3 rfl kE (by simp[Value.cells];omega) (by simp[Value.cells]) ?_
 intro m4 ho4
 rw[show(Value.bool true).cells.toList=[.bool true]from rfl]at ho4
 have e3:=JZ ht3.nd hx3 true
 rw[e3]at ho4
 refine ldI mE rE kE ?_;dsimp only[ag];refine stU uE kE rE vE ?_;dsimp only[ag]
 rw[cr (x:=many+1) (by omega)]
 have e4:qZ (qZ T' x.l n x.h) x.l n true=Qb T p n:=by rw[Pm,hxl,hT'];rfl
 have hl4:(Qb T p n).length=T'.length:=by rw[←e4];simp[qZ]
 refine dl (h1:=[(a,.cells #[.int .i64 most,.int .i64 (many+1),.slice (some A2) T'.length c2] 192 (0,0))]++m4) pE (List.Perm.refl _) ⟨rfl,A2,c2,m4,by rw[hl4];rfl,?_⟩
 rw[hl4,←e4]
 exact ho4
def DO(T:List Nd):Nat→List Bool→List (Int×Int)
 |0,_=>[]
 |f+1,lab=>(if(mh T lab).isSome=true then[eh lab]else[])++((if lab++[false]∈gR T then DO T f (lab++[false])else[])++(if lab++[true]∈gR T then DO T f (lab++[true])else[]))
theorem RO{lab:List Bool}{b:Bool}(h:lab.length≤31):oh .or .u32 (eh lab).1 (IntKind.u32.wrap ((b.toNat:Nat)*2^(31 - lab.length)))=(eh (lab++[b])).1:=by
 have hn:=CZ lab
 have hk:2^(32 - lab.length)=2*2^(31 - lab.length):=by rw[show 32 - lab.length=(31 - lab.length)+1 by omega,Nat.pow_succ];omega
 have hpow:2^lab.length*2^(31 - lab.length)=2147483648:=by rw[←Nat.pow_add,show lab.length+(31 - lab.length)=31 by omega]
 have hpos:0<2^(31 - lab.length):=Nat.pow_pos (by decide)
 have hle:2^(31 - lab.length)≤2147483648:=by rw[←hpow];exact Nat.le_mul_of_pos_left _ (Nat.pow_pos (by decide))
 have hmul:yY lab*2^(31 - lab.length)+2^(31 - lab.length)≤2147483648:=by rw[←hpow,←Nat.succ_mul];exact Nat.mul_le_mul_right _ hn
 have hb:b.toNat≤1:=by cases b<;>decide
 have hbm:b.toNat*2^(31 - lab.length)≤2^(31 - lab.length):=by
  have:=Nat.mul_le_mul_right (2^(31 - lab.length)) hb
  rwa[Nat.one_mul]at this
 have e1:(((b.toNat:Nat):Int)*2^(31 - lab.length))=((b.toNat*2^(31 - lab.length):Nat):Int):=by rw[Int.natCast_mul,Int.natCast_pow];rfl
 rw[e1,wA (by omega)]
 show oh .or .u32 ((yY lab*2^(32 - lab.length):Nat):Int) ((b.toNat*2^(31 - lab.length):Nat):Int)=((yY (lab++[b])*2^(32 - (lab++[b]).length):Nat):Int)
 show IntKind.u32.wrap ((BitVec.ofInt 32 ((yY lab*2^(32 - lab.length):Nat):Int)|||BitVec.ofInt 32 ((b.toNat*2^(31 - lab.length):Nat):Int)).toNat:Int)=_
 rw[BitVec.ofInt_natCast,BitVec.ofInt_natCast,BitVec.toNat_or,BitVec.toNat_ofNat,BitVec.toNat_ofNat,hk]
 have e2:yY lab*(2*2^(31 - lab.length))=2*(yY lab*2^(31 - lab.length)):=by rw[Nat.mul_left_comm]
 rw[Nat.mod_eq_of_lt (a:=b.toNat*2^(31 - lab.length)) (by omega),Nat.mod_eq_of_lt (by omega)]
 have e3:yY lab*(2*2^(31 - lab.length))|||b.toNat*2^(31 - lab.length)=yY lab*(2*2^(31 - lab.length))+b.toNat*2^(31 - lab.length):=by
  rw[←hk,Nat.mul_comm (yY lab)]
  exact(Nat.two_pow_add_eq_or_of_lt (i:=32 - lab.length) (by omega) (yY lab)).symm
 rw[e3,uj,List.length_append,List.length_singleton,show 32 - (lab.length+1)=31 - lab.length by omega]
 have e4:(2*yY lab+b.toNat)*2^(31 - lab.length)=2*(yY lab*2^(31 - lab.length))+b.toNat*2^(31 - lab.length):=by rw[Nat.add_mul,Nat.mul_assoc]
 rw[e2,←e4]
 exact wA (by rw[e4];omega)
theorem Ik(lab:List Bool):(eh lab).2=(lab.length:Int):=rfl
theorem So{P:Program}{f:Ctl}{I:Ctx}{h:Mem}{Q:Value→Mem→Prop}{k:(Nat→jT)→Tr}{t:TypeId}{v:Value}{x y:Int}(hs:bq P (Instr.index t v (.int .i64 x))=some (.int .i64 y))
  (hk:holds P f I Q (k fun _=>{i:=y}) h):holds P f I Q (.rd (Instr.index t v (.int .i64 x)) (.one (.sc (.int .i64))) k) h:=FT _ (d8 _ hs rfl) hk
abbrev zm(ps:List (Int×Int))(v:Value)(m:Mem):Prop:= ∃A c,v= .slice A ps.length c∧Own 45 2 A ps.length c (ps.flatMap pfC) m
theorem Qu{lab:List Bool}{b:Bool}(h:lab.length≤31):oh .or .u32 (eh lab).1 (IntKind.u32.wrap (IntKind.u32.wrap ((b.toNat:Nat):Int)*2^(min (IntKind.i64.wrap (31 - (eh lab).2)).toNat IntKind.u32.bits)))=(eh (lab++[b])).1:=by
 have hb1:b.toNat≤1:=by cases b<;>decide
 have e1:IntKind.i64.wrap (31 - (eh lab).2)=((31 - lab.length:Nat):Int):=by
  rw[Ik,cr (x:=31 - ((lab.length:Nat):Int)) (by omega)]
  omega
 have e2:min ((31 - lab.length:Nat):Int).toNat IntKind.u32.bits=31 - lab.length:=by
  rw[Int.toNat_natCast,Nat.min_eq_left]
  show 31 - lab.length≤32
  omega
 rw[e1,e2,wA (n:=b.toNat) (by omega)]
 exact RO h
def MQ(T:List Nd)(f:Nat)(lab:List Bool)(b:Bool):List (Int×Int):=if lab++[b]∈gR T then DO T f (lab++[b])else[]
theorem EB{T:List Nd}{most many:Int}{a y7:Nat}{A0:Addr}{c0:Nat}(ht:va T){f:Nat}{lab:List Bool}{I:Ctx}{b:Bool}{ps:List (Int×Int)}{A1:Option Addr}{c1:Nat}{m1 h g:Mem}{Q0:Value→Mem→Prop}
  (hin:FV I a T most many A0 c0)(hlen:lab.length≤32)
  (ih:lab++[b]∈gR T→ ∀(I:Ctx) (ps:List (Int×Int)) (A:Option Addr) (c:Nat) (m:Mem),FV I a T most many A0 c0→Own 45 2 A ps.length c (ps.flatMap pfC) m→ps.length+(DO T f (lab++[b])).length≤8000000000000→
   Fn Tryz.prog 90 #[ptV a,.slice A ps.length c,.int .i64 (ix T (lab++[b]):Nat),pfV (eh (lab++[b]))] I m (zm (ps++DO T f (lab++[b]))))
  (ho:Own 45 2 A1 ps.length c1 (ps.flatMap pfC) m1)(hp:h.Perm ((y7,.cells #[.int .u32 (eh lab).1,.int .i64 (eh lab).2] 45 (0,0))::(m1++g)))(hb:ps.length+(MQ T f lab b).length≤8000000000000)
  (hk: ∀A2 c2 m2 h2 u,Own 45 2 A2 (ps++MQ T f lab b).length c2 ((ps++MQ T f lab b).flatMap pfC) m2→h2.Perm ((y7,.cells #[.int .u32 (eh lab).1,.int .i64 (eh lab).2] 45 (0,0))::(m2++g))→
   Wp Tryz.prog 90 bv (bz ⟨a,0,none⟩ y7 (ix T (lab++[false]):Nat) (ix T (lab++[true]):Nat) A2 (ps++MQ T f lab b).length c2 ((b.toNat+1:Nat):Int) u) I h2 (cl_ Q0))(u:Nat→Value):
  Wp Tryz.prog 90 bv (bz ⟨a,0,none⟩ y7 (ix T (lab++[false]):Nat) (ix T (lab++[true]):Nat) A1 ps.length c1 ((b.toNat:Nat):Int) u) I h (cl_ Q0):=by
 have hb1:b.toNat≤1:=by cases b<;>decide
 refine my _ _ _ _ _ _ _ _ _ ?_
 refine aX (by simp;omega) ?_
 refine So (y:=((ix T (lab++[b]):Nat):Int)) (by cases b<;>kernel_rfl) ?_
 dsimp only
 unfold MQ at hb hk
 by_cases hc:lab++[b]∈gR T
 ·have hpos:=Hq ht hc (by simp)
  have hl1:=ht.len _ hc
  rw[List.length_append,List.length_singleton]at hl1
  rw[if_pos hc]at hb hk
  refine aX (by simp;omega) ?_
  refine aN (cl_.aff _) (g:=(y7,.cells #[.int .u32 (eh lab).1,.int .i64 (eh lab).2] 45 (0,0))::(m1++g)) hp ?_
  refine ldI mE rE kE ?_;dsimp only[ag];refine ldI mE rE kE ?_;dsimp only[ag]
  refine QV (by rw[Ik,cr (by omega)];omega) ?_
  dsimp only
  refine ldI mE rE kE ?_;dsimp only[ag]
  have e1:=Qu (lab:=lab) (b:=b) (by omega)
  have e2:IntKind.i64.wrap ((eh lab).2+1)=(eh (lab++[b])).2:=by rw[Ik,dT (by omega)];simp[eh]
  rw[e1,e2]
  refine ak m1 ((y7,.cells #[.int .u32 (eh lab).1,.int .i64 (eh lab).2] 45 (0,0))::g) oj List.perm_middle.symm (fun hl=>ih hc _ _ _ _ _ (hin.up (fK hl List.perm_middle.symm)) ho hb) ?_
  rintro v m2 ⟨A2,c2,rfl,ho2⟩
  refine⟨fun _=>{A:=A2,n:=(ps++DO T f (lab++[b])).length,c:=c2},rfl,?_⟩
  refine aj fun _ hl=>?_
  dsimp only
  rw[dT (by omega)]
  exact hk _ _ _ _ _ ho2 cE
 ·rw[if_neg hc]at hb hk
  rw[ua hc]
  refine b7 rfl ?_
  refine aj fun _ hl=>?_
  rw[dT (by omega)]
  simp only[List.append_nil]at hk
  exact hk _ _ _ _ _ ho hp
theorem H4{T:List Nd}{most many:Int}{a:Nat}{A0:Addr}{c0:Nat}(ht:va T): ∀(f:Nat) (lab:List Bool) (I:Ctx) (ps:List (Int×Int)) (A:Option Addr) (c:Nat) (m:Mem),32<lab.length+f→lab∈gR T→FV I a T most many A0 c0→Own 45 2 A ps.length c (ps.flatMap pfC) m→ps.length+(DO T f lab).length≤8000000000000→
  Fn Tryz.prog 90 #[ptV a,.slice A ps.length c,.int .i64 (ix T lab:Nat),pfV (eh lab)] I m (zm (ps++DO T f lab)):=by
 have hbd:=ht.few
 intro f
 induction f with
 |zero=>intro lab I ps A c m hf hl;have:=ht.len _ hl;omega
 |succ f ih=>
  intro lab I ps A c m hf hl hin ho hb
  have hlen:=ht.len _ hl
  obtain⟨fz,hbk⟩:=hin.b
  obtain⟨j,x,hp1,hx,hxl⟩:=rX hl
  have hix:ix T lab=j:=by unfold ix;rw[hp1];rfl
  have hjl:j<T.length:=(List.getElem?_eq_some_iff.1 hx).1
  have hcell:=hin.r j x hx
  have hv:=Fe hp1 hx
  have hndc:ndC T x=[.int .i64 (ix T (lab++[false]):Nat),.int .i64 (ix T (lab++[true]):Nat),.int .i64 x.n,.bool x.h]:=by unfold ndC;rw[hxl]
  rw[hndc]at hcell
  rw[hix]
  refine yL _ _ _ _ _ _ _ ?_
  refine aP fun y7 _ _=>?_
  refine dS kE ⟨rfl,_,_,_,.inr hbk,rfl⟩ ?_
  dsimp only
  refine aI A0 rfl (sz:=4) kE (by omega) (by omega) rfl ?_
  dsimp only
  rw[Int.toNat_natCast]
  refine bL (cs:=[.int .i64 (ix T (lab++[false]):Nat),.int .i64 (ix T (lab++[true]):Nat),.int .i64 x.n,.bool x.h]) (ag [{i:=(ix T (lab++[false]):Nat)},{i:=(ix T (lab++[true]):Nat)},{i:=x.n},{b:=x.h}]) kE kE hcell.nil_up rfl ?_
  dsimp only[ag]
  have hg:DO T (f+1) lab=(if(mh T lab).isSome=true then[eh lab]else[])++(MQ T f lab false++MQ T f lab true):=rfl
  rw[hg]at hb⊢
  have fin: ∀(ps1:List (Int×Int)) (A1:Option Addr) (c1:Nat) (m1 h g:Mem) (u:Nat→Value),Own 45 2 A1 ps1.length c1 (ps1.flatMap pfC) m1→h.Perm ((y7,.cells #[.int .u32 (eh lab).1,.int .i64 (eh lab).2] 45 (0,0))::(m1++g))→ps1.length+(MQ T f lab false++MQ T f lab true).length≤8000000000000→
    Wp Tryz.prog 90 bv (bz ⟨a,0,none⟩ y7 (ix T (lab++[false]):Nat) (ix T (lab++[true]):Nat) A1 ps1.length c1 0 u) I h (cl_ (zm (ps1++(MQ T f lab false++MQ T f lab true)))):=by
   intro ps1 A1 c1 m1 h g u ho1 hp1 hb1
   rw[List.length_append]at hb1
   have hch: ∀b:Bool,lab++[b]∈gR T→ ∀(I:Ctx) (ps:List (Int×Int)) (A:Option Addr) (c:Nat) (m:Mem),FV I a T most many A0 c0→Own 45 2 A ps.length c (ps.flatMap pfC) m→ps.length+(DO T f (lab++[b])).length≤8000000000000→
     Fn Tryz.prog 90 #[ptV a,.slice A ps.length c,.int .i64 (ix T (lab++[b]):Nat),pfV (eh (lab++[b]))] I m (zm (ps++DO T f (lab++[b]))):=
    fun b hb I ps A c m=>ih (lab++[b]) I ps A c m (by rw[List.length_append,List.length_singleton];omega) hb
   refine EB (b:=false) ht hin hlen (hch false) ho1 hp1 (by omega) (fun A2 c2 m2 h2 u ho2 hp2=>?_) u
   refine EB (b:=true) ht hin hlen (hch true) ho2 hp2 (by rw[List.length_append];omega) (fun A3 c3 m3 h3 u ho3 hp3=>?_) u
   refine my _ _ _ _ _ _ _ _ _ ?_
   refine b7 rfl ?_
   refine aY (h1:=m3) (g:=(y7,.cells #[.int .u32 (eh lab).1,.int .i64 (eh lab).2] 45 (0,0))::g) (hp3.trans List.perm_middle.symm) ?_
   rw[←List.append_assoc]
   exact⟨A3,c3,rfl,ho3⟩
  refine bt Ix fun y8 _ _=>?_
  refine stU uE kE rE vE ?_;dsimp only[ag];refine ldB mE rE kE ?_;dsimp only[ag]
  refine ay (fun t=>?_) (fun t=>?_)
  ·have hvs:(mh T lab).isSome=true:=by rw[hv,if_pos t];rfl
   rw[if_pos hvs]at hb⊢
   simp only[List.length_append,List.length_singleton]at hb
   refine lz mE rE kE ?_;dsimp only[ag]
   refine gK (e:=45) ⟨pfC (eh lab)⟩ kE fun g hg hI=>?_
   dsimp only
   refine bP (cl_.aff _) Gd kE (cs2:=pfC (eh lab)) (fun _=>⟨_,rfl,cw mE rfl⟩) (fun h=>by cases h) rfl (by simp) (m:=m) qE ho (by omega) (by omega) ?_
   intro A2 c2 m2 ho2
   refine la3 mE rE kE ?_;dsimp only[ag]
   refine aj fun _ hl=>?_
   rw[←List.append_assoc]
   have e9:(ps++[eh lab]).length=ps.length+1:=by simp
   have hf:=fin (ps++[eh lab]) A2 c2 m2
   rw[e9]at hf
   exact hf _ _ _ (by simpa using ho2) (aM.perm (m:=[(y7,.cells #[.int .u32 (eh lab).1,.int .i64 (eh lab).2] 45 (0,0))]++m2) pE) (by simp only[List.length_append];omega)
  ·have hvs: ¬(mh T lab).isSome=true:=by rw[hv,if_neg (by rw[t];decide)];decide
   rw[if_neg hvs]at hb⊢
   rw[List.nil_append]at hb⊢
   refine la3 mE rE kE ?_;dsimp only[ag]
   refine aj fun _ hl=>?_
   exact fin ps A c m _ _ _ ho (aM.perm (m:=[(y7,.cells #[.int .u32 (eh lab).1,.int .i64 (eh lab).2] 45 (0,0))]++m) pE) hb
theorem FH{T:List Nd}{l:List Bool}(h:(mh T l).isSome=true):l∈gR T:=Classical.byContradiction fun hn=>by rw[Ci hn]at h;cases h
theorem E9{T:List Nd}(ht:va T): ∀{f:Nat} {lab:List Bool} {p:Int×Int},32<lab.length+f→lab∈gR T→(p∈DO T f lab↔ ∃t,(mh T (lab++t)).isSome=true∧p=eh (lab++t))
 |0,lab,p,hf,hl=>by have:=ht.len _ hl;omega
 |f+1,lab,p,hf,hl=>by
  have hch: ∀b:Bool,p∈(if lab++[b]∈gR T then DO T f (lab++[b])else[])↔ ∃t,(mh T (lab++b::t)).isSome=true∧p=eh (lab++b::t):=by
   intro b
   have e: ∀t,lab++b::t=lab++[b]++t:=fun t=>by simp
   by_cases hc:lab++[b]∈gR T
   ·rw[if_pos hc,E9 ht (f:=f) (lab:=lab++[b]) (by rw[List.length_append,List.length_singleton];omega) hc]
    simp only[←e]
   ·rw[if_neg hc]
    refine⟨(fun h=>by cases h),fun⟨t,h,_⟩=>?_⟩
    have hm:=FH h
    rw[e]at hm
    have:=FO ht hm (lab.length+1)
    rw[List.take_append_of_le_length (by simp),List.take_of_length_le (by simp)]at this
    exact absurd this hc
  rw[DO,List.mem_append,List.mem_append,hch,hch]
  constructor
  ·rintro(h|⟨t,h⟩|⟨t,h⟩)
   ·split at h
    ·rename_i hv;rw[List.mem_singleton]at h;exact⟨[],by simpa using hv,by simpa using h⟩
    ·cases h
   ·exact⟨_,h⟩
   ·exact⟨_,h⟩
  ·rintro⟨t,h1,h2⟩
   cases t with
   |nil=>
    rw[List.append_nil]at h1 h2
    exact .inl (by rw[if_pos h1,h2];exact List.mem_singleton.2 rfl)
   |cons b t=>
    cases b
    ·exact .inr (.inl ⟨t,h1,h2⟩)
    ·exact .inr (.inr ⟨t,h1,h2⟩)
theorem HK{l m:List Bool}(h:eh l=eh m):l=m:=by
 have h2:=congrArg (·.2) h
 have h1:=congrArg (·.1) h
 simp only[eh]at h1 h2
 have hl:l.length=m.length:=by omega
 refine JV hl ?_
 rw[hl]at h1
 have:=Int.ofNat.inj h1
 exact Nat.eq_of_mul_eq_mul_right (Nat.pow_pos (by decide)) this
theorem Er{T:List Nd}(ht:va T): ∀{f:Nat} {lab:List Bool},32<lab.length+f→lab∈gR T→(DO T f lab).Nodup
 |0,lab,hf,hl=>by have:=ht.len _ hl;omega
 |f+1,lab,hf,hl=>by
  have hn: ∀b:Bool,(if lab++[b]∈gR T then DO T f (lab++[b])else[]).Nodup:=by
   intro b
   split
   ·exact Er ht (by rw[List.length_append,List.length_singleton];omega) (by assumption)
   ·exact List.nodup_nil
  have hm: ∀(b:Bool) p,p∈(if lab++[b]∈gR T then DO T f (lab++[b])else[])→ ∃t,p=eh (lab++b::t):=by
   intro b p hp
   split at hp
   ·rename_i hc
    obtain⟨t,_,e⟩:=(E9 ht (f:=f) (by rw[List.length_append,List.length_singleton];omega) hc).1 hp
    exact⟨t,by simpa using e⟩
   ·cases hp
  rw[DO,List.nodup_append,List.nodup_append]
  refine⟨by split<;>simp,⟨hn false,hn true,?_⟩,?_⟩
  ·intro p hp q hq e
   subst e
   obtain⟨t,e1⟩:=hm _ _ hp
   obtain⟨s,e2⟩:=hm _ _ hq
   have:=HK (e1.symm.trans e2)
   simp at this
  ·intro p hp q hq e
   subst e
   have e0:p=eh lab:=by split at hp;exact List.mem_singleton.1 hp;cases hp
   rcases List.mem_append.1 hq with hq|hq
   ·obtain⟨t,e1⟩:=hm _ _ hq
    have:=HK (e0.symm.trans e1)
    have:=congrArg List.length this
    simp at this
   ·obtain⟨t,e1⟩:=hm _ _ hq
    have:=HK (e0.symm.trans e1)
    have:=congrArg List.length this
    simp at this
def LH(T:List Nd):List (Int×Int):=DO T 33 []
theorem IU{T:List Nd}(ht:va T){p:Int×Int}:p∈LH T↔ ∃l,(mh T l).isSome=true∧p=eh l:=E9 ht (by decide) (tW ht)
theorem Ex{T:List Nd}(ht:va T):(LH T).Nodup:=Er ht (by decide) (tW ht)
theorem IK{T:List Nd}(ht:va T):(LH T).length≤8589934592:=by
 have h:=qJ (m:=(gR T).map eh) (Ex ht) fun p hp=>by
  obtain⟨l,h1,h2⟩:=(IU ht).1 hp
  rw[h2]
  exact List.mem_map_of_mem (FH h1)
 have:=ht.few
 simp at h
 omega
theorem Kq{I:Ctx}{a:Nat}{T:List Nd}{most many:Int}{A:Addr}{c:Nat}(hin:FV I a T most many A c)(ht:va T):Fn Tryz.prog 70 #[ptV a] I [] (zm (LH T)):=by
 have hl:=IK ht
 have hl2:([]:List (Int×Int)).length+(DO T 33 []).length≤8000000000000:=by
  rw[List.length_nil]
  unfold LH at hl
  omega
 unfold LH
 generalize hg:DO T 33 []=G at hl2
 refine Cw _ ?_
 refine ak [] [] oj (List.Perm.refl _) (fun hl=>?_) (Qc:=zm ([]++G)) ?_
 ·rw[←hg]at hl2
  have h:=H4 (f:=33) (lab:=[]) (ps:=[]) (A:=none) (c:=0) (m:=[]) ht (I:=plus I []) (by decide) (tW ht) (hin.up (fK (m:=[]) hl (List.Perm.refl _))) (Own.nil _ _) hl2
  rw[show eh []=(0,0) by kernel_rfl,hg,LM ht]at h
  exact h
 rintro v h1 ⟨A2,c2,rfl,ho⟩
 refine⟨fun _=>{A:=A2,n:=([]++G).length,c:=c2},rfl,?_⟩
 exact aY (h1:=h1) (g:=[]) (List.Perm.refl _) ⟨A2,c2,rfl,ho⟩
abbrev Rk:=(Int×Int)×Int
structure Cb (t:List (Rk×Rt)) (T:List Nd):Prop where
 nd:(am t).Nodup
 key: ∀q∈t,q.1=(q.2.p,0)∧qb q.2.p∧ov q.2.p.1.toNat q.2.p.2=true
 tr:va T
 v1: ∀q∈t,mh T (aH q.2.p)=some 1
 v2: ∀l n,mh T l=some n→ ∃q∈t,aH q.2.p=l
 few:t.length≤64
def Bx(x:Rt):Bool:=ov x.p.1.toNat x.p.2&&(decide (x.dom≥0)&&(decide (x.dom<16)&&(decide (x.dist≥0)&&(decide (x.dist≤255)&&(decide (x.met≥0)&&(decide (x.met≤4294967295)&&(decide (x.next≥0)&&decide (x.next≤32))))))))
def JF(t:List (Rk×Rt))(x:Rt):List (Rk×Rt):=if Bx x=true∧(ah t (x.p,0)≠none∨t.length<64)then aL t (x.p,0) x else t
def Lv(t:List (Rk×Rt))(a:Nat)(m:Mem):Prop:= ∃T ref M b mo ml,Cb t T∧m=(a,.cells #[.int .i64 64,.int .i64 ref,.map (some M),ptV b] 145 (0,0))::(M,mo)::ml∧ky PF Rt.V t mo∧TrM T 64 t.length b ml
theorem Mh{I:Ctx}{x:Rt}(hp:qb x.p):Fn Tryz.prog 119 #[x.V] I [] (fun v h'=>v= .bool (Bx x)∧h'=[]):=by
 refine Mv _ _ _ _ _ _ _ ?_
 refine aP fun y _ _=>?_
 refine lz mE rE kE ?_;dsimp only[ag]
 refine aA (v:= .bool (ov x.p.1.toNat x.p.2)) (fun _=>{b:=ov x.p.1.toNat x.p.2}) iE (fun hl=>uf hp) rfl ?_
 dsimp only
 refine ay (fun t1=>?_) (fun t1=>?_)
 ·refine ldI mE rE kE ?_;dsimp only[ag]
  refine ay (fun t2=>?_) (fun t2=>?_)
  ·refine ldI mE rE kE ?_;dsimp only[ag]
   refine ay (fun t3=>?_) (fun t3=>?_)
   ·refine ldI mE rE kE ?_;dsimp only[ag]
    refine ay (fun t4=>?_) (fun t4=>?_)
    ·refine ldI mE rE kE ?_;dsimp only[ag]
     refine ay (fun t5=>?_) (fun t5=>?_)
     ·refine ldI mE rE kE ?_;dsimp only[ag]
      refine ay (fun t6=>?_) (fun t6=>?_)
      ·refine ldI mE rE kE ?_;dsimp only[ag]
       refine ay (fun t7=>?_) (fun t7=>?_)
       ·refine ldI mE rE kE ?_;dsimp only[ag]
        refine ay (fun t8=>?_) (fun t8=>?_)
        ·refine ldI mE rE kE ?_;dsimp only[ag]
         exact d9 [_] rfl ⟨by simp only[Bx,t1,t2,t3,t4,t5,t6,t7,t8,Bool.true_and],rfl⟩
        ·exact d9 [_] rfl ⟨by simp only[Bx,t1,t2,t3,t4,t5,t6,t7,t8,Bool.true_and,Bool.false_and],rfl⟩
       ·exact d9 [_] rfl ⟨by simp only[Bx,t1,t2,t3,t4,t5,t6,t7,Bool.true_and,Bool.false_and],rfl⟩
      ·exact d9 [_] rfl ⟨by simp only[Bx,t1,t2,t3,t4,t5,t6,Bool.true_and,Bool.false_and],rfl⟩
     ·exact d9 [_] rfl ⟨by simp only[Bx,t1,t2,t3,t4,t5,Bool.true_and,Bool.false_and],rfl⟩
    ·exact d9 [_] rfl ⟨by simp only[Bx,t1,t2,t3,t4,Bool.true_and,Bool.false_and],rfl⟩
   ·exact d9 [_] rfl ⟨by simp only[Bx,t1,t2,t3,Bool.true_and,Bool.false_and],rfl⟩
  ·exact d9 [_] rfl ⟨by simp only[Bx,t1,t2,Bool.true_and,Bool.false_and],rfl⟩
 ·exact d9 [_] rfl ⟨by simp only[Bx,t1,Bool.false_and],rfl⟩
theorem HO{I:Ctx}:Fn Tryz.prog 53 #[.int .i64 64] I [] (fun v h'=> ∃a,v=ptV a∧Lv [] a h'):=by
 refine MD _ ?_
 refine ip fun M _ _=>?_
 dsimp only
 refine ak [] _ Ib (List.Perm.refl _) (fun hl=>KY) ?_
 rintro v ml ⟨b,rfl,hml⟩
 refine⟨fun _=>{A:=some ⟨b,0,none⟩},rfl,?_⟩
 dsimp only
 refine aP fun a _ _=>?_
 refine dl (h1:=[(a,.cells #[.int .i64 64,.int .i64 0,.map (some M),ptV b] 145 (0,0))]++([(M,.map #[] 0)]++ml)) pE (List.Perm.refl _) ⟨a,rfl,[⟨[],0,false⟩],0,M,b,_,ml,?_,rfl,ky.nil _ _,hml⟩
 refine⟨List.nodup_nil,(fun q h=>by cases h),Pu,(fun q h=>by cases h),(fun l n h=>?_),by decide⟩
 rw[mh]at h
 split at h<;>cases h
theorem yl{x:Rt}(h:Bx x=true):ov x.p.1.toNat x.p.2=true:=by
 unfold Bx at h
 rw[Bool.and_eq_true]at h
 exact h.1
theorem zC{κ α:Type}[DecidableEq κ]{l:List (κ×α)}{k:κ}{v:α}(hn:(am l).Nodup){q:κ×α}(h:q∈aL l k v):q=(k,v)∨q∈l∧q.1≠k:=by
 have h1:=rU (jg hn) h
 rw[aJ]at h1
 by_cases e:q.1=k
 ·rw[if_pos e]at h1
  injection h1 with h1
  exact .inl (Prod.ext e h1.symm)
 ·rw[if_neg e]at h1
  exact .inr ⟨nb h1,e⟩
theorem Ml{κ α:Type}[DecidableEq κ]{l:List (κ×α)}{k:κ}{v:α}{q:κ×α}(hn:(am l).Nodup)(h:q∈l)(hk:q.1≠k):q∈aL l k v:=by
 refine nb ?_
 rw[aJ,if_neg hk]
 exact rU hn h
theorem P3{t:List (Rk×Rt)}{T:List Nd}(h:Cb t T){x:Rt}(hp:qb x.p)(hm:Bx x=true)(hn:ah t (x.p,0)=none)(hl:t.length<64):mh T (aH x.p)=none∧Cb (aL t (x.p,0) x) (Qb T x.p 1):=by
 have hmb:=yl hm
 obtain⟨ht,hv⟩:=KA h.tr hmb 1
 have hx:=vc hp hmb
 have hinj: ∀q∈t,aH q.2.p=aH x.p→q.2.p=x.p:=fun q hq e=>by
  obtain⟨_,h2,h3⟩:=h.key q hq
  rw[←vc h2 h3,e,hx]
 have hno: ∀q∈t,q.2.p≠x.p:=fun q hq e=>by
  have:=rU h.nd hq
  rw[(h.key q hq).1,e,hn]at this
  cases this
 refine⟨?_,jg h.nd,?_,ht,?_,?_,?_⟩
 ·cases hg:mh T (aH x.p)with
  |none=>rfl
  |some n=>obtain⟨q,hq,e⟩:=h.v2 _ _ hg;exact absurd (hinj q hq e) (hno q hq)
 ·intro q hq
  rcases zC h.nd hq with rfl|⟨hq,_⟩
  ·exact⟨rfl,hp,hmb⟩
  ·exact h.key q hq
 ·intro q hq
  rw[hv]
  rcases zC h.nd hq with rfl|⟨hq,_⟩
  ·rw[if_pos rfl]
  ·rw[if_neg fun e=>hno q hq (hinj q hq e)]
   exact h.v1 q hq
 ·intro l n hl
  rw[hv]at hl
  by_cases e:l=aH x.p
  ·exact⟨((x.p,0),x),nb (by rw[aJ,if_pos rfl]),e.symm⟩
  ·rw[if_neg e]at hl
   obtain⟨q,hq,e2⟩:=h.v2 _ _ hl
   refine⟨q,Ml h.nd hq fun e3=>hno q hq ?_,e2⟩
   rw[(h.key q hq).1]at e3
   exact(Prod.mk.inj e3).1
 ·rw[pM,if_neg (bW.1 hn)]
  omega
theorem QR{t:List (Rk×Rt)}{T:List Nd}(h:Cb t T){x:Rt}(hp:qb x.p)(hm:Bx x=true)(hn:ah t (x.p,0)≠none):Cb (aL t (x.p,0) x) T:=by
 have hmb:=yl hm
 obtain⟨y,hy⟩:=Option.ne_none_iff_exists'.1 hn
 have hyp:y.p=x.p:=(Prod.mk.inj (h.key _ (nb hy)).1).1.symm
 refine⟨jg h.nd,?_,h.tr,?_,?_,?_⟩
 ·intro q hq
  rcases zC h.nd hq with rfl|⟨hq,_⟩
  ·exact⟨rfl,hp,hmb⟩
  ·exact h.key q hq
 ·intro q hq
  rcases zC h.nd hq with rfl|⟨hq,_⟩
  ·show mh T (aH x.p)=_;rw[←hyp];exact h.v1 _ (nb hy)
  ·exact h.v1 q hq
 ·intro l n hl
  obtain⟨q,hq,e2⟩:=h.v2 _ _ hl
  by_cases e:q.1=(x.p,0)
  ·refine⟨((x.p,0),x),nb (by rw[aJ,if_pos rfl]),?_⟩
   rw[(h.key q hq).1]at e
   rw[←e2,(Prod.mk.inj e).1]
  ·exact⟨q,Ml h.nd hq e,e2⟩
 ·rw[pM,if_pos (aO.1 (by rw[hy];rfl))]
  exact h.few
theorem FA{κ α:Type}[DecidableEq κ]{l:List (κ×α)}{k:κ}(hn:(am l).Nodup){q:κ×α}:q∈dq l k↔q∈l∧q.1≠k:=by
 constructor
 ·intro h
  refine⟨pB.subset h,fun e=>?_⟩
  have h1:=rU (lM hn) h
  rw[db hn,if_pos e]at h1
  cases h1
 ·rintro⟨h,e⟩
  refine nb ?_
  rw[db hn,if_neg e]
  exact rU hn h
theorem I4{κ α:Type}[DecidableEq κ]: ∀{l:List (κ×α)} {k:κ},(ah l k).isSome=true→(dq l k).length+1=l.length
 |[],_,h=>by cases h
 |p::l,k,h=>by
  rw[ah]at h
  rw[dq]
  split
  ·rfl
  ·rename_i e
   rw[if_neg e]at h
   have:=I4 h
   simp only[List.length_cons]
   omega
theorem Oi{t:List (Rk×Rt)}{T:List Nd}(h:Cb t T){p:Int×Int}{y:Rt}(hn:ah t (p,0)=some y):mh T (aH p)=some 1∧qb p∧ov p.1.toNat p.2=true∧Cb (dq t (p,0)) (qZ T (aH p) 0 false):=by
 have hy:=nb hn
 obtain⟨e,hp,hmb⟩:=h.key _ hy
 have e:p=y.p:=(Prod.mk.inj e).1
 subst e
 have hv:=h.v1 _ hy
 have hmem:aH y.p∈gR T:=FH (by rw[hv];rfl)
 refine⟨hv,hp,hmb,lM h.nd,?_,FD h.tr _ _ _,?_,?_,?_⟩
 ·intro q hq
  exact h.key q ((FA h.nd).1 hq).1
 ·intro q hq
  obtain⟨hq,hne⟩:=(FA h.nd).1 hq
  rw[ER hmem,if_neg]
  ·exact h.v1 q hq
  ·intro e
   obtain⟨h1,h2,h3⟩:=h.key q hq
   refine hne ?_
   rw[h1]
   have:q.2.p=y.p:=by rw[←vc h2 h3,e,vc hp hmb]
   rw[this]
 ·intro l n hl
  rw[ER hmem]at hl
  by_cases e:l=aH y.p
  ·rw[if_pos e]at hl;cases hl
  ·rw[if_neg e]at hl
   obtain⟨q,hq,e2⟩:=h.v2 _ _ hl
   refine⟨q,(FA h.nd).2 ⟨hq,fun e3=>e ?_⟩,e2⟩
   rw[(h.key q hq).1]at e3
   rw[←e2,(Prod.mk.inj e3).1]
 ·exact Nat.le_trans LO h.few
abbrev rtL(x:Rt)(b:Bool):List jT:=[{i:=x.p.1},{i:=x.p.2},{i:=x.dom},{i:=x.dist},{i:=x.met},{i:=x.next},{i:=x.tag},{b:=b}]
abbrev rt0:Rt:=⟨(0,0),0,0,0,0,0⟩
theorem HE{I:Ctx}{t:List (Rk×Rt)}{a:Nat}{m:Mem}{x:Rt}(hm:Lv t a m)(hp:qb x.p)(hd:x.dom=0):
  Fn Tryz.prog 101 #[ptV a,x.V] I m (fun v h'=>(∃e,v= .int .i64 e)∧Lv (JF t x) a h'):=by
 obtain⟨T,ref,M,b,mo,ml,hok,rfl,hmv,htr⟩:=hm
 refine ET _ _ _ _ _ _ _ _ ?_
 refine aP fun _ _ _=>?_;dsimp only[ag];refine lz mE rE kE ?_;dsimp only[ag];refine ldI mE rE kE ?_;dsimp only[ag];refine aP fun _ _ _=>?_;dsimp only[ag];refine stU uE kE rE vE ?_;refine ldM mE rE kE ?_;dsimp only[ag];refine RW mE rE kE ?_;dsimp only[ag]
 rw[hd]
 refine dZ QC rfl gC (.inl mE) hmv (x:=(x.p,0)) (ok:=true) (ag (rtL ((ah t (x.p,0)).getD rt0) (ah t (x.p,0)).isSome)) (by cases ah t (x.p,0)<;>rfl) ?_
 dsimp only[ag]
 refine aP fun _ _ _=>?_;dsimp only[ag];refine stU uE kE rE vE ?_;refine RS mE rE kE ?_;dsimp only[ag]
 rw[←hd]
 refine aA (v:= .bool (Bx x)) (fun _=>{b:=Bx x}) Ln (fun hl=>Mh hp) rfl ?_
 rw[hd]
 dsimp only
 refine ay (fun t1=>?_) (fun t1=>?_)
 ·have t1: ¬Bx x=true:=by simpa using t1
  refine dl (h1:=[(a,.cells #[.int .i64 64,.int .i64 ref,.map (some M),ptV b] 145 (0,0))]++([(M,mo)]++ml)) pE (List.Perm.refl _) ⟨⟨1,rfl⟩,?_⟩
  unfold JF
  rw[if_neg fun h=>t1 h.1]
  exact⟨T,ref,M,b,mo,ml,hok,rfl,hmv,htr⟩
 have t1:Bx x=true:=by simpa using t1
 cases hg:ah t (x.p,0)with
 |some y=>
  refine b7 rfl ?_
  refine b7 rfl ?_
  refine ldM mE rE kE ?_;dsimp only[ag];refine RW mE rE kE ?_;dsimp only[ag];refine RS mE rE kE ?_;dsimp only[ag]
  refine uw (cl_.aff _) QC rfl (aM.perm1 pE) hmv (x:=(x.p,0)) x (by rw[←hd]) fun o' ho'=>?_
  refine dl (h1:=[(a,.cells #[.int .i64 64,.int .i64 ref,.map (some M),ptV b] 145 (0,0))]++([(M,o')]++ml)) pE (List.Perm.refl _) ⟨⟨0,rfl⟩,?_⟩
  have hne:ah t (x.p,0)≠none:=by rw[hg];simp
  unfold JF
  rw[if_pos ⟨t1,.inl hne⟩]
  exact⟨T,ref,M,b,o',ml,QR hok hp t1 hne,rfl,ho',by rw[pM,if_pos (aO.1 (by rw[hg];rfl))];exact htr⟩
 |none=>
  refine aX rfl ?_
  refine ldM mE rE kE ?_;dsimp only[ag]
  refine GT rfl (.inl mE) hmv ?_
  dsimp only
  refine ldI mE rE kE ?_;dsimp only[ag]
  refine ay (fun t2=>?_) (fun t2=>?_)
  ·have t2: ¬t.length<64:=by simp at t2;omega
   refine ldI mE rE kE ?_;dsimp only[ag];refine stU uE kE rE vE ?_;dsimp only[ag]
   refine dl (h1:=[(a,.cells #[.int .i64 64,.int .i64 (IntKind.i64.wrap (ref+1)),.map (some M),ptV b] 145 (0,0))]++([(M,mo)]++ml)) pE (List.Perm.refl _) ⟨⟨4,rfl⟩,?_⟩
   unfold JF
   rw[if_neg fun h=>h.2.elim (fun h=>h hg) t2]
   exact⟨T,_,M,b,mo,ml,hok,rfl,hmv,htr⟩
  ·have t2:t.length<64:=by simp at t2;omega
   obtain⟨hv0,hok2⟩:=P3 hok hp t1 hg t2
   refine aX rfl ?_
   refine ldP mE rE kE ?_;dsimp only[ag];refine lz mE rE kE ?_;dsimp only[ag]
   obtain⟨At,ct,mo2,rfl,ho2⟩:=htr
   refine aA (v:= .tuple #[.int .i64 ((mh T (aH x.p)).getD 0),.bool (mh T (aH x.p)).isSome]) (ag [{i:=0},{b:=false}]) sj (fun hl=>EE (TrM.in' (most:=64) (many:=t.length) ho2 hl (fun z hz=>mq1 (mq1 (mq1 (mq1 (mq1 hz)))))) hok.tr hp (yl t1)) (by rw[hv0];rfl) ?_
   dsimp only[ag]
   refine ldP mE rE kE ?_;dsimp only[ag];refine lz mE rE kE ?_;dsimp only[ag]
   refine ak ([(b,.cells #[.int .i64 64,.int .i64 t.length,.slice (some At) T.length ct] 192 (0,0))]++mo2) _ AM qE (fun hl=>KO (n:=1) ⟨At,ct,mo2,rfl,ho2⟩ hok.tr hp hv0 (yl t1) (by omega)) ?_
   rintro v ml2 ⟨rfl,hml2⟩
   refine⟨fun _=>{i:=0},rfl,?_⟩
   refine ldM mE rE kE ?_;dsimp only[ag];refine RW mE rE kE ?_;dsimp only[ag];refine RS mE rE kE ?_;dsimp only[ag]
   refine uw (cl_.aff _) QC rfl (aM.perm1 pE) hmv (x:=(x.p,0)) x (by rw[←hd]) fun o' ho'=>?_
   refine dl (h1:=[(a,.cells #[.int .i64 64,.int .i64 ref,.map (some M),ptV b] 145 (0,0))]++([(M,o')]++ml2)) pE (List.Perm.refl _) ⟨⟨0,rfl⟩,?_⟩
   unfold JF
   rw[if_pos ⟨t1,.inr t2⟩]
   exact⟨_,ref,M,b,o',ml2,hok2,rfl,ho',by rw[pM,if_neg (bW.1 hg)];exact hml2⟩
theorem Gk{I:Ctx}{t:List (Rk×Rt)}{a:Nat}{m:Mem}{p:Int×Int}(hm:Lv t a m):
  Fn Tryz.prog 100 #[ptV a,pfV p,.int .i64 0] I m (fun v h'=>(∃e,v= .int .i64 e)∧Lv (dq t (p,0)) a h'):=by
 obtain⟨T,ref,M,b,mo,ml,hok,rfl,hmv,htr⟩:=hm
 refine DM _ _ _ _ ?_
 refine aP fun _ _ _=>?_;dsimp only[ag];refine lz mE rE kE ?_;dsimp only[ag];refine aP fun _ _ _=>?_;dsimp only[ag];refine stU uE kE rE vE ?_;refine ldM mE rE kE ?_;dsimp only[ag];refine RW mE rE kE ?_;dsimp only[ag]
 refine dZ QC rfl gC (.inl mE) hmv (x:=(p,0)) (ok:=true) (ag (rtL ((ah t (p,0)).getD rt0) (ah t (p,0)).isSome)) (by cases ah t (p,0)<;>rfl) ?_
 dsimp only[ag]
 refine aP fun _ _ _=>?_;dsimp only[ag];refine stU uE kE rE vE ?_
 cases hg:ah t (p,0)with
 |none=>
  refine aX rfl ?_
  refine dl (h1:=[(a,.cells #[.int .i64 64,.int .i64 ref,.map (some M),ptV b] 145 (0,0))]++([(M,mo)]++ml)) pE (List.Perm.refl _) ⟨⟨5,rfl⟩,?_⟩
  rw[L4 (bW.1 hg)]
  exact⟨T,ref,M,b,mo,ml,hok,rfl,hmv,htr⟩
 |some y=>
  obtain⟨hv,hp,hmb,hok2⟩:=Oi hok hg
  refine b7 rfl ?_
  refine ldM mE rE kE ?_;dsimp only[ag];refine RW mE rE kE ?_;dsimp only[ag]
  refine C3 (cl_.aff _) QC rfl (aM.perm1 pE) hmv (x:=(p,0)) fun o' ho'=>?_
  refine ldP mE rE kE ?_;dsimp only[ag];refine lz mE rE kE ?_;dsimp only[ag]
  obtain⟨At,ct,mo2,rfl,ho2⟩:=htr
  refine aA (v:= .tuple #[.int .i64 ((mh T (aH p)).getD 0),.bool (mh T (aH p)).isSome]) (ag [{i:=1},{b:=true}]) sj (fun hl=>EE (TrM.in' (a:=b) (most:=64) (many:=t.length) ho2 hl ?_) hok.tr hp hmb) (by rw[hv];rfl) ?_
  ·exact fun z hz=>mq1 (mq1 (mq1 (mq1 (mq1 hz))))
  dsimp only[ag]
  refine b7 rfl ?_
  refine ldP mE rE kE ?_;dsimp only[ag];refine lz mE rE kE ?_;dsimp only[ag]
  refine ak ([(b,.cells #[.int .i64 64,.int .i64 t.length,.slice (some At) T.length ct] 192 (0,0))]++mo2) _ zK qE (fun hl=>If ⟨At,ct,mo2,rfl,ho2⟩ hok.tr hp hv hmb (by have:=hok.few;omega)) ?_
  rintro v ml2 ⟨rfl,hml2⟩
  refine⟨fun _=>{i:=0},rfl,?_⟩
  refine dl (h1:=[(a,.cells #[.int .i64 64,.int .i64 ref,.map (some M),ptV b] 145 (0,0))]++([(M,o')]++ml2)) pE (List.Perm.refl _) ⟨⟨0,rfl⟩,?_⟩
  have hl1:=I4 (l:=t) (k:=(p,0)) (by rw[hg];rfl)
  exact⟨_,ref,M,b,o',ml2,hok2,rfl,ho',by rw[show(((dq t (p,0)).length:Nat):Int)=(t.length:Int) - 1 by omega];exact hml2⟩
structure C7 (I:Ctx) (a:Nat) (t:List (Rk×Rt)) (T:List Nd) (ref:Int) (M b:Nat) (mo:Obj) (A:Addr) (c:Nat):Prop where
 ok:Cb t T
 bk: ∃fz,I a=some (.cells #[.int .i64 64,.int .i64 ref,.map (some M),ptV b] 145 fz)
 m:I M=some mo
 v:ky PF Rt.V t mo
 t:FV I b T 64 t.length A c
theorem C7.up{I J:Ctx}{a:Nat}{t:List (Rk×Rt)}{T:List Nd}{ref:Int}{M b:Nat}{mo:Obj}{A:Addr}{c:Nat}(h:C7 I a t T ref M b mo A c)(hs: ∀b o,I b=some o→J b=some o):C7 J a t T ref M b mo A c:=by
 obtain⟨h1,⟨fz,h2⟩,h3,h4,h5⟩:=h
 exact⟨h1,⟨fz,hs _ _ h2⟩,hs _ _ h3,h4,h5.up hs⟩
theorem C7.plus{I:Ctx}{h:Mem}{a:Nat}{t:List (Rk×Rt)}{T:List Nd}{ref:Int}{M b:Nat}{mo:Obj}{A:Addr}{c:Nat}(hi:C7 I a t T ref M b mo A c)(hl:dJ I h):C7 (plus I h) a t T ref M b mo A c:=hi.up fun b o hb=>aF hl (.inr hb)
theorem Lv.in{I:Ctx}{a:Nat}{t:List (Rk×Rt)}{m h:Mem}(hm:Lv t a m)(hl:dJ I h)(hs: ∀x∈m,x∈h): ∃T ref M b mo A c,C7 (_root_.Go.Proofs.YtadanegddceleaaGreatS.plus I h) a t T ref M b mo A c:=by
 obtain⟨T,ref,M,b,mo,ml,hok,rfl,hmv,A,c,mo2,rfl,ho⟩:=hm
 exact⟨T,ref,M,b,mo,A,c,hok,⟨(0,0),aF hl (.inl (hs _ mq0))⟩,aF hl (.inl (hs _ (mq1 mq0))),hmv,TrM.in' ho hl fun z hz=>hs _ (mq1 (mq1 hz))⟩
def ofL(t:List (Rk×Rt))(p:Int×Int):List Rt:=(ah t (p,0)).toList
theorem Cb.zero{t:List (Rk×Rt)}{T:List Nd}(h:Cb t T){p:Int×Int}{d:Int}(hd:d≠0):ah t (p,d)=none:=by
 cases hg:ah t (p,d)with
 |none=>rfl
 |some y=>exact absurd (Prod.mk.inj (h.key _ (nb hg)).1).2 hd
theorem Ng{I:Ctx}{a y3:Nat}{t:List (Rk×Rt)}{T:List Nd}{ref:Int}{M b:Nat}{mo:Obj}{A0:Addr}{c0:Nat}{p:Int×Int}{rs:List Rt}{A:Option Addr}{c:Nat}{m:Mem}(hin:C7 I a t T ref M b mo A0 c0)(ho:Own 48 7 A rs.length c (rs.flatMap Rt.C) m):
  ∀(n i:Nat) (h:Mem) (gg:Mem) (u:Nat→Value),1≤i→i+n=16→aM h ([(y3,.cells #[.int .u32 p.1,.int .i64 p.2] 45 (0,0))]++m) gg→Wp Tryz.prog 71 i9 (i6 ⟨a,0,none⟩ y3 A rs.length c i u) I h (cl_ (rN rs)):=by
 obtain⟨fz,hb⟩:=hin.bk
 intro n
 induction n with
 |zero=>
  intro i h gg u h1 hi hp
  refine pR _ _ _ _ _ _ _ ?_
  refine b7 (by simp;omega) ?_
  exact aY (h1:=m) (g:=(y3,.cells #[.int .u32 p.1,.int .i64 p.2] 45 (0,0))::gg) ((List.Perm.trans hp (by simp)).trans List.perm_middle.symm) ⟨A,c,rfl,ho⟩
 |succ n ih=>
  intro i h gg u h1 hi hp
  refine Wp.perm (h:=(y3,.cells #[.int .u32 p.1,.int .i64 p.2] 45 (0,0))::(m++gg)) ?_ (List.Perm.symm hp)
  refine pR _ _ _ _ _ _ _ ?_
  refine aX (by simp<;>omega) ?_
  refine nt kE ⟨rfl,_,_,_,.inr hb,rfl⟩ ?_
  dsimp only
  refine lz mE rE kE ?_;dsimp only[ag]
  refine dZ QC rfl gC (.inr hin.m) hin.v (x:=(p,(i:Int))) (ok:=true) (ag (rtL rt0 false)) (by rw[hin.ok.zero (by omega)];rfl) ?_
  dsimp only[ag]
  refine aP fun _ _ _=>?_;dsimp only[ag];refine stU uE kE rE vE ?_
  refine b7 rfl ?_
  refine aj fun _ _=>?_
  rw[dT (by omega)]
  exact ih (i+1) _ _ _ (by omega) (by omega) pE
theorem Of{I:Ctx}{a:Nat}{t:List (Rk×Rt)}{T:List Nd}{ref:Int}{M b:Nat}{mo:Obj}{A0:Addr}{c0:Nat}{p:Int×Int}(hin:C7 I a t T ref M b mo A0 c0):Fn Tryz.prog 71 #[ptV a,pfV p] I [] (rN (ofL t p)):=by
 obtain⟨fz,hb⟩:=hin.bk
 refine Gv _ _ _ ?_
 refine aP fun y3 _ _=>?_
 refine aj fun _ _=>?_
 refine pR _ _ _ _ _ _ _ ?_
 refine aX (by simp<;>omega) ?_
 refine nt kE ⟨rfl,_,_,_,.inr hb,rfl⟩ ?_
 dsimp only
 refine lz mE rE kE ?_;dsimp only[ag]
 refine dZ QC rfl gC (.inr hin.m) hin.v (x:=(p,0)) (ok:=true) (ag (rtL ((ah t (p,0)).getD rt0) (ah t (p,0)).isSome)) (by cases ah t (p,0)<;>rfl) ?_
 dsimp only[ag]
 refine aP fun _ _ _=>?_;dsimp only[ag];refine stU uE kE rE vE ?_
 unfold ofL
 cases hg:ah t (p,0)with
 |none=>
  refine b7 rfl ?_
  refine aj fun _ _=>?_
  exact Ng (p:=p) (rs:=[]) hin (Own.nil _ _) 15 1 _ _ _ (by decide) (by decide) pE
 |some x=>
  refine aX rfl ?_
  refine RS mE rE kE ?_;dsimp only[ag]
  refine gK (e:=48) ⟨x.C⟩ kE fun g hg hI=>?_
  dsimp only
  refine bP (n:=0) (cs:=[]) (cl_.aff _) Fc kE (cs2:=x.C) (fun _=>⟨_,rfl,cw mE rfl⟩) (fun h=>by cases h) rfl (by simp) (m:=[]) (List.Perm.refl _) (Own.nil _ _) (by omega) (by omega) ?_
  intro A2 c2 m2 ho2
  refine aj fun _ _=>?_
  exact Ng (p:=p) (rs:=[x]) hin (by simpa using ho2) 15 1 _ _ _ (by decide) (by decide) pE
end Go.Proofs.YtadanegddceleaaGreatS
