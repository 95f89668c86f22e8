import Derived.Test.YtadanegddceleaaGreatqam
import Derived.Test.YtadanegddceleaaGreatqap
set_option linter.unusedSimpArgs false
set_option linter.unusedVariables false
set_option maxRecDepth 20000
namespace Go.Proofs.YtadanegddceleaaGreatS
abbrev qb(p:Int×Int):Prop:=(0≤p.1∧p.1<4294967296)∧inI p.2
theorem uf{I:Ctx}{p:Int×Int}(hp:qb p):Fn Tryz.prog 91 #[pfV p] I [] (fun v h'=>v= .bool (ov p.1.toNat p.2)∧h'=[]):=by
 have h:=IY (I:=I) (a:=p.1.toNat) (n:=p.2) (by omega) hp.2
 rwa[Int.toNat_of_nonneg hp.1.1]at h
def DuB(d:ao)(b:Nat)(m:Mem):Prop:= ∃a lo po,a.b=b∧DuX d [] a lo po m
theorem Pr{I:Ctx}{d:ao}{b:Nat}{m:Mem}{p:Int×Int}{v:Vec}{tag:Int}(hd:DuB d b m)(hp:qb p)(hbd:d.links.length≤1000):
  Fn Tryz.prog 327 #[ptV b,pfV p,v.V,.int .u16 tag] I m (fun r h'=> ∃d' ls e sv m1 m2,r= .tuple #[sv,.int .i64 e]∧GP p v tag d d' ls e∧h'=m1++m2∧DuB d' b m1∧nH ls sv m2):=by
 have hd0:=hd
 obtain⟨a,lo,po,rfl,hd⟩:=hd
 have bad: ∀e,GP p v tag d d [] e→ ∀h gg,aM h m gg→holds Tryz.prog 327 I (cl_ fun r h'=> ∃d' ls e sv m1 m2,r= .tuple #[sv,.int .i64 e]∧GP p v tag d d' ls e∧h'=m1++m2∧DuB d' a.b m1∧nH ls sv m2) (.done (.tuple #[.slice none 0 0,.int .i64 e])) h:=
  fun e he h gg hp=>dl hp (h2:=m) (List.Perm.refl _) ⟨d,[],e,_,m,[],rfl,he,by simp,hd0,none,0,rfl,Own.nil _ _⟩
 refine Dm _ _ _ _ _ _ _ ?_
 refine aP fun _ _ _=>?_;dsimp only[ag];refine aP fun _ _ _=>?_;dsimp only[ag];refine lz mE rE kE ?_;dsimp only[ag]
 refine aA (v:= .bool (ov p.1.toNat p.2)) (fun _=>{b:=ov p.1.toNat p.2}) iE (fun hl=>uf hp) rfl ?_
 dsimp only
 refine ay (fun t1=>?_) (fun t1=>?_)
 ·exact bad 1 (by unfold GP;rw[if_pos (.inl (by simpa using t1))];exact⟨rfl,rfl,rfl⟩) _ _ pE
 have t1:ov p.1.toNat p.2=true:=by simpa using t1
 refine la4 mE rE kE ?_;dsimp only[ag]
 refine aA (v:= .bool (gd v)) (fun _=>{b:=gd v}) gc (fun hl=>lI) rfl ?_
 dsimp only
 refine ay (fun t2=>?_) (fun t2=>?_)
 ·exact bad 1 (by unfold GP;rw[if_pos (.inr (by simpa using t2))];exact⟨rfl,rfl,rfl⟩) _ _ pE
 have t2:gd v=true:=by simpa using t2
 have hc1: ¬(ov p.1.toNat p.2=false∨gd v=false):=by rw[t1,t2];simp
 obtain⟨A,c,mz,hpz,_,_⟩:=hd.du
 have hmem:(a.b,Obj.cells (duC d a A ([]:List Ltr).length c) 204 (0,0))∈m:=hpz.mem_iff.2 mq0
 refine ldI (off:=0) (by repeat (first|exact hmem|exact List.mem_append_left _ (hmem)|apply mq1|apply mq2)) rfl kE ?_
 refine aA (v:= .bool (Ht tag d.dom)) (fun _=>{b:=Ht tag d.dom}) CE (fun hl=>I0) rfl ?_
 dsimp only
 refine ay (fun t3=>?_) (fun t3=>?_)
 ·exact bad 6 (by unfold GP;rw[if_neg hc1,if_pos t3];exact⟨rfl,rfl,rfl⟩) _ _ pE
 have t3:Ht tag d.dom=false:=t3
 refine lz mE rE kE ?_;dsimp only[ag]
 refine ak m _ sF qE (fun hl=>IJ (p:=p) hd) ?_
 rintro r m1 ⟨pk',po',rfl,hd1⟩
 refine⟨fun _=>{A:=(ah pk' p).map fun b=>⟨b,0,none⟩},rfl,?_⟩
 refine kb kE ?_;dsimp only[ag]
 cases hx:ah (sH d p).pre p with
 |none=>
  have hpk:ah pk' p=none:=by
   obtain⟨_,_,_,e2⟩:=hd1.nd
   have e2:am pk'=am (sH d p).pre:=e2
   rw[bW]at hx⊢
   rw[e2];exact hx
  have hadd:sH d p=d:=by
   unfold sH at hx⊢
   split
   ·rename_i hc
    rw[if_pos hc]at hx
    simp only[aJ,if_true]at hx
    cases hx
   ·rfl
  rw[hpk]
  refine aX rfl ?_
  refine dl (h1:=m1) pE (List.Perm.refl _) ⟨d,[],4,_,m1,[],rfl,?_,by simp,⟨{a with pk:=pk'},lo,po',rfl,hadd▸hd1⟩,none,0,rfl,Own.nil _ _⟩
  unfold GP
  rw[if_neg hc1,if_neg (by rw[t3];simp),hx]
  exact⟨rfl,rfl,rfl⟩
 |some x=>
  obtain⟨bx,hbx⟩:=hd1.ptr hx
  have hbx':ah pk' p=some bx:=hbx
  rw[hbx']
  simp only[Option.map_some]
  refine b7 rfl ?_
  refine la4 mE rE kE ?_;dsimp only[ag]
  refine aP fun gw _ _=>?_
  refine dH ?_;dsimp only[ag]
  obtain⟨A0,r0,o0,ro0,oo0,mo0,mz0,hp0,hrep0,hopn0,hown0,hput0⟩:=hd1.kn hx hbx
  refine jq (cl_.aff _) (m:=[(gw,_)]++m1) pE (m':=(gw,_)::(bx,.cells (knC x A0 r0 o0) 407 (0,0))::(r0,ro0)::(o0,oo0)::(mo0++mz0)) (List.Perm.cons _ hp0) ?_
  refine stU uE kE rE vE ?_;dsimp only[ag]
  obtain⟨m2,hm2,hd2⟩:=hput0 {x with own:=some ⟨v,tag,0⟩} _ ⟨some ⟨gw,0,none⟩,r0,o0,ro0,oo0,[(gw,.cells ⟨Way.C ⟨v,tag,0⟩⟩ 400 (0,0))],rfl,hrep0,hopn0,gw,rfl,rfl⟩
  refine jq (cl_.aff _) (m:=(bx,.cells (knC {x with own:=some ⟨v,tag,0⟩} (some ⟨gw,0,none⟩) r0 o0) 407 (0,0))::(r0,ro0)::([(o0,oo0)]++([(gw,.cells ⟨Way.C ⟨v,tag,0⟩⟩ 400 (0,0))]++mz0))) pE (m':=m2) (aD fun D_ a_=>by have e0_:=List.Perm.count_eq (hm2) a_;simp only[Value.cells,List.count_append,List.count_cons,List.count_nil,List.nil_append,List.cons_append,List.append_nil,List.append_assoc]at e0_;simp only[Value.cells,List.count_append,List.count_cons,List.count_nil,List.nil_append,List.cons_append,List.append_nil,List.append_assoc]<;>omega) ?_
  have hl1:(sH d p).links=d.links:=by unfold sH;split<;>rfl
  refine ak m2 [] gm cE (fun hl=>rx (a:={a with pk:=pk'}) (p:=p) (x:={x with own:=some ⟨v,tag,0⟩}) (bx:=bx) hd2 (by show ah (aL _ _ _) p=_;rw[aJ,if_pos rfl]) hbx (by show 0+_≤_;rw[hl1];omega)) ?_
  rintro r m3 ⟨rfl,d',ls,hset,hd3⟩
  refine⟨fun _=>{v:=undef},rfl,?_⟩
  refine ak m3 [] ec cE (fun hl=>qH (a:={a with pk:=pk'}) hd3) ?_
  rintro r m4 ⟨m5,m6,rfl,hd4,A2,c2,rfl,ho2⟩
  refine⟨fun _=>{A:=A2,n:=([]++ls).length,c:=c2},rfl,?_⟩
  refine aY (h1:=m5++m6) (g:=[]) cE ⟨d',ls,0,_,m5,m6,rfl,?_,rfl,⟨{a with pk:=pk'},_,_,rfl,hd4⟩,A2,c2,rfl,ho2⟩
  unfold GP
  rw[if_neg hc1,if_neg (by rw[t3];simp),hx]
  exact⟨rfl,hset⟩
theorem MF{I:Ctx}{d:ao}{b:Nat}{m:Mem}{p:Int×Int}(hd:DuB d b m)(hbd:d.links.length≤1000):
  Fn Tryz.prog 329 #[ptV b,pfV p] I m (fun r h'=> ∃d' ls e sv m1 m2,r= .tuple #[sv,.int .i64 e]∧zQ p d d' ls e∧h'=m1++m2∧DuB d' b m1∧nH ls sv m2):=by
 have hd0:=hd
 obtain⟨a,lo,po,rfl,hd⟩:=hd
 have bad: ∀e,zQ p d d [] e→ ∀h gg,aM h m gg→holds Tryz.prog 329 I (cl_ fun r h'=> ∃d' ls e sv m1 m2,r= .tuple #[sv,.int .i64 e]∧zQ p d d' ls e∧h'=m1++m2∧DuB d' a.b m1∧nH ls sv m2) (.done (.tuple #[.slice none 0 0,.int .i64 e])) h:=
  fun e he h gg hp=>dl hp (h2:=m) (List.Perm.refl _) ⟨d,[],e,_,m,[],rfl,he,by simp,hd0,none,0,rfl,Own.nil _ _⟩
 obtain⟨A,c,mz,hpz,_,hpo⟩:=hd.du
 have hmem:(a.b,Obj.cells (duC d a A ([]:List Ltr).length c) 204 (0,0))∈m:=hpz.mem_iff.2 mq0
 have hmemP:(a.P,po)∈m:=hpz.mem_iff.2 (mq1 (mq1 mq0))
 have hpk:(ah a.pk p).isNone=(ah d.pre p).isNone:=by
  obtain⟨_,_,_,e2⟩:=hd.nd
  cases h:ah d.pre p with
  |none=>rw[bW]at h;rw[bW.2 (e2▸h)];rfl
  |some x=>obtain⟨bx,hb⟩:=hd.ptr h;rw[hb];rfl
 refine Bh _ _ _ ?_
 refine aP fun _ _ _=>?_;dsimp only[ag]
 refine ldM (by repeat (first|exact hmem|exact List.mem_append_left _ (hmem)|apply mq1|apply mq2)) rfl kE ?_
 refine lz mE rE kE ?_;dsimp only[ag]
 refine dZ Qd rfl pg (.inl (by repeat (first|exact hmemP|exact List.mem_append_left _ (hmemP)|apply mq1|apply mq2))) hpo (x:=p) (ok:=false) (fun _=>{A:=(ah a.pk p).map fun b=>⟨b,0,none⟩}) (by cases ah a.pk p<;>rfl) ?_
 dsimp only
 refine kb kE ?_;dsimp only[ag]
 cases hx:ah d.pre p with
 |none=>
  have:ah a.pk p=none:=by rw[hx]at hpk;simpa using hpk
  rw[this]
  refine aX rfl ?_
  exact bad 5 (by unfold zQ;rw[hx];exact⟨rfl,rfl,rfl⟩) _ _ pE
 |some x=>
  obtain⟨bx,hbx⟩:=hd.ptr hx
  rw[hbx]
  simp only[Option.map_some]
  refine b7 rfl ?_
  obtain⟨A0,r0,o0,ro0,oo0,mo0,mz0,hp0,hrep0,hopn0,hown0,hput0⟩:=hd.kn hx hbx
  refine jq (cl_.aff _) (m:=m) pE (m':=(bx,.cells (knC x A0 r0 o0) 407 (0,0))::(r0,ro0)::(o0,oo0)::(mo0++mz0)) hp0 ?_
  refine dH ?_;dsimp only[ag];refine ldP mE rE kE ?_;dsimp only[ag];refine kb kE ?_;dsimp only[ag]
  refine ay (fun t=>?_) (fun t=>?_)
  ·have ho:x.own=none:=by
    cases hw:x.own with
    |none=>rfl
    |some w=>rw[hw]at hown0;obtain⟨g,rfl,_⟩:=hown0;cases t
   refine jq (cl_.aff _) (m:=(bx,.cells (knC x A0 r0 o0) 407 (0,0))::(r0,ro0)::([(o0,oo0)]++(mo0++mz0))) pE hp0.symm ?_
   exact bad 5 (by unfold zQ;rw[hx];show if x.own=none then _ else _;rw[if_pos ho];exact⟨rfl,rfl,rfl⟩) _ _ (show aM m m []from aM.all)
  ·have ho: ¬x.own=none:=by
    intro hw
    rw[hw]at hown0
    obtain⟨rfl,_⟩:=hown0
    cases t
   refine dH ?_;dsimp only[ag];refine stU uE kE rE vE ?_;dsimp only[ag]
   obtain⟨m2,hm2,hd2⟩:=hput0 {x with own:=none} _ ⟨none,r0,o0,ro0,oo0,[],rfl,hrep0,hopn0,rfl,rfl⟩
   refine jq (cl_.aff _) (m:=(bx,.cells (knC {x with own:=none} none r0 o0) 407 (0,0))::(r0,ro0)::([(o0,oo0)]++mz0)) pE (m':=m2) (aD fun D_ a_=>by have e0_:=List.Perm.count_eq (hm2) a_;simp only[Value.cells,List.count_append,List.count_cons,List.count_nil,List.nil_append,List.cons_append,List.append_nil,List.append_assoc]at e0_;simp only[Value.cells,List.count_append,List.count_cons,List.count_nil,List.nil_append,List.cons_append,List.append_nil,List.append_assoc]<;>omega) ?_
   refine ak m2 [] gm cE (fun hl=>rx (p:=p) (x:={x with own:=none}) (bx:=bx) hd2 (by show ah (aL _ _ _) p=_;rw[aJ,if_pos rfl]) hbx (by show 0+d.links.length≤_;omega)) ?_
   rintro r m3 ⟨rfl,d',ls,hset,hd3⟩
   refine⟨fun _=>{v:=undef},rfl,?_⟩
   refine ak m3 [] ec cE (fun hl=>qH hd3) ?_
   rintro r m4 ⟨m5,m6,rfl,hd4,A2,c2,rfl,ho2⟩
   refine⟨fun _=>{A:=A2,n:=([]++ls).length,c:=c2},rfl,?_⟩
   refine aY (h1:=m5++m6) (g:=[]) cE ⟨d',ls,0,_,m5,m6,rfl,?_,rfl,⟨_,_,_,rfl,hd4⟩,A2,c2,rfl,ho2⟩
   unfold zQ
   rw[hx]
   show if x.own=none then _ else _
   rw[if_neg ho]
   exact⟨rfl,hset⟩
theorem DuX.isNone{d:ao}{out:List Ltr}{a:DAd}{lo po:Obj}{m:Mem}{p:Int×Int}(hd:DuX d out a lo po m):(ah a.pk p).isNone=(ah d.pre p).isNone:=by
 obtain⟨_,_,_,e2⟩:=hd.nd
 cases h:ah d.pre p with
 |none=>rw[bW]at h;rw[bW.2 (e2▸h)];rfl
 |some x=>obtain⟨bx,hb⟩:=hd.ptr h;rw[hb];rfl
def lZ(k:Int)(p:Int×Int)(v:Vec)(tag:Int)(fine:Bool)(d1:ao):ao:=
 match ah d1.pre p with
 |none=>d1
 |some x=>{d1 with pre:=aL d1.pre p {x with rep:=if fine then aL x.rep k ⟨v,tag,0⟩else dq x.rep k}}
abbrev deC(p:Int×Int)(v:Vec)(tag:Int):Array Value:=#[.int .u32 p.1,.int .i64 p.2,.int .i64 v.b,.int .i64 v.d,.int .i64 v.p,.int .u16 tag]
theorem H7{I:Ctx}{d:ao}{out:List Ltr}{a:DAd}{lo po:Obj}{m h g:Mem}{p:Int×Int}{v:Vec}{tag k e:Int}{fine:Bool}{y5:Nat}(hd:DuX d out a lo po m)(hp:aM h ([(y5,.cells (deC p v tag) 169 (0,0))]++m) g)(u:Nat→Value):
  Wp Tryz.prog 340 cb (b9 k y5 fine ((ah a.pk p).map fun b=>⟨b,0,none⟩) e u) I h
   (cl_ fun r h'=>r= .tuple #[ptO (ah a.pk p),.int .i64 e]∧DuX (lZ k p v tag fine d) out a lo po h'):=by
 have hpk:=hd.isNone (p:=p)
 refine vC _ _ _ _ _ _ ?_
 unfold lZ
 cases hx:ah d.pre p with
 |none=>
  have:ah a.pk p=none:=by rw[hx]at hpk;simpa using hpk
  rw[this]
  simp only[Option.map_none]
  refine kb kE ?_;dsimp only[ag]
  refine aX rfl ?_
  exact aY (h1:=m) (g:=(y5,.cells (deC p v tag) 169 (0,0))::g) (hp.trans (by simp;exact List.perm_middle.symm)) ⟨rfl,hd⟩
 |some x=>
  obtain⟨bx,hbx⟩:=hd.ptr hx
  rw[hbx]
  simp only[Option.map_some]
  obtain⟨A0,r0,o0,ro0,oo0,mo0,mz0,hp0,hrep0,hopn0,hown0,hput0⟩:=hd.kn hx hbx
  refine jq (cl_.aff _) hp (m':=(y5,.cells (deC p v tag) 169 (0,0))::(bx,.cells (knC x A0 r0 o0) 407 (0,0))::(r0,ro0)::(o0,oo0)::(mo0++mz0)) (List.Perm.cons _ hp0) ?_
  refine kb kE ?_;dsimp only[ag]
  refine b7 rfl ?_
  cases fine with
  |true=>
   refine aX rfl ?_
   refine dH ?_;dsimp only[ag];refine ldM mE rE kE ?_;dsimp only[ag];refine la4 mE rE kE ?_;dsimp only[ag];refine ldI mE rE kE ?_;dsimp only[ag]
   refine uw (cl_.aff _) E1 rfl (aM.perm1 pE) hrep0 (x:=k) (⟨v,tag,0⟩:Way) rfl fun o' ho'=>?_
   obtain⟨m2,hm2,hd2⟩:=hput0 {x with rep:=aL x.rep k ⟨v,tag,0⟩} _ ⟨A0,r0,o0,o',oo0,mo0,rfl,ho',hopn0,hown0⟩
   exact dl (h1:=(bx,.cells (knC x A0 r0 o0) 407 (0,0))::(r0,o')::([(o0,oo0)]++(mo0++mz0))) pE (h2:=m2) (aD fun D_ a_=>by have e0_:=List.Perm.count_eq (hm2) a_;simp only[Value.cells,List.count_append,List.count_cons,List.count_nil,List.nil_append,List.cons_append,List.append_nil,List.append_assoc]at e0_;simp only[Value.cells,List.count_append,List.count_cons,List.count_nil,List.nil_append,List.cons_append,List.append_nil,List.append_assoc]<;>omega) ⟨rfl,hd2⟩
  |false=>
   refine b7 rfl ?_
   refine dH ?_;dsimp only[ag];refine ldM mE rE kE ?_;dsimp only[ag]
   refine C3 (cl_.aff _) E1 rfl (aM.perm1 pE) hrep0 (x:=k) fun o' ho'=>?_
   obtain⟨m2,hm2,hd2⟩:=hput0 {x with rep:=dq x.rep k} _ ⟨A0,r0,o0,o',oo0,mo0,rfl,ho',hopn0,hown0⟩
   exact dl (h1:=(bx,.cells (knC x A0 r0 o0) 407 (0,0))::(r0,o')::([(o0,oo0)]++(mo0++mz0))) pE (h2:=m2) (aD fun D_ a_=>by have e0_:=List.Perm.count_eq (hm2) a_;simp only[Value.cells,List.count_append,List.count_cons,List.count_nil,List.nil_append,List.cons_append,List.append_nil,List.append_assoc]at e0_;simp only[Value.cells,List.count_append,List.count_cons,List.count_nil,List.nil_append,List.cons_append,List.append_nil,List.append_assoc]<;>omega) ⟨rfl,hd2⟩
theorem zf{k:Int}{p:Int×Int}{v:Vec}{tag:Int}{d:ao}{fine:Bool}(hf:fine=(!Ht tag d.dom&&gd v)):eo k p v tag d=lZ k p v tag fine (if fine then sH d p else d):=by
 subst hf
 rfl
theorem Nm{I:Ctx}{d:ao}{out:List Ltr}{a:DAd}{lo po:Obj}{m h g:Mem}{p:Int×Int}{v:Vec}{tag k e:Int}{fine:Bool}{y5:Nat}(hf:fine=(!Ht tag d.dom&&gd v))(hd:DuX d out a lo po m)(hp:aM h ([(y5,.cells (deC p v tag) 169 (0,0))]++m) g)(u:Nat→Value):
  Wp Tryz.prog 340 fN (fO ⟨a.b,0,none⟩ k y5 fine e u) I h
   (cl_ fun r h'=> ∃pk' po' e',r= .tuple #[ptO (ah pk' p),.int .i64 e']∧DuX (eo k p v tag d) out {a with pk:=pk'} lo po' h'):=by
 rw[zf hf]
 obtain⟨A,c,mz,hpz,_,hpo⟩:=hd.du
 have hmem:(a.b,Obj.cells (duC d a A out.length c) 204 (0,0))∈m:=hpz.mem_iff.2 mq0
 have hmemP:(a.P,po)∈m:=hpz.mem_iff.2 (mq1 (mq1 mq0))
 have hpk:=hd.isNone (p:=p)
 refine vM _ _ _ _ _ _ ?_
 refine jq (cl_.aff _) hp (m':=(y5,.cells (deC p v tag) 169 (0,0))::m) (List.Perm.refl _) ?_
 refine ldM (off:=0+3) (by repeat (first|exact hmem|exact List.mem_append_left _ (hmem)|apply mq1|apply mq2)) rfl kE ?_
 refine lz mE rE kE ?_;dsimp only[ag]
 refine dZ Qd rfl pg (.inl (by repeat (first|exact hmemP|exact List.mem_append_left _ (hmemP)|apply mq1|apply mq2))) hpo (x:=p) (ok:=false) (fun _=>{A:=(ah a.pk p).map fun b=>⟨b,0,none⟩}) (by cases ah a.pk p<;>rfl) ?_
 dsimp only
 refine kb kE ?_;dsimp only[ag]
 cases hx:ah d.pre p with
 |some x=>
  obtain⟨bx,hbx⟩:=hd.ptr hx
  have hadd:(if fine=true then sH d p else d)=d:=by
   split
   ·unfold sH;rw[if_neg (by rw[hx];simp)]
   ·rfl
  rw[hadd]
  refine b7 (by rw[hbx];rfl) ?_
  refine aj fun _ _=>Wp.mono (H7 hd (show aM _ ([(y5,.cells (deC p v tag) 169 (0,0))]++m) []from aM.all) _) ?_
  rintro r h' ⟨h1,gg,hpg,rfl,hd1⟩
  exact⟨h1,gg,hpg,a.pk,po,e,rfl,hd1⟩
 |none=>
  have hpn:ah a.pk p=none:=by rw[hx]at hpk;simpa using hpk
  refine aX (by rw[hpn];rfl) ?_
  cases fine with
  |false=>
   refine b7 rfl ?_
   refine aj fun _ _=>Wp.mono (H7 (fine:=false) hd (show aM _ ([(y5,.cells (deC p v tag) 169 (0,0))]++m) []from aM.all) _) ?_
   rintro r h' ⟨h1,gg,hpg,rfl,hd1⟩
   exact⟨h1,gg,hpg,a.pk,po,e,rfl,hd1⟩
  |true=>
   refine aX rfl ?_
   refine lz mE rE kE ?_;dsimp only[ag]
   refine ak m [(y5,.cells (deC p v tag) 169 (0,0))] sF cE (fun hl=>IJ (p:=p) hd) ?_
   rintro r m1 ⟨pk',po',rfl,hd1⟩
   refine⟨fun _=>{A:=(ah pk' p).map fun b=>⟨b,0,none⟩},rfl,?_⟩
   dsimp only
   refine kb kE ?_;dsimp only[ag]
   have fin: ∀(e':Int) u,Wp Tryz.prog 340 cb (b9 k y5 true ((ah pk' p).map fun b=>⟨b,0,none⟩) e' u) I (m1++[(y5,.cells (deC p v tag) 169 (0,0))]) (cl_ fun r h'=> ∃pk' po' e',r= .tuple #[ptO (ah pk' p),.int .i64 e']∧DuX (lZ k p v tag true (if true=true then sH d p else d)) out {a with pk:=pk'} lo po' h'):=by
    intro e' u
    refine Wp.mono (H7 (a:={a with pk:=pk'}) (fine:=true) hd1 (show aM _ ([(y5,.cells (deC p v tag) 169 (0,0))]++m1) [] by unfold aM;rw[List.append_nil];exact List.perm_append_comm) u) ?_
    rintro r h' ⟨h1,gg,hpg,rfl,hd1⟩
    exact⟨h1,gg,hpg,pk',po',e',rfl,hd1⟩
   exact ay (fun _=>aj fun _ _=>fin 4 _) (fun _=>aj fun _ _=>fin e _)
theorem Iy{I:Ctx}{d:ao}{out:List Ltr}{a:DAd}{lo po:Obj}{m:Mem}{p:Int×Int}{v:Vec}{tag k:Int}(hd:DuX d out a lo po m):
  Fn Tryz.prog 340 #[ptV a.b,.int .i64 k,.agg (deC p v tag)] I m (fun r h'=> ∃pk' po' e',r= .tuple #[ptO (ah pk' p),.int .i64 e']∧DuX (eo k p v tag d) out {a with pk:=pk'} lo po' h'):=by
 obtain⟨A,c,mz,hpz,_,hpo⟩:=hd.du
 have hmem:(a.b,Obj.cells (duC d a A out.length c) 204 (0,0))∈m:=hpz.mem_iff.2 mq0
 refine xr _ _ _ _ _ _ _ _ ?_
 refine aP fun y5 _ _=>?_
 refine la4 mE rE kE ?_;dsimp only[ag]
 refine aA (v:= .bool (gd v)) (fun _=>{b:=gd v}) gc (fun hl=>lI) rfl ?_
 refine ldI mE rE kE ?_;dsimp only[ag]
 refine ldI (off:=0) (by repeat (first|exact hmem|exact List.mem_append_left _ (hmem)|apply mq1|apply mq2)) rfl kE ?_
 refine aA (v:= .bool (Ht tag d.dom)) (fun _=>{b:=Ht tag d.dom}) CE (fun hl=>I0) rfl ?_
 dsimp only
 refine ay (fun t=>?_) (fun t=>?_)
 ·exact aj fun _ _=>Nm (fine:=false) (by rw[show Ht tag d.dom=true from t];rfl) hd (show aM _ ([(y5,.cells (deC p v tag) 169 (0,0))]++m) []from aM.all) _
 ·exact aj fun _ _=>Nm (fine:=gd v) (by rw[show Ht tag d.dom=false from t];rfl) hd (show aM _ ([(y5,.cells (deC p v tag) 169 (0,0))]++m) []from aM.all) _
abbrev tQ(R:ao→List Ltr→Prop)(b:Nat)(r:Value)(h':Mem):Prop:= ∃d' ls e sv m1 m2,r= .tuple #[sv,.int .i64 e]∧R d' ls∧h'=m1++m2∧DuB d' b m1∧nH ls sv m2
theorem RP{I:Ctx}{d:ao}{out:List Ltr}{a:DAd}{lo po:Obj}{m h g:Mem}{e:Int}{R:ao→List Ltr→Prop}(hd:DuX d out a lo po m)(hR:R d out)(hp:h.Perm (m++g))(u:Nat→Value):
  Wp Tryz.prog 331 ci (ch ⟨a.b,0,none⟩ e u) I h (cl_ (tQ R a.b)):=by
 refine ye _ _ _ ?_
 refine ak m g ec hp (fun hl=>qH hd) ?_
 rintro r m4 ⟨m5,m6,rfl,hd4,A2,c2,rfl,ho2⟩
 refine⟨fun _=>{A:=A2,n:=out.length,c:=c2},rfl,?_⟩
 exact aY (List.Perm.refl _) ⟨d,out,e,_,m5,m6,rfl,hR,rfl,⟨_,_,_,rfl,hd4⟩,A2,c2,rfl,ho2⟩
def Gh(k:Int)(l:Ltr)(d2 d':ao)(ls1 ls:List Ltr):Prop:=
 match ah d2.pre l.p with
 |none=>d'=d2∧ls=ls1
 |some x=> ∃ls2,ju l.p {d2 with pre:=aL d2.pre l.p (if l.code=3∧ah x.opn k=some l.ack then gi x k else x)} d' ls2∧ls=ls1++ls2
theorem RB{I:Ctx}{d:ao}{out:List Ltr}{a:DAd}{lo po:Obj}{m h g:Mem}{l:Ltr}{k e:Int}{y5:Nat}(hd:DuX d out a lo po m)(hbd:out.length+d.links.length≤1000000)(hp:aM h ([(y5,.cells ⟨l.C⟩ 171 (0,0))]++m) g)(u:Nat→Value):
  Wp Tryz.prog 331 ic (gO ⟨a.b,0,none⟩ k y5 ((ah a.pk l.p).map fun b=>⟨b,0,none⟩) e u) I h (cl_ (tQ (fun d' ls=>Gh k l d d' out ls) a.b)):=by
 have hpk:=hd.isNone (p:=l.p)
 refine yn _ _ _ _ _ _ ?_
 cases hx:ah d.pre l.p with
 |none=>
  have:ah a.pk l.p=none:=by rw[hx]at hpk;simpa using hpk
  rw[this]
  simp only[Option.map_none]
  refine zZ kE ?_;dsimp only[ag]
  refine b7 rfl ?_
  refine aj fun _ _=>RP (R:=fun d' ls=>Gh k l d d' out ls) hd (by unfold Gh;rw[hx];exact⟨rfl,rfl⟩) (hp.trans (by simp;exact List.perm_middle.symm)) _
 |some x=>
  obtain⟨bx,hbx⟩:=hd.ptr hx
  rw[hbx]
  simp only[Option.map_some]
  obtain⟨A0,r0,o0,ro0,oo0,mo0,mz0,hp0,hrep0,hopn0,hown0,hput0⟩:=hd.kn hx hbx
  have hmx:(bx,Obj.cells (knC x A0 r0 o0) 407 (0,0))∈m:=hp0.mem_iff.2 mq0
  have hmo:(o0,oo0)∈m:=hp0.mem_iff.2 (mq1 (mq1 mq0))
  refine jq (cl_.aff _) hp (m':=(y5,.cells ⟨l.C⟩ 171 (0,0))::m) (List.Perm.refl _) ?_
  have fin: ∀(x':di) (d1:ao) (m1 gg:Mem),x'=(if l.code=3∧ah x.opn k=some l.ack then gi x k else x)→d1={d with pre:=aL d.pre l.p x'}→DuX d1 out a lo po m1→
    ∀h,h.Perm (m1++gg)→holds Tryz.prog 331 I (cl_ (tQ (fun d' ls=>Gh k l d d' out ls) a.b)) (.call 335 [ptV a.b,ptV bx] (.tup []) fun l35=> .stopU ci (ch ⟨a.b,0,none⟩ e)) h:=by
   intro x' d1 m1 gg hx' hd1e hd1 h hp
   subst hd1e
   refine ak m1 gg gm hp (fun hl=>rx (p:=l.p) (x:=x') (bx:=bx) hd1 (by show ah (aL _ _ _) l.p=_;rw[aJ,if_pos rfl]) hbx (by show _+d.links.length≤_;omega)) ?_
   rintro r m3 ⟨rfl,d',ls2,hset,hd3⟩
   refine⟨fun _=>{v:=undef},rfl,?_⟩
   refine aj fun _ _=>RP (R:=fun d' ls=>Gh k l d d' out ls) hd3 ?_ (List.Perm.refl _) _
   unfold Gh
   rw[hx]
   exact⟨ls2,hx'▸hset,rfl⟩
  have dsame:d={d with pre:=aL d.pre l.p x}:=by rw[Ce hx]
  refine zZ kE ?_;dsimp only[ag]
  refine aX rfl ?_
  refine dH ?_;dsimp only[ag]
  refine ldM (by repeat (first|exact hmx|exact List.mem_append_left _ (hmx)|apply mq1|apply mq2)) rfl kE ?_
  dsimp only
  refine dZ E1 rfl Gi (.inl (by repeat (first|exact hmo|exact List.mem_append_left _ (hmo)|apply mq1|apply mq2))) hopn0 (x:=k) (ok:=true) (ag [{i:=(ah x.opn k).getD 0},{b:=(ah x.opn k).isSome}]) (by cases ah x.opn k<;>rfl) ?_
  dsimp only[ag]
  cases ho:ah x.opn k with
  |none=>
   refine b7 rfl ?_
   exact fin x d m _ (by rw[if_neg (by rw[ho];simp)]) dsame hd _ (List.perm_append_comm (l₁:=[_]))
  |some n=>
   refine aX rfl ?_
   refine ldI mE rE kE ?_;dsimp only[ag]
   refine ay (fun t=>?_) (fun t=>?_)
   ·have t:l.code=3:=by simpa using t
    refine ldI mE rE kE ?_;dsimp only[ag]
    refine ay (fun t2=>?_) (fun t2=>?_)
    ·have t2:l.ack=n:=by simpa using t2
     refine ak ((bx,.cells (knC x A0 r0 o0) 407 (0,0))::(r0,ro0)::(o0,oo0)::mo0) (mz0++[(y5,.cells ⟨l.C⟩ 171 (0,0))]) ou (aD fun D_ a_=>by have e0_:=List.Perm.count_eq (hp0) a_;simp only[Value.cells,List.count_append,List.count_cons,List.count_nil,List.nil_append,List.cons_append,List.append_nil,List.append_assoc]at e0_;simp only[Value.cells,List.count_append,List.count_cons,List.count_nil,List.nil_append,List.cons_append,List.append_nil,List.append_assoc]<;>omega) (fun hl=>Eg ⟨A0,r0,o0,ro0,oo0,mo0,rfl,hrep0,hopn0,hown0⟩) ?_
     rintro r m2 ⟨rfl,hk2⟩
     refine⟨fun _=>{v:=undef},rfl,?_⟩
     obtain⟨m3,hm3,hd3⟩:=hput0 _ _ hk2
     exact fin (gi x k) _ m3 [(y5,.cells ⟨l.C⟩ 171 (0,0))] (by rw[if_pos ⟨t,by rw[ho,t2]⟩]) rfl hd3 _ (aD fun D_ a_=>by have e0_:=List.Perm.count_eq (hm3) a_;simp only[Value.cells,List.count_append,List.count_cons,List.count_nil,List.nil_append,List.cons_append,List.append_nil,List.append_assoc]at e0_;simp only[Value.cells,List.count_append,List.count_cons,List.count_nil,List.nil_append,List.cons_append,List.append_nil,List.append_assoc]<;>omega)
    ·have t2: ¬l.ack=n:=by simpa using t2
     exact fin x d m _ (by rw[if_neg (by rw[ho];intro hc;injection hc.2 with h3;exact t2 h3.symm)]) dsame hd _ (List.perm_append_comm (l₁:=[_]))
   ·have t: ¬l.code=3:=by simpa using t
    exact fin x d m _ (by rw[if_neg (fun hc=>t hc.1)]) dsame hd _ (List.perm_append_comm (l₁:=[_]))
theorem SO{I:Ctx}{d:ao}{a:DAd}{lo po:Obj}{m h g:Mem}{l:Ltr}{k e:Int}{f:Lnk}{w:Way}{y5 y11:Nat}(hd:DuX d [] a lo po m)(hf:ah d.links k=some f)(hbd:d.links.length≤1000)(hp:aM h ([(y5,.cells ⟨l.C⟩ 171 (0,0))]++([(y11,.cells ⟨w.C⟩ 400 (0,0))]++m)) g)(u:Nat→Value):
  Wp Tryz.prog 331 fg (fq ⟨a.b,0,none⟩ k y5 ((ah a.pk l.p).map fun b=>⟨b,0,none⟩) e y11 u) I h
   (cl_ (tQ (fun d' ls=>Gh k l (if l.code=2 then {d with links:=aL d.links k (aW f)}else d) d' (if l.code=2 then[⟨k,3,(aW f).sent,l.seq,l.p,w.v,w.tag⟩]else[]) ls) a.b)):=by
 refine xz _ _ _ _ _ _ _ ?_
 refine jq (cl_.aff _) hp (m':=(y5,.cells ⟨l.C⟩ 171 (0,0))::(y11,.cells ⟨w.C⟩ 400 (0,0))::m) (List.Perm.refl _) ?_
 refine ldI mE rE kE ?_;dsimp only[ag]
 refine ay (fun t=>?_) (fun t=>?_)
 ·have t:l.code=2:=by simpa using t
  simp only[if_pos t]
  refine ldI mE rE kE ?_;dsimp only[ag];refine lz mE rE kE ?_;dsimp only[ag];refine la7 mE rE kE ?_;dsimp only[ag]
  refine ak m [(y5,.cells ⟨l.C⟩ 171 (0,0)),(y11,.cells ⟨w.C⟩ 400 (0,0))] iD cE (fun hl=>Cv hd hf (by simp)) ?_
  rintro r m2 ⟨rfl,hd2⟩
  refine⟨fun _=>{i:=(aW f).sent},rfl,?_⟩
  refine aj fun _ _=>RB hd2 (by show 1+(aL d.links k _).length≤_;rw[pM];split<;>omega) (show aM _ ([(y5,.cells ⟨l.C⟩ 171 (0,0))]++m2) [(y11,.cells ⟨w.C⟩ 400 (0,0))] by unfold aM;exact cE) _
 ·have t: ¬l.code=2:=by simpa using t
  simp only[if_neg t]
  refine aj fun _ _=>RB hd (by show 0+_≤_;omega) (show aM _ ([(y5,.cells ⟨l.C⟩ 171 (0,0))]++m) [(y11,.cells ⟨w.C⟩ 400 (0,0))] by unfold aM;exact cE) _
theorem zU(d:ao)(p:Int×Int):(sH d p).links=d.links:=by unfold sH;split<;>rfl
theorem kq(k:Int)(p:Int×Int)(v:Vec)(tag:Int)(d:ao):(eo k p v tag d).links=d.links:=by
 rw[zf rfl]
 unfold lZ
 split
 ·split
  ·exact zU d p
  ·rfl
 ·split
  ·exact zU d p
  ·rfl
theorem NI{I:Ctx}{d:ao}{b:Nat}{m:Mem}{k:Int}{l:Ltr}(hd:DuB d b m)(hp:qb l.p)(hbd:d.links.length≤1000):
  Fn Tryz.prog 331 #[ptV b,.int .i64 k,l.V] I m (tQ (fun d' ls=>vq k l d d' ls) b):=by
 have hd0:=hd
 obtain⟨a,lo,po,rfl,hd⟩:=hd
 have bad: ∀e,vq k l d d []→ ∀h gg,aM h m gg→holds Tryz.prog 331 I (cl_ (tQ (fun d' ls=>vq k l d d' ls) a.b)) (.done (.tuple #[.slice none 0 0,.int .i64 e])) h:=
  fun e he h gg hp=>dl hp (h2:=m) (List.Perm.refl _) ⟨d,[],e,_,m,[],rfl,he,by simp,hd0,none,0,rfl,Own.nil _ _⟩
 obtain⟨A,c,mz,hpz,hlo,hpo⟩:=hd.du
 have hmem:(a.b,Obj.cells (duC d a A ([]:List Ltr).length c) 204 (0,0))∈m:=hpz.mem_iff.2 mq0
 have hmemL:(a.L,lo)∈m:=hpz.mem_iff.2 (mq1 mq0)
 refine AZ _ _ _ _ _ _ _ _ _ _ _ _ ?_
 refine aP fun y5 _ _=>?_
 refine ldM (by repeat (first|exact hmem|exact List.mem_append_left _ (hmem)|apply mq1|apply mq2)) rfl kE ?_
 dsimp only
 refine dZ E1 rfl kZ (.inl (by repeat (first|exact hmemL|exact List.mem_append_left _ (hmemL)|apply mq1|apply mq2))) hlo (x:=k) (ok:=false) (fun _=>{A:=(ah a.lk k).map fun b=>⟨b,0,none⟩}) (by cases ah a.lk k<;>rfl) ?_
 dsimp only
 refine kb kE ?_;dsimp only[ag]
 cases hf:ah d.links k with
 |none=>
  have hn:ah a.lk k=none:=by
   obtain⟨_,_,e1,_⟩:=hd.nd
   rw[bW]at hf⊢
   rw[e1];exact hf
  rw[hn]
  refine aX rfl ?_
  exact bad 1 (by unfold vq;rw[hf];exact⟨rfl,rfl⟩) _ _ pE
 |some f=>
  obtain⟨bl,mz2,hbl,hp2,hput⟩:=hd.lptr hf
  rw[hbl]
  simp only[Option.map_some]
  refine b7 rfl ?_
  have hml:(bl,Obj.cells #[.int .i64 f.v.b,.int .i64 f.v.d,.int .i64 f.v.p,.int .u32 f.sent,.int .u32 f.got] 417 (0,0))∈m:=hp2.mem_iff.2 mq0
  have hbad: ∀e,(l.code<1∨l.code>3∨ov l.p.1.toNat l.p.2=false∨l.seq≤f.got)→ ∀h gg,aM h m gg→holds Tryz.prog 331 I (cl_ (tQ (fun d' ls=>vq k l d d' ls) a.b)) (.done (.tuple #[.slice none 0 0,.int .i64 e])) h:=by
   intro e hc h gg hp
   refine bad e ?_ h gg hp
   unfold vq
   rw[hf]
   show if _ then _ else _
   rw[if_pos hc]
   exact⟨rfl,rfl⟩
  refine ldI mE rE kE ?_;dsimp only[ag]
  refine ay (fun t1=>?_) (fun t1=>?_)
  ·exact hbad 1 (.inl (by simpa using t1)) _ _ pE
  refine ldI mE rE kE ?_;dsimp only[ag]
  refine ay (fun t2=>?_) (fun t2=>?_)
  ·exact hbad 1 (.inr (.inl (by simpa using t2))) _ _ pE
  refine lz mE rE kE ?_;dsimp only[ag]
  refine aA (v:= .bool (ov l.p.1.toNat l.p.2)) (fun _=>{b:=ov l.p.1.toNat l.p.2}) iE (fun hl=>uf hp) rfl ?_
  dsimp only
  refine ay (fun t3=>?_) (fun t3=>?_)
  ·exact hbad 1 (.inr (.inr (.inl (by simpa using t3)))) _ _ pE
  refine ldI mE rE kE ?_;dsimp only[ag]
  refine dH ?_;dsimp only[ag]
  refine ldI (by repeat (first|exact hml|exact List.mem_append_left _ (hml)|apply mq1|apply mq2)) rfl kE ?_
  dsimp only
  refine ay (fun t4=>?_) (fun t4=>?_)
  ·exact hbad 5 (.inr (.inr (.inr (by simpa using t4)))) _ _ pE
  have hcond: ¬(l.code<1∨l.code>3∨ov l.p.1.toNat l.p.2=false∨l.seq≤f.got):=by
   simp only[decide_eq_false_iff_not]at t1 t2 t4
   have t3:ov l.p.1.toNat l.p.2=true:=by simpa using t3
   rintro(h|h|h|h)
   ·exact t1 h
   ·exact t2 h
   ·rw[t3]at h;cases h
   ·exact t4 h
  refine jq (cl_.aff _) (m:=[(y5,.cells ⟨l.C⟩ 171 (0,0))]++m) pE (m':=(y5,.cells ⟨l.C⟩ 171 (0,0))::(bl,.cells #[.int .i64 f.v.b,.int .i64 f.v.d,.int .i64 f.v.p,.int .u32 f.sent,.int .u32 f.got] 417 (0,0))::mz2) (List.Perm.cons _ hp2) ?_
  refine ldI mE rE kE ?_;dsimp only[ag];refine dH ?_;dsimp only[ag];refine stU uE kE rE vE ?_;dsimp only[ag];refine RH mE rE kE ?_;dsimp only[ag]
  obtain⟨m1,hm1,hd1⟩:=hput {f with got:=l.seq} _ rfl
  refine jq (cl_.aff _) (m:=(y5,.cells ⟨l.C⟩ 171 (0,0))::([(bl,.cells #[.int .i64 f.v.b,.int .i64 f.v.d,.int .i64 f.v.p,.int .u32 f.sent,.int .u32 l.seq] 417 (0,0))]++mz2)) pE (m':=(y5,.cells ⟨l.C⟩ 171 (0,0))::m1) (List.Perm.cons _ hm1.symm) ?_
  refine ak m1 [(y5,.cells ⟨l.C⟩ 171 (0,0))] w3 cE (fun hl=>Iy (p:=l.p) (v:=l.v) (tag:=l.tag) (k:=k) hd1) ?_
  rintro r m2 ⟨pk',po',e',rfl,hd2⟩
  refine⟨ag [{A:=(ah pk' l.p).map fun b=>⟨b,0,none⟩},{i:=e'}],rfl,?_⟩
  dsimp only[ag]
  refine bt JE fun y11 _ _=>?_
  have hlk:ah (eo k l.p l.v l.tag {d with links:=aL d.links k {f with got:=l.seq}}).links k=some {f with got:=l.seq}:=by
   rw[kq]
   show ah (aL _ _ _) k=_
   rw[aJ,if_pos rfl]
  have hll:(eo k l.p l.v l.tag {d with links:=aL d.links k {f with got:=l.seq}}).links.length≤1000:=by
   rw[kq]
   show(aL _ _ _).length≤_
   rw[pM,if_pos (aO.1 (by rw[hf];rfl))]
   exact hbd
  have fin: ∀(w:Way),w=mH (eo k l.p l.v l.tag {d with links:=aL d.links k {f with got:=l.seq}}) l.p→
    ∀h gg u,aM h ([(y5,.cells ⟨l.C⟩ 171 (0,0))]++([(y11,.cells ⟨w.C⟩ 400 (0,0))]++m2)) gg→
    Wp Tryz.prog 331 fg (fq ⟨a.b,0,none⟩ k y5 ((ah pk' l.p).map fun b=>⟨b,0,none⟩) e' y11 u) I h (cl_ (tQ (fun d' ls=>vq k l d d' ls) a.b)):=by
   intro w hw h gg u hp
   refine Wp.mono (SO (a:={a with pk:=pk'}) (e:=e') hd2 hlk hll hp u) ?_
   rintro r h' ⟨h1,g1,hpg,d',ls,e2,sv,n1,n2,e3,hR,e4,hd4,hls⟩
   refine⟨h1,g1,hpg,d',ls,e2,sv,n1,n2,e3,?_,e4,hd4,hls⟩
   unfold vq
   rw[hf]
   show if _ then _ else _
   rw[if_neg hcond]
   show Gh k l (if l.code=2 then _ else _) d' _ ls
   rw[←hw]
   exact hR
  cases hx:ah (eo k l.p l.v l.tag {d with links:=aL d.links k {f with got:=l.seq}}).pre l.p with
  |none=>
   have hpn:ah pk' l.p=none:=by
    have:=hd2.isNone (p:=l.p)
    rw[hx]at this
    simpa using this
   rw[hpn]at fin⊢
   simp only[Option.map_none]at fin⊢
   refine zZ kE ?_;dsimp only[ag]
   refine b7 rfl ?_
   exact aj fun _ _=>fin fe (by unfold mH;rw[hx]) _ _ _ pE
  |some x=>
   obtain⟨bx,hbx⟩:=hd2.ptr hx
   have hbx':ah pk' l.p=some bx:=hbx
   rw[hbx']at fin⊢
   simp only[Option.map_some]at fin⊢
   obtain⟨A0,r0,o0,ro0,oo0,mo0,mz0,hp0,hrep0,hopn0,hown0,hput0⟩:=hd2.kn hx hbx
   have hmx:(bx,Obj.cells (knC x A0 r0 o0) 407 (0,0))∈m2:=hp0.mem_iff.2 mq0
   refine zZ kE ?_;dsimp only[ag]
   refine aX rfl ?_
   refine dH ?_;dsimp only[ag]
   refine laG (b:=bx) (off:=4) x.told.C (ag [{i:=x.told.v.b},{i:=x.told.v.d},{i:=x.told.v.p},{i:=x.told.tag},{i:=x.told.next}]) (by repeat (first|exact hmx|exact List.mem_append_left _ (hmx)|apply mq1|apply mq2)) rfl kE rfl ?_
   dsimp only[ag]
   refine stU uE kE rE vE ?_
   exact aj fun _ _=>fin x.told (by unfold mH;rw[hx]) _ _ _ pE
theorem Rb{P:Program}{I:Ctx}{h:Mem}{fn:Func}{τ:List Value}{t1 t2:Tmp}{v1 v2:Value}{Q:Value→Prop}(hr:fn.results.toList=[.tmp t1,.tmp t2])(h1:τ.getD t1 undef=v1)(h2:τ.getD t2 undef=v2)(hq:Q (.tuple #[v1,v2])):rwp P I h (results fn ⟨τ⟩) Q:=by
 refine ve ?_
 rw[hr]
 simp only[List.mapM_cons,List.mapM_nil,wg,cH,u9,h1,h2]
 exact hq
theorem ld.keep{step:Int×Int→ao→ao→List Ltr→Prop}{C:ao→ao→Prop}(h0: ∀d,C d d)(ht: ∀d d1 d2,C d d1→C d1 d2→C d d2)(hs: ∀p d d' ls,step p d d' ls→C d d'): ∀{ps:List (Int×Int)} {d d':ao} {ls:List Ltr},ld step ps d d' ls→C d d'
 |[],_,_,_,⟨e,_⟩=>e▸h0 _
 |p::ps,_,_,_,⟨d1,l1,l2,h1,h2,_⟩=>ht _ _ _ (hs _ _ _ _ h1) (ld.keep h0 ht hs h2)
theorem ld.len{step:Int×Int→ao→ao→List Ltr→Prop}{n:Nat}(hs: ∀p d d' ls,step p d d' ls→ls.length≤n): ∀{ps:List (Int×Int)} {d d':ao} {ls:List Ltr},ld step ps d d' ls→ls.length≤ps.length*n
 |[],_,_,_,⟨_,e⟩=>by subst e;simp
 |p::ps,_,_,_,⟨d1,l1,l2,h1,h2,e⟩=>by
  subst e
  have:=hs _ _ _ _ h1
  have:=ld.len hs h2
  rw[List.length_append,List.length_cons,Nat.add_mul]
  omega
theorem PT{k:Int}{p:Int×Int}{d d':ao}{ls:List Ltr}(h:wi k p d d' ls):ls.length≤1:=by
 obtain⟨x,_,h⟩:=h
 split at h
 ·obtain⟨l,_,_,rfl⟩:=h;simp
 ·rw[h.2];simp
theorem NL{k:Int}{p:Int×Int}{d d':ao}{ls:List Ltr}(h:wi k p d d' ls):d'.pre=d.pre∧(∀i,i≠k→ah d'.links i=ah d.links i)∧((ah d'.links k).isSome=(ah d.links k).isSome):=by
 obtain⟨x,_,h⟩:=h
 split at h
 ·obtain⟨l,hl,rfl,_⟩:=h
  refine⟨rfl,fun i hi=>?_,?_⟩
  ·show ah (aL _ _ _) i=_
   rw[aJ,if_neg hi]
  ·show(ah (aL _ _ _) k).isSome=_
   rw[aJ,if_pos rfl,hl]
   rfl
 ·rw[h.1];exact⟨rfl,fun _ _=>rfl,rfl⟩
theorem H0{k:Int}{ps:List (Int×Int)}{d d':ao}{ls:List Ltr}(h:ld (wi k) ps d d' ls):d'.pre=d.pre∧(∀i,i≠k→ah d'.links i=ah d.links i)∧((ah d'.links k).isSome=(ah d.links k).isSome):=
 h.keep (C:=fun d d'=>d'.pre=d.pre∧(∀i,i≠k→ah d'.links i=ah d.links i)∧((ah d'.links k).isSome=(ah d.links k).isSome)) (fun _=>⟨rfl,fun _ _=>rfl,rfl⟩)
  (fun _ _ _ a b=>⟨b.1.trans a.1,fun i hi=>(b.2.1 i hi).trans (a.2.1 i hi),b.2.2.trans a.2.2⟩) (fun _ _ _ _ h=>NL h)
def JU(d0:ao)(a:DAd)(lo po:Obj)(k:Int)(y3 y4 y5:Nat)(v:Vec)(done:List (Int×Int))(mm:Mem):Prop:= ∃d1 ls m,ld (wi k) done d0 d1 ls∧DuX d1 ls a lo po m∧
 mm=(y3,.cells #[ptV a.b] 160 (0,0))::(y4,.cells #[.int .i64 k] 3 (0,0))::(y5,.cells ⟨v.C⟩ 167 (0,0))::m
noncomputable abbrev raU:Code:=ra (bd (sr (sl (sr (sr (sr cD))))))
noncomputable abbrev rbU:Code:=rb (bd (sr (sl (sr (sr (sr cD))))))
noncomputable abbrev OM(τ:List Value)(D:Nat):Loop:=kH 333 τ #[39] raU rbU D
theorem N5{I:Ctx}{d0:ao}{a:DAd}{lo po:Obj}{k:Int}{v:Vec}{y3 y4 y5 L D:Nat}{τ:List Value}{p:Int×Int}{done:List (Int×Int)}{mm:Mem}{A6:Option Addr}{n6 c6:Nat}{x7:Int}(hj:JU d0 a lo po k y3 y4 y5 v done mm)
  (hl:(ah d0.links k).isSome=true)(hk:p∈am a.pk)(hkk:am a.pk=am d0.pre)(hbd:done.length≤1000000)(u:Nat→Value):
  Wp Tryz.prog {fn:=333,rd:=some L} sp (jo y3 y4 A6 n6 c6 x7 (some ⟨(ah a.pk p).getD 0,0,none⟩) u) I ((L,.loop (OM τ D))::mm)
   (cl_ fun v' m'=>v'= .bool true∧ ∃m2,m'=(L,.loop (OM τ D))::m2∧JU d0 a lo po k y3 y4 y5 v (done++[p]) m2):=by
 obtain⟨d1,ls,m,hf,hd,rfl⟩:=hj
 have hpre:d1.pre=d0.pre:=(H0 hf).1
 obtain⟨l,hl1⟩:=Option.isSome_iff_exists.1 ((H0 hf).2.2.trans hl)
 obtain⟨x,hx⟩:=Option.isSome_iff_exists.1 (aO.2 (hkk▸hk))
 rw[←hpre]at hx
 obtain⟨bx,hbx⟩:=hd.ptr hx
 rw[hbx]
 obtain⟨A0,r0,o0,ro0,oo0,mo0,mz0,hp0,hrep0,hopn0,hown0,hput0⟩:=hd.kn hx hbx
 have hmx:(bx,Obj.cells (knC x A0 r0 o0) 407 (0,0))∈m:=hp0.mem_iff.2 mq0
 refine AJ _ _ _ _ _ _ _ _ ?_
 refine aj fun _ hl2=>?_
 refine Wp.beginRound (l:=L) (i:=0) (r:=OM τ D) rfl rfl rfl ?_
 refine Bj _ _ _ _ _ _ _ _ ?_
 show holds _ _ _ _ _ ((L,.loop {OM τ D with state:= .busy})::(y3,.cells #[ptV a.b] 160 (0,0))::(y4,.cells #[.int .i64 k] 3 (0,0))::(y5,.cells ⟨v.C⟩ 167 (0,0))::m)
 refine dH ?_;dsimp only[ag]
 refine laG (b:=bx) (off:=4) x.told.v.C (ag [{i:=x.told.v.b},{i:=x.told.v.d},{i:=x.told.v.p}]) (by repeat (first|exact hmx|exact List.mem_append_left _ (hmx)|apply mq1|apply mq2)) rfl kE rfl ?_
 dsimp only[ag]
 refine aA (v:= .bool (gd x.told.v)) (fun _=>{b:=gd x.told.v}) gc (fun hl=>lI) rfl ?_
 dsimp only
 refine ay (fun t=>?_) (fun t=>?_)
 ·refine ldP mE rE kE ?_;dsimp only[ag];refine ldI mE rE kE ?_;dsimp only[ag];refine dH ?_;dsimp only[ag]
  refine laG (b:=bx) (off:=0) (pfC x.p) (ag [{i:=x.p.1},{i:=x.p.2}]) (by repeat (first|exact hmx|exact List.mem_append_left _ (hmx)|apply mq1|apply mq2)) rfl kE rfl ?_
  dsimp only[ag]
  refine dH ?_;dsimp only[ag]
  refine laG (b:=bx) (off:=4) x.told.C (ag [{i:=x.told.v.b},{i:=x.told.v.d},{i:=x.told.v.p},{i:=x.told.tag},{i:=x.told.next}]) (by repeat (first|exact hmx|exact List.mem_append_left _ (hmx)|apply mq1|apply mq2)) rfl kE rfl ?_
  dsimp only[ag]
  have hlen:=ld.len (n:=1) (fun _ _ _ _ h=>PT h) hf
  refine ak m _ iD qE (fun hl3=>Cv hd hl1 (by omega)) ?_
  rintro w m2 ⟨rfl,hd2⟩
  refine⟨fun _=>{i:=(aW l).sent},rfl,?_⟩
  refine aj fun _ _=>?_
  refine Wp.roundQ rfl rfl rfl (h1:=(y3,.cells #[ptV a.b] 160 (0,0))::(y4,.cells #[.int .i64 k] 3 (0,0))::([(y5,.cells ⟨v.C⟩ 167 (0,0))]++m2)) pE (List.Perm.refl _) ⟨_,_,m2,hf.snoc ⟨x,hx,?_⟩,hd2,rfl⟩
  rw[if_pos t]
  exact⟨l,hl1,rfl,rfl⟩
 ·refine aj fun _ _=>?_
  refine Wp.roundQ rfl rfl rfl (h1:=(y3,.cells #[ptV a.b] 160 (0,0))::(y4,.cells #[.int .i64 k] 3 (0,0))::([(y5,.cells ⟨v.C⟩ 167 (0,0))]++m)) pE (List.Perm.refl _) ⟨d1,ls++[],m,hf.snoc ⟨x,hx,?_⟩,by rwa[List.append_nil],rfl⟩
  rw[if_neg (by rw[t];simp)]
  exact⟨rfl,rfl⟩
theorem QT{y3 y4 b:Nat}{v:Value}{A6:Option Addr}{n6 c6:Nat}{x7:Int}(u:Nat→Value):
  ((#[39]:Array Tmp).zip ⟨[ptV b]⟩).foldl (fun tmps (t,a)=>tmps.setIfInBounds t a) (⟨gI y3 y4 v A6 n6 c6 x7 u⟩:Array Value)=⟨jo y3 y4 A6 n6 c6 x7 (some ⟨b,0,none⟩) (fun i=>if i=38 then v else u i)⟩:=by
 simp[gI,jo]
theorem OY{I:Ctx}{d0:ao}{a:DAd}{lo po:Obj}{k:Int}{v:Vec}{y3 y4 y5 g:Nat}{mm h:Mem}{R:ao→List Ltr→Prop}(hj:JU d0 a lo po k y3 y4 y5 v [] mm)(hl:(ah d0.links k).isSome=true)(hkk:am a.pk=am d0.pre)(hbd:d0.pre.length≤1000000)
  (hR: ∀ps d' ls,ps.Perm (am d0.pre)→ld (wi k) ps d0 d' ls→R d' ls)(hp:h.Perm (mm++[(g,.cells #[ptV a.b] 160 (0,0))]))(u:Nat→Value):
  Wp Tryz.prog 333 mc (gI y3 y4 (.func (.func 288) #[] #[ptV g]) none 0 0 0 u) I h (cl_ (tQ R a.b)):=by
 have hpo:ky BR ptV a.pk po:=by
  obtain⟨_,_,_,_,⟨_,_,_,_,_,_,_,_,h1,_⟩,_⟩:=hj
  exact h1
 have hpl:a.pk.length=d0.pre.length:=by have:=congrArg List.length hkk;rwa[am,am,List.length_map,List.length_map]at this
 rw[show mc= .code (.rangeFunc (.tmp 38) #[39] raU rbU)::sg by kernel_rfl]
 refine Wp.rangeIter (S:=AtP a po) (args:=fun k=>[ptV ((ah a.pk k).getD 0)]) (keys:=am a.pk) (caps:=[ptV g]) rfl rfl fL mm [(g,.cells #[ptV a.b] 160 (0,0))] hp (fun hl=>BC (u5 hl hp _ mq0) hpo (by omega))
  (fun done m=>JU d0 a lo po k y3 y4 y5 v done m) hj (fun k=>rfl) ?_ ?_ ?_
 ·rintro done m I' ⟨d1,ls,m2,_,hd,rfl⟩ hI' m' hm'
  obtain⟨h1,_,h2⟩:=hd.at I'
  have hs: ∀x∈m2,x∈m':=fun x hx=>hm' _ (mq1 (mq1 (mq1 hx)))
  exact⟨h1.mono hs (fun _ _ h=>h),h2.mono hs⟩
 ·intro L D done k rest m hper hj I' hI'
  have hlen:=hper.length_eq
  rw[QT]
  exact bU.of (N5 hj hl (hper.mem_iff.1 (by simp)) hkk (by simp[am]at hlen;omega) _)
 ·rintro L D ks m hper ⟨d1,ls,m2,hf,hd,rfl⟩
  refine Bl y3 (fun i=>(gI y3 y4 (.func (.func 288) #[] #[ptV g]) none 0 0 0 u).getD i undef) ?_
  simp only[List.cons_append]
  refine ldP mE rE kE ?_;dsimp only[ag]
  refine ak m2 _ ec qE (fun hl=>qH hd) ?_
  rintro r m4 ⟨m5,m6,rfl,hd4,A2,c2,rfl,ho2⟩
  refine⟨fun _=>{A:=A2,n:=ls.length,c:=c2},rfl,?_⟩
  refine aj fun _ hl=>?_
  rw[show sn= .code .ret::[] by kernel_rfl]
  refine Wp.retDP (D:=D) rfl rfl (.inr ⟨_,rfl⟩) Tryz.func333 pE ?_
  refine Rb (t1:=6) (t2:=7) rfl rfl rfl ?_
  exact⟨m5++m6,_,List.perm_middle.symm,d1,ls,0,_,m5,m6,rfl,hR ks d1 ls (hkk▸hper) hf,rfl,⟨_,_,_,rfl,hd4⟩,A2,c2,rfl,ho2⟩
theorem QD{I:Ctx}{d:ao}{b:Nat}{m:Mem}{k:Int}{v:Vec}(hd:DuB d b m)(hbd:d.pre.length≤1000):
  Fn Tryz.prog 333 #[ptV b,.int .i64 k,v.V] I m (tQ (UpR k v d) b):=by
 have hd0:=hd
 obtain⟨a,lo,po,rfl,hd⟩:=hd
 have bad: ∀e,UpR k v d d []→ ∀h gg,aM h m gg→holds Tryz.prog 333 I (cl_ (tQ (UpR k v d) a.b)) (.done (.tuple #[.slice none 0 0,.int .i64 e])) h:=
  fun e he h gg hp=>dl hp (h2:=m) (List.Perm.refl _) ⟨d,[],e,_,m,[],rfl,he,by simp,hd0,none,0,rfl,Own.nil _ _⟩
 have hlkn:(ah a.lk k).isNone=(ah d.links k).isNone:=by
  obtain⟨_,_,_,_,_,_,_,h2,_⟩:=hd
  exact h2.isNone
 have hdd:=hd
 obtain⟨A,c,ml,mp,mo,rfl,h1,h2,h3,h4,h5⟩:=hd
 refine Dt _ _ _ _ _ ?_
 refine aP fun y3 _ _=>?_
 refine aP fun y4 _ _=>?_
 refine aP fun y5 _ _=>?_
 refine ldI mE rE kE ?_;dsimp only[ag]
 refine ay (fun t1=>?_) (fun t1=>?_)
 ·exact bad 1 (by unfold UpR;rw[if_pos (.inl (by simpa using t1))];exact⟨rfl,rfl⟩) _ _ pE
 refine ldI mE rE kE ?_;dsimp only[ag]
 refine ay (fun t2=>?_) (fun t2=>?_)
 ·exact bad 1 (by unfold UpR;rw[if_pos (.inr (.inl (by simpa using t2)))];exact⟨rfl,rfl⟩) _ _ pE
 refine ldP mE rE kE ?_;dsimp only[ag];refine dH ?_;dsimp only[ag];refine ldM mE rE kE ?_;dsimp only[ag];refine ldI mE rE kE ?_;dsimp only[ag]
 refine dZ E1 rfl kZ (.inl mE) h1 (x:=k) (ok:=false) (fun _=>{A:=(ah a.lk k).map fun b=>⟨b,0,none⟩}) (by cases ah a.lk k<;>rfl) ?_
 dsimp only
 refine zZ kE ?_;dsimp only[ag]
 cases hlk:ah d.links k with
 |some l=>
  rw[hlk]at hlkn
  cases hal:ah a.lk k with
  |none=>rw[hal]at hlkn;cases hlkn
  |some bl=>
   refine aX rfl ?_
   exact bad 1 (by unfold UpR;rw[if_pos (.inr (.inr (.inl (by rw[hlk];simp))))];exact⟨rfl,rfl⟩) _ _ pE
 |none=>
  have hal:ah a.lk k=none:=by rw[hlk]at hlkn;simpa using hlkn
  rw[hal]
  refine b7 rfl ?_
  refine la4 mE rE kE ?_;dsimp only[ag]
  refine aA (v:= .bool (lO v)) (fun _=>{b:=lO v}) rz (fun hl=>Co) rfl ?_
  dsimp only
  refine ay (fun t3=>?_) (fun t3=>?_)
  ·exact bad 1 (by unfold UpR;rw[if_pos (.inr (.inr (.inr (by simpa using t3))))];exact⟨rfl,rfl⟩) _ _ pE
  have hc: ¬(k<1∨k>32∨ah d.links k≠none∨lO v=false):=by
   rintro(h|h|h|h)
   ·exact(by simpa using t1: ¬k<1) h
   ·exact(by simpa using t2: ¬k>32) h
   ·exact h hlk
   ·rw[h]at t3;cases t3
  refine ldP mE rE kE ?_;dsimp only[ag]
  refine dH ?_;dsimp only[ag]
  refine ldM mE rE kE ?_;dsimp only[ag]
  refine ldI mE rE kE ?_;dsimp only[ag]
  refine la4 mE rE kE ?_;dsimp only[ag]
  refine aP fun bl _ _=>?_
  refine uw (cl_.aff _) E1 rfl (aM.perm1 pE) h1 (x:=k) bl rfl fun o' ho'=>?_
  refine ldP mE rE kE ?_;dsimp only[ag]
  refine ak [] _ jn (List.Perm.refl _) (fun hl=>BD) ?_
  rintro w hg ⟨g,rfl,rfl⟩
  refine⟨fun _=>{v:= .func (.func 288) #[] #[ptV g]},rfl,?_⟩
  refine aj fun _ hl=>?_
  refine OY (y5:=y5) (v:=v) (d0:={d with links:=aL d.links k ⟨v,0,0⟩}) (a:={a with lk:=aL a.lk k _}) (lo:=o') (po:=po) (mm:=(_,.cells #[ptV a.b] 160 (0,0))::(_,.cells #[.int .i64 k] 3 (0,0))::(_,.cells ⟨v.C⟩ 167 (0,0))::(a.b,.cells (duC d a A 0 c) 204 (0,0))::(a.L,o')::(a.P,po)::((ml++_)++(mp++mo))) ⟨_,[],_,⟨rfl,rfl⟩,⟨A,c,_,mp,mo,rfl,ho',h2.put hlk rfl,h3,h4,h5⟩,rfl⟩ ?_ ?_ ?_ ?_ ?_ _
  ·show(ah (aL _ _ _) k).isSome=true
   rw[aJ,if_pos rfl];rfl
  ·exact h4.keys
  ·show d.pre.length≤_;omega
  ·intro ps d' ls hps hf
   unfold UpR
   rw[if_neg hc]
   exact⟨ps,hps,hf⟩
  ·exact(aM.perm (m:=(y3,.cells #[ptV a.b] 160 (0,0))::(y4,.cells #[.int .i64 k] 3 (0,0))::(y5,.cells ⟨v.C⟩ 167 (0,0))::(a.b,.cells (duC d a A 0 c) 204 (0,0))::(a.L,o')::(a.P,po)::(ml++([(bl,.cells #[.int .i64 v.b,.int .i64 v.d,.int .i64 v.p,.int .u32 0,.int .u32 0] 417 (0,0))]++(mp++(mo++[(g,.cells #[ptV a.b] 160 (0,0))]))))) (g:=[]) pE).trans (by rw[List.append_nil];exact cE)
theorem Dl{p:Int×Int}{d d':ao}{ls:List Ltr}(h:ju p d d' ls):am d'.pre=am d.pre∧am d'.links=am d.links∧d'.dom=d.dom∧d'.most=d.most∧ls.length≤d.links.length:=by
 obtain⟨x,r,hx,hr,⟨_,rfl,rfl⟩|⟨_,ks,hks,rfl,rfl⟩⟩:=h
 ·exact⟨rfl,rfl,rfl,rfl,Nat.zero_le _⟩
 ·refine⟨?_,by simp[am,mpv],rfl,rfl,?_⟩
  ·show am (aL _ _ _)=_
   rw[gL,if_pos (aO.1 (by rw[hx];rfl))]
  ·have:=hks.length_eq
   simp[g9,am]at this⊢
   omega
theorem LT{k:Int}{p:Int×Int}{d d':ao}{ls:List Ltr}(h:ln k p d d' ls):am d'.pre=am d.pre∧am d'.links=am d.links∧ls.length≤d.links.length:=by
 obtain⟨x,hx,h⟩:=h
 obtain⟨h1,h2,_,_,h3⟩:=Dl h
 refine⟨h1.trans ?_,h2,h3⟩
 show am (aL _ _ _)=_
 rw[gL,if_pos (aO.1 (by rw[hx];rfl))]
theorem yF{k:Int}: ∀{ps:List (Int×Int)} {d d':ao} {ls:List Ltr},ld (ln k) ps d d' ls→am d'.pre=am d.pre∧am d'.links=am d.links∧ls.length≤ps.length*d.links.length
 |[],_,_,_,⟨e,e2⟩=>by subst e;subst e2;exact⟨rfl,rfl,by simp⟩
 |p::ps,d,_,_,⟨d1,l1,l2,h1,h2,e⟩=>by
  subst e
  obtain⟨a1,a2,a3⟩:=LT h1
  obtain⟨b1,b2,b3⟩:=yF h2
  have:d1.links.length=d.links.length:=by have:=congrArg List.length a2;simpa[am]using this
  rw[this]at b3
  refine⟨b1.trans a1,b2.trans a2,?_⟩
  rw[List.length_append,List.length_cons,Nat.add_mul]
  omega
def JD(d0:ao)(a:DAd)(lo po:Obj)(k:Int)(y2 y3:Nat)(done:List (Int×Int))(mm:Mem):Prop:= ∃d1 ls m,ld (ln k) done d0 d1 ls∧DuX d1 ls a lo po m∧
 mm=(y2,.cells #[ptV a.b] 160 (0,0))::(y3,.cells #[.int .i64 k] 3 (0,0))::m
noncomputable abbrev raD:Code:=ra (bd (sr (sl (sr (sr (sr bR))))))
noncomputable abbrev rbD:Code:=rb (bd (sr (sl (sr (sr (sr bR))))))
noncomputable abbrev Ge(τ:List Value)(D:Nat):Loop:=kH 328 τ #[20] raD rbD D
theorem KQ{I:Ctx}{d0:ao}{a:DAd}{lo po:Obj}{k:Int}{y2 y3 L D:Nat}{τ:List Value}{p:Int×Int}{done:List (Int×Int)}{mm:Mem}{A4:Option Addr}{n4 c4:Nat}(hj:JD d0 a lo po k y2 y3 done mm)
  (hk:p∈am a.pk)(hkk:am a.pk=am d0.pre)(hbd:done.length≤100)(hbl:d0.links.length≤1000)(u:Nat→Value):
  Wp Tryz.prog {fn:=328,rd:=some L} pz (gQ y2 y3 A4 n4 c4 (some ⟨(ah a.pk p).getD 0,0,none⟩) u) I ((L,.loop (Ge τ D))::mm)
   (cl_ fun v' m'=>v'= .bool true∧ ∃m2,m'=(L,.loop (Ge τ D))::m2∧JD d0 a lo po k y2 y3 (done++[p]) m2):=by
 obtain⟨d1,ls,m,hf,hd,rfl⟩:=hj
 obtain⟨f1,f2,f3⟩:=yF hf
 have hll:d1.links.length=d0.links.length:=by simpa[am]using congrArg List.length f2
 obtain⟨x,hx⟩:=Option.isSome_iff_exists.1 (aO.2 (f1▸hkk▸hk))
 obtain⟨bx,hbx⟩:=hd.ptr hx
 rw[hbx]
 obtain⟨A0,r0,o0,ro0,oo0,mo0,mz0,hp0,hrep0,hopn0,hown0,hput0⟩:=hd.kn hx hbx
 refine yw _ _ _ _ _ _ _ ?_
 refine aj fun _ hl2=>?_
 refine Wp.beginRound (l:=L) (i:=0) (r:=Ge τ D) rfl rfl rfl ?_
 refine xy _ _ _ _ _ _ _ ?_
 show holds _ _ _ _ _ ((L,.loop {Ge τ D with state:= .busy})::(y2,.cells #[ptV a.b] 160 (0,0))::(y3,.cells #[.int .i64 k] 3 (0,0))::m)
 refine aN (cl_.aff _) (g:=(L,.loop {Ge τ D with state:= .busy})::(y2,.cells #[ptV a.b] 160 (0,0))::(y3,.cells #[.int .i64 k] 3 (0,0))::(bx,.cells (knC x A0 r0 o0) 407 (0,0))::(r0,ro0)::(o0,oo0)::(mo0++mz0)) (aD fun D_ a_=>by have e0_:=List.Perm.count_eq (hp0) a_;simp only[Value.cells,List.count_append,List.count_cons,List.count_nil,List.nil_append,List.cons_append,List.append_nil,List.append_assoc]at e0_;simp only[Value.cells,List.count_append,List.count_cons,List.count_nil,List.nil_append,List.cons_append,List.append_nil,List.append_assoc]<;>omega) ?_
 refine dH ?_;dsimp only[ag];refine ldM mE rE kE ?_;dsimp only[ag];refine ldI mE rE kE ?_;dsimp only[ag]
 refine C3 (cl_.aff _) E1 rfl (aM.perm1 pE) hrep0 (x:=k) fun o' ho'=>?_
 refine ldI mE rE kE ?_;dsimp only[ag]
 refine ak ((bx,.cells (knC {x with rep:=dq x.rep k} A0 r0 o0) 407 (0,0))::(r0,o')::(o0,oo0)::mo0) (mz0++([(L,.loop {Ge τ D with state:= .busy})]++([(y2,.cells #[ptV a.b] 160 (0,0))]++[(y3,.cells #[.int .i64 k] 3 (0,0))]))) ou ?_ (fun hl3=>Eg (x:={x with rep:=dq x.rep k}) (k:=k) ⟨A0,r0,o0,o',oo0,mo0,rfl,ho',hopn0,hown0⟩) ?_
 ·exact(aM.perm (m:=(bx,.cells (knC {x with rep:=dq x.rep k} A0 r0 o0) 407 (0,0))::([(r0,o')]++((o0,oo0)::(mo0++(mz0++([(L,.loop {Ge τ D with state:= .busy})]++([(y2,.cells #[ptV a.b] 160 (0,0))]++[(y3,.cells #[.int .i64 k] 3 (0,0))]))))))) (g:=[]) pE).trans (by rw[List.append_nil];exact cE)
 rintro v m1 ⟨rfl,hkn⟩
 obtain⟨m',hm',hdx⟩:=hput0 (gi {x with rep:=dq x.rep k} k) m1 hkn
 refine⟨fun _=>{v:=undef},rfl,?_⟩
 dsimp only
 refine aN (cl_.aff _) (g:=(L,.loop {Ge τ D with state:= .busy})::(y2,.cells #[ptV a.b] 160 (0,0))::(y3,.cells #[.int .i64 k] 3 (0,0))::m') (aD fun D_ a_=>by have e0_:=List.Perm.count_eq (hm') a_;simp only[Value.cells,List.count_append,List.count_cons,List.count_nil,List.nil_append,List.cons_append,List.append_nil,List.append_assoc]at e0_;simp only[Value.cells,List.count_append,List.count_cons,List.count_nil,List.nil_append,List.cons_append,List.append_nil,List.append_assoc]<;>omega) ?_
 refine ldP mE rE kE ?_;dsimp only[ag]
 have hx1:ah ({d1 with pre:=aL d1.pre p (gi {x with rep:=dq x.rep k} k)}:ao).pre p=some (gi {x with rep:=dq x.rep k} k):=by
  show ah (aL _ _ _) p=_
  rw[aJ,if_pos rfl]
 have hb3:ls.length≤100*1000:=Nat.le_trans f3 (Nat.mul_le_mul hbd hbl)
 refine ak m' _ gm qE (fun hl3=>rx (p:=p) hdx hx1 hbx (by show ls.length+d1.links.length≤_;omega)) ?_
 rintro v m2 ⟨rfl,d2,ls2,hset,hd2⟩
 refine⟨fun _=>{v:=undef},rfl,?_⟩
 refine aj fun _ _=>?_
 refine Wp.roundQ rfl rfl rfl (h1:=(y2,.cells #[ptV a.b] 160 (0,0))::([(y3,.cells #[.int .i64 k] 3 (0,0))]++m2)) pE (List.Perm.refl _) ⟨_,_,m2,hf.snoc ⟨x,hx,hset⟩,hd2,rfl⟩
theorem Nu{y3 y4 b:Nat}{v:Value}{A6:Option Addr}{n6 c6:Nat}(u:Nat→Value):
  ((#[20]:Array Tmp).zip ⟨[ptV b]⟩).foldl (fun tmps (t,a)=>tmps.setIfInBounds t a) (⟨fc y3 y4 v A6 n6 c6 u⟩:Array Value)=⟨gQ y3 y4 A6 n6 c6 (some ⟨b,0,none⟩) (fun i=>if i=19 then v else u i)⟩:=by
 simp[fc,gQ]
abbrev Fj(R:ao→List Ltr→Prop)(b:Nat)(r:Value)(h':Mem):Prop:= ∃d' ls m1 m2,R d' ls∧h'=m1++m2∧DuB d' b m1∧nH ls r m2
theorem Ke{I:Ctx}{d0:ao}{a:DAd}{lo po:Obj}{k:Int}{y2 y3 g:Nat}{mm h:Mem}{R:ao→List Ltr→Prop}(hj:JD d0 a lo po k y2 y3 [] mm)(hkk:am a.pk=am d0.pre)(hbd:d0.pre.length≤100)(hbl:d0.links.length≤1000)
  (hR: ∀ps d' ls,ps.Perm (am d0.pre)→ld (ln k) ps d0 d' ls→R d' ls)(hp:h.Perm (mm++[(g,.cells #[ptV a.b] 160 (0,0))]))(u:Nat→Value):
  Wp Tryz.prog 328 j8 (fc y2 y3 (.func (.func 288) #[] #[ptV g]) none 0 0 u) I h (cl_ (Fj R a.b)):=by
 have hpo:ky BR ptV a.pk po:=by
  obtain⟨_,_,_,_,⟨_,_,_,_,_,_,_,_,h1,_⟩,_⟩:=hj
  exact h1
 have hpl:a.pk.length=d0.pre.length:=by have:=congrArg List.length hkk;rwa[am,am,List.length_map,List.length_map]at this
 rw[show j8= .code (.rangeFunc (.tmp 19) #[20] raD rbD)::pj by kernel_rfl]
 refine Wp.rangeIter (S:=AtP a po) (args:=fun k=>[ptV ((ah a.pk k).getD 0)]) (keys:=am a.pk) (caps:=[ptV g]) rfl rfl fL mm [(g,.cells #[ptV a.b] 160 (0,0))] hp (fun hl=>BC (u5 hl hp _ mq0) hpo (by omega))
  (fun done m=>JD d0 a lo po k y2 y3 done m) hj (fun k=>rfl) ?_ ?_ ?_
 ·rintro done m I' ⟨d1,ls,m2,_,hd,rfl⟩ hI' m' hm'
  obtain⟨h1,_,h2⟩:=hd.at I'
  have hs: ∀x∈m2,x∈m':=fun x hx=>hm' _ (mq1 (mq1 hx))
  exact⟨h1.mono hs (fun _ _ h=>h),h2.mono hs⟩
 ·intro L D done k rest m hper hj I' hI'
  have hlen:=hper.length_eq
  rw[Nu]
  exact bU.of (KQ hj (hper.mem_iff.1 (by simp)) hkk (by simp[am]at hlen;omega) hbl _)
 ·rintro L D ks m hper ⟨d1,ls,m2,hf,hd,rfl⟩
  refine xG y2 (fun i=>(fc y2 y3 (.func (.func 288) #[] #[ptV g]) none 0 0 u).getD i undef) ?_
  simp only[List.cons_append]
  refine ldP mE rE kE ?_;dsimp only[ag]
  refine ak m2 _ ec qE (fun hl=>qH hd) ?_
  rintro r m4 ⟨m5,m6,rfl,hd4,A2,c2,rfl,ho2⟩
  refine⟨fun _=>{A:=A2,n:=ls.length,c:=c2},rfl,?_⟩
  refine aj fun _ hl=>?_
  rw[show pe= .code .ret::[] by kernel_rfl]
  refine Wp.retDP (D:=D) rfl rfl (.inr ⟨_,rfl⟩) Tryz.func328 pE ?_
  refine zL (t:=4) rfl rfl ?_
  exact⟨m5++m6,_,List.perm_middle.symm,d1,ls,m5,m6,hR ks d1 ls (hkk▸hper) hf,rfl,⟨_,_,_,rfl,hd4⟩,A2,c2,rfl,ho2⟩
theorem L3{I:Ctx}{d:ao}{b:Nat}{m:Mem}{k:Int}(hd:DuB d b m)(hbd:d.pre.length≤100)(hbl:d.links.length≤1000):
  Fn Tryz.prog 328 #[ptV b,.int .i64 k] I m (Fj (DK k d) b):=by
 have hd0:=hd
 obtain⟨a,lo,po,rfl,hd⟩:=hd
 have hlkn:(ah a.lk k).isNone=(ah d.links k).isNone:=by
  obtain⟨_,_,_,_,_,_,_,h2,_⟩:=hd
  exact h2.isNone
 obtain⟨A,c,ml,mp,mo,rfl,h1,h2,h3,h4,h5⟩:=hd
 refine AB _ _ ?_
 refine aP fun y2 _ _=>?_
 refine aP fun y3 _ _=>?_
 refine ldP mE rE kE ?_;dsimp only[ag];refine dH ?_;dsimp only[ag];refine ldM mE rE kE ?_;dsimp only[ag];refine ldI mE rE kE ?_;dsimp only[ag]
 refine dZ E1 rfl kZ (.inl mE) h1 (x:=k) (ok:=false) (fun _=>{A:=(ah a.lk k).map fun b=>⟨b,0,none⟩}) (by cases ah a.lk k<;>rfl) ?_
 dsimp only
 refine kb kE ?_;dsimp only[ag]
 cases hlk:ah d.links k with
 |none=>
  have hal:ah a.lk k=none:=by rw[hlk]at hlkn;simpa using hlkn
  rw[hal]
  refine aX rfl ?_
  refine dl (h1:=(a.b,.cells (duC d a A 0 c) 204 (0,0))::(a.L,lo)::(a.P,po)::(ml++(mp++mo))) pE (List.Perm.refl _) ⟨d,[],_,[],?_,(List.append_nil _).symm,hd0,none,0,rfl,Own.nil _ _⟩
  unfold DK;rw[if_pos hlk];exact⟨rfl,rfl⟩
 |some l=>
  rw[hlk]at hlkn
  cases hal:ah a.lk k with
  |none=>rw[hal]at hlkn;cases hlkn
  |some bl=>
   refine b7 rfl ?_
   refine ldP mE rE kE ?_;dsimp only[ag];refine dH ?_;dsimp only[ag];refine ldM mE rE kE ?_;dsimp only[ag];refine ldI mE rE kE ?_;dsimp only[ag]
   refine C3 (cl_.aff _) E1 rfl (aM.perm1 pE) h1 (x:=k) fun o' ho'=>?_
   refine ldP mE rE kE ?_;dsimp only[ag]
   refine ak [] _ jn (List.Perm.refl _) (fun hl=>BD) ?_
   rintro w hg ⟨g,rfl,rfl⟩
   refine⟨fun _=>{v:= .func (.func 288) #[] #[ptV g]},rfl,?_⟩
   refine aj fun _ hl=>?_
   obtain⟨mx,ml',hpx,hml'⟩:=h2.del (k:=k)
   have hll:=LO (l:=d.links) (k:=k)
   have hR: ∀ps d' ls,ps.Perm (am ({d with links:=dq d.links k}:ao).pre)→ld (ln k) ps {d with links:=dq d.links k} d' ls→DK k d d' ls:=by
    intro ps d' ls hps hf
    unfold DK
    rw[if_neg (by rw[hlk];simp)]
    exact⟨ps,hps,hf⟩
   refine Wp.perm (Wp.drop (g:=mx) (Ke (d0:={d with links:=dq d.links k}) (a:={a with lk:=dq a.lk k}) (lo:=o') (po:=po) (g:=g) (mm:=(y2,.cells #[ptV a.b] 160 (0,0))::(y3,.cells #[.int .i64 k] 3 (0,0))::(a.b,.cells (duC d a A 0 c) 204 (0,0))::(a.L,o')::(a.P,po)::(ml'++(mp++mo))) ⟨_,[],_,⟨rfl,rfl⟩,⟨A,c,_,mp,mo,rfl,ho',hml',h3,h4,h5⟩,rfl⟩ h4.keys hbd (by show(dq _ _).length≤_;omega) hR (List.Perm.refl _) _)) ?_
   exact(aM.perm (m:=(y2,.cells #[ptV a.b] 160 (0,0))::(y3,.cells #[.int .i64 k] 3 (0,0))::(a.b,.cells (duC d a A 0 c) 204 (0,0))::(a.L,o')::(a.P,po)::(ml++(mp++(mo++[(g,.cells #[ptV a.b] 160 (0,0))])))) (g:=[]) pE).trans (by rw[List.append_nil];exact(aD fun D_ a_=>by have e0_:=List.Perm.count_eq (hpx) a_;simp only[Value.cells,List.count_append,List.count_cons,List.count_nil,List.nil_append,List.cons_append,List.append_nil,List.append_assoc]at e0_;simp only[Value.cells,List.count_append,List.count_cons,List.count_nil,List.nil_append,List.cons_append,List.append_nil,List.append_assoc]<;>omega))|>.symm
end Go.Proofs.YtadanegddceleaaGreatS
