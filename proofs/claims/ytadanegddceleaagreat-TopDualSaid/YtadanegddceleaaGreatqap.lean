import Derived.Test.YtadanegddceleaaGreatqam
import Derived.Test.YtadanegddceleaaGreatqao
set_option linter.unusedSimpArgs false
set_option linter.unusedVariables false
set_option maxRecDepth 20000
namespace Go.Proofs.YtadanegddceleaaGreatS
abbrev nH(out:List Ltr)(v:Value)(m:Mem):Prop:= ∃A c,v= .slice A out.length c∧Own 171 10 A out.length c (out.flatMap Ltr.C) m
theorem qH{I:Ctx}{d:ao}{out:List Ltr}{a:DAd}{lo po:Obj}{m:Mem}(hd:DuX d out a lo po m):
  Fn Tryz.prog 336 #[ptV a.b] I m (fun v h'=> ∃m1 m2,h'=m1++m2∧DuX d [] a lo po m1∧nH out v m2):=by
 obtain⟨A,c,ml,mp,mo,rfl,h1,h2,h3,h4,h5⟩:=hd
 refine Bv _ ?_
 refine ldL mE rE kE ?_;dsimp only[ag];refine stU uE kE rE vE ?_;dsimp only[ag]
 refine dl (h1:=(a.b,.cells (duC d a none 0 0) 204 (0,0))::(a.L,lo)::(a.P,po)::(ml++(mp++mo))) pE (h2:=((a.b,.cells (duC d a none 0 0) 204 (0,0))::(a.L,lo)::(a.P,po)::(ml++(mp++[])))++mo) cE ⟨_,mo,rfl,⟨none,0,ml,mp,[],rfl,h1,h2,h3,h4,Own.nil _ _⟩,A,c,rfl,h5⟩
theorem Cv{I:Ctx}{d:ao}{out:List Ltr}{a:DAd}{lo po:Obj}{m:Mem}{k code ack:Int}{p:Int×Int}{w:Way}{l:Lnk}(hd:DuX d out a lo po m)(hl:ah d.links k=some l)(hbd:out.length≤1000000):
  Fn Tryz.prog 341 #[ptV a.b,.int .i64 k,.int .i64 code,.int .u32 ack,pfV p,w.V] I m (fun v h'=>v= .int .u32 (aW l).sent∧
   DuX {d with links:=aL d.links k (aW l)} (out++[⟨k,code,(aW l).sent,ack,p,w.v,w.tag⟩]) a lo po h'):=by
 obtain⟨A,c,ml,mp,mo,rfl,h1,h2,h3,h4,h5⟩:=hd
 obtain⟨b,m1,mr,hb,hp1,rfl,hput⟩:=h2.get hl
 refine Fn.perm (h:=(a.b,.cells (duC d a A out.length c) 204 (0,0))::(a.L,lo)::(a.P,po)::(b,.cells #[.int .i64 l.v.b,.int .i64 l.v.d,.int .i64 l.v.p,.int .u32 l.sent,.int .u32 l.got] 417 (0,0))::(mo++(mr++mp))) ?_ (aD fun D_ a_=>by have e0_:=List.Perm.count_eq (hp1) a_;simp only[Value.cells,List.count_append,List.count_cons,List.count_nil,List.nil_append,List.cons_append,List.append_nil,List.append_assoc]at e0_;simp only[Value.cells,List.count_append,List.count_cons,List.count_nil,List.nil_append,List.cons_append,List.append_nil,List.append_assoc]<;>omega)
 refine sq _ _ _ _ _ _ _ _ _ _ _ ?_
 refine aP fun _ _ _=>?_;dsimp only[ag];refine aP fun _ _ _=>?_;dsimp only[ag];refine ldM mE rE kE ?_;dsimp only[ag]
 refine dZ E1 rfl kZ (.inl mE) h1 (x:=k) (ok:=false) (fun _=>{A:=some ⟨b,0,none⟩}) (by rw[hb];rfl) ?_
 dsimp only
 refine dH ?_;dsimp only[ag];refine ldI mE rE kE ?_;dsimp only[ag];refine dH ?_;dsimp only[ag];refine stU uE kE rE vE ?_;dsimp only[ag];refine ldL mE rE kE ?_;dsimp only[ag];refine dH ?_;dsimp only[ag];refine ldI mE rE kE ?_;dsimp only[ag];refine lz mE rE kE ?_;dsimp only[ag];refine la4 mE rE kE ?_;dsimp only[ag];refine ldI mE rE kE ?_;dsimp only[ag]
 refine gK (e:=171) ⟨Ltr.C ⟨k,code,(aW l).sent,ack,p,w.v,w.tag⟩⟩ kE fun g hg hI=>?_
 dsimp only
 refine bP (cl_.aff _) GG kE (cs2:=Ltr.C ⟨k,code,(aW l).sent,ack,p,w.v,w.tag⟩) (fun _=>⟨_,rfl,cw mE rfl⟩) (fun h=>by cases h) rfl (by simp) (m:=mo) p1E h5 (by omega) (by omega) ?_
 intro A2 c2 m2 ho2
 refine stU uE kE rE vE ?_;dsimp only[ag];refine dH ?_;dsimp only[ag];refine ldI mE rE kE ?_;dsimp only[ag]
 obtain⟨ml',hml,hml2⟩:=hput (aW l) _ rfl
 refine dl (h1:=(a.b,.cells (duC d a A2 (out.length+1) c2) 204 (0,0))::(a.L,lo)::(a.P,po)::([(b,.cells #[.int .i64 (aW l).v.b,.int .i64 (aW l).v.d,.int .i64 (aW l).v.p,.int .u32 (aW l).sent,.int .u32 (aW l).got] 417 (0,0))]++(mr++(mp++m2)))) pE
  (h2:=(a.b,.cells (duC d a A2 (out.length+1) c2) 204 (0,0))::(a.L,lo)::(a.P,po)::(ml'++(mp++m2))) (aD fun D_ a_=>by have e0_:=List.Perm.count_eq (hml) a_;simp only[Value.cells,List.count_append,List.count_cons,List.count_nil,List.nil_append,List.cons_append,List.append_nil,List.append_assoc]at e0_;simp only[Value.cells,List.count_append,List.count_cons,List.count_nil,List.nil_append,List.cons_append,List.append_nil,List.append_assoc]<;>omega) ⟨rfl,A2,c2,ml',mp,m2,by simp,h1,hml2,h3,h4,?_⟩
 simpa using ho2
theorem Eg{I:Ctx}{x:di}{b:Nat}{m:Mem}{k:Int}(hx:KnM x b m):Fn Tryz.prog 337 #[ptV b,.int .i64 k] I m (fun v h'=>v=undef∧KnM (gi x k) b h'):=by
 obtain⟨A,r,o,ro,oo,mo,rfl,h1,h2,h3⟩:=hx
 refine yo _ _ ?_
 refine ldM mE rE kE ?_;dsimp only[ag]
 refine dZ E1 rfl Gi (.inl mE) h2 (x:=k) (ok:=true) (ag [{i:=(ah x.opn k).getD 0},{b:=(ah x.opn k).isSome}]) (by cases ah x.opn k<;>rfl) ?_
 dsimp only[ag]
 cases ho:ah x.opn k with
 |none=>
  refine aX rfl ?_
  refine aY (g:=[]) (by rw[List.append_nil]) ⟨rfl,?_⟩
  unfold gi
  rw[ho]
  exact⟨A,r,o,ro,oo,mo,rfl,h1,h2,h3⟩
 |some n=>
  refine b7 rfl ?_
  refine ldM mE rE kE ?_;dsimp only[ag]
  refine C3 (cl_.aff _) E1 rfl (hr:=(b,.cells (knC x A r o) 407 (0,0))::(r,ro)::mo) cE h2 fun o' ho'=>?_
  refine ldM mE rE kE ?_;dsimp only[ag]
  refine GT rfl (.inl mE) ho' ?_
  dsimp only
  have hcl:gi x k={x with opn:=dq x.opn k,least:=if(dq x.opn k).length=0 then ofV x.told.v else x.least}:=by unfold gi;rw[ho]
  rw[hcl]
  refine ay (fun t=>?_) (fun t=>?_)
  ·have t:(dq x.opn k).length=0:=by simpa using t
   rw[if_pos t]
   refine la4 mE rE kE ?_;dsimp only[ag]
   refine aA (v:= .int .i64 (ofV x.told.v)) (fun _=>{i:=ofV x.told.v}) iu (fun hl=>wT) rfl ?_
   refine stU uE kE rE vE ?_;dsimp only[ag]
   exact dl (h1:=(b,.cells (knC {x with opn:=dq x.opn k,least:=ofV x.told.v} A r o) 407 (0,0))::(r,ro)::([(o,o')]++mo)) pE (h2:=(b,.cells (knC {x with opn:=dq x.opn k,least:=ofV x.told.v} A r o) 407 (0,0))::(r,ro)::(o,o')::mo) cE
    ⟨rfl,A,r,o,ro,o',mo,rfl,h1,ho',h3⟩
  ·have t: ¬(dq x.opn k).length=0:=by simpa using t
   rw[if_neg t]
   exact dl (h1:=(b,.cells (knC x A r o) 407 (0,0))::(r,ro)::([(o,o')]++mo)) pE (h2:=(b,.cells (knC x A r o) 407 (0,0))::(r,ro)::(o,o')::mo) cE
    ⟨rfl,A,r,o,ro,o',mo,rfl,h1,ho',h3⟩
abbrev ptO(o:Option Nat):Value:= .pointer (o.map fun b=>⟨b,0,none⟩)
theorem DuX.len{d:ao}{out:List Ltr}{a:DAd}{lo po:Obj}{m:Mem}(h:DuX d out a lo po m):a.lk.length=d.links.length∧a.pk.length=d.pre.length:=by
 obtain⟨_,_,e1,e2⟩:=h.nd
 have h1:=congrArg List.length e1
 have h2:=congrArg List.length e2
 rw[am,am,List.length_map,List.length_map]at h1 h2
 exact⟨h1,h2⟩
theorem Mw{I:Ctx}{dom most:Int}:Fn Tryz.prog 77 #[.int .i64 dom,.int .i64 most] I [] (fun v h'=> ∃a,v=ptV a.b∧DuM ⟨dom,if(64:Int)<most then 64 else most,[],[]⟩ [] a h'):=by
 refine Ls _ _ ?_
 refine ip fun L _ _=>?_
 dsimp only
 refine ip fun P _ _=>?_
 dsimp only
 refine aP fun b _ _=>?_
 exact dl (h1:=[(b,.cells #[.int .i64 dom,.int .i64 (if(64:Int)<most then 64 else most),.map (some L),.map (some P),.slice none 0 0] 204 (0,0))]++([(L,.map #[] 0)]++[(P,.map #[] 0)])) pE
  (h2:=(b,.cells #[.int .i64 dom,.int .i64 (if(64:Int)<most then 64 else most),.map (some L),.map (some P),.slice none 0 0] 204 (0,0))::(L,.map #[] 0)::(P,.map #[] 0)::([]++([]++[]))) (List.Perm.refl _)
  ⟨⟨b,L,P,[],[]⟩,rfl,_,_,none,0,[],[],[],rfl,ky.nil _ _,rfl,ky.nil _ _,rfl,Own.nil _ _⟩
theorem IJ{I:Ctx}{d:ao}{out:List Ltr}{a:DAd}{lo po:Obj}{m:Mem}{p:Int×Int}(hd:DuX d out a lo po m):
  Fn Tryz.prog 334 #[ptV a.b,pfV p] I m (fun v h'=> ∃pk' po',v=ptO (ah pk' p)∧DuX (sH d p) out {a with pk:=pk'} lo po' h'):=by
 have hlen:=hd.len
 obtain⟨A,c,ml,mp,mo,rfl,h1,h2,h3,h4,h5⟩:=hd
 refine BX _ _ _ ?_
 refine aP fun _ _ _=>?_;dsimp only[ag];refine ldM mE rE kE ?_;dsimp only[ag];refine lz mE rE kE ?_;dsimp only[ag]
 refine dZ Qd rfl pg (.inl mE) h3 (x:=p) (ok:=false) (fun _=>{A:=(ah a.pk p).map fun b=>⟨b,0,none⟩}) (by cases ah a.pk p<;>rfl) ?_
 dsimp only
 refine kb kE ?_;dsimp only[ag]
 have hn:=h4.isNone (k:=p)
 cases hp:ah d.pre p with
 |some x=>
  have hadd:sH d p=d:=by unfold sH;rw[if_neg (by rw[hp];simp)]
  rw[hp]at hn
  rw[show((ah a.pk p).map fun b=>(⟨b,0,none⟩:Addr)).isNone=false by cases h:ah a.pk p<;>simp[h]at hn⊢]
  refine b7 rfl ?_
  refine dl (h1:=(a.b,.cells (duC d a A out.length c) 204 (0,0))::(a.L,lo)::(a.P,po)::(ml++(mp++mo))) pE (List.Perm.refl _) ⟨a.pk,po,rfl,?_⟩
  rw[hadd]
  exact⟨A,c,ml,mp,mo,rfl,h1,h2,h3,h4,h5⟩
 |none=>
  have hpk:=h4.none hp
  rw[show((ah a.pk p).map fun b=>(⟨b,0,none⟩:Addr)).isNone=true by rw[hpk];rfl]
  refine aX rfl ?_
  refine ldM mE rE kE ?_;dsimp only[ag]
  refine GT rfl (.inl mE) h3 ?_
  dsimp only
  refine ldI mE rE kE ?_;dsimp only[ag]
  rw[hlen.2]
  refine ay (fun t=>?_) (fun t=>?_)
  ·have t:(d.pre.length:Int)<d.most:=by simpa using t
   have hadd:sH d p={d with pre:=aL d.pre p (L8 p)}:=by unfold sH;rw[if_pos ⟨hp,t⟩]
   refine lz mE rE kE ?_;dsimp only[ag]
   refine ip fun r _ _=>?_
   dsimp only
   refine ip fun o _ _=>?_
   dsimp only
   refine aP fun b _ _=>?_
   refine ldM mE rE kE ?_;dsimp only[ag];refine lz mE rE kE ?_;dsimp only[ag]
   refine uw (cl_.aff _) Qd rfl (aM.perm1 pE) h3 (x:=p) b rfl fun o' ho'=>?_
   rw[hadd]
   have hkn:KnM (L8 p) b ((b,.cells (knC (L8 p) none r o) 407 (0,0))::(r,.map #[] 0)::(o,.map #[] 0)::[]):=⟨none,r,o,_,_,[],rfl,ky.nil _ _,ky.nil _ _,rfl,rfl⟩
   refine dl (h1:=(a.b,.cells (duC d a A out.length c) 204 (0,0))::(a.L,lo)::(a.P,o')::(ml++(mp++(mo++([(b,.cells (knC (L8 p) none r o) 407 (0,0))]++([(r,.map #[] 0)]++[(o,.map #[] 0)])))))) pE
    (h2:=(a.b,.cells (duC d a A out.length c) 204 (0,0))::(a.L,lo)::(a.P,o')::(ml++((mp++((b,.cells (knC (L8 p) none r o) 407 (0,0))::(r,.map #[] 0)::(o,.map #[] 0)::[]))++mo))) cE
    ⟨aL a.pk p b,o',by rw[aJ,if_pos rfl];rfl,A,c,ml,_,mo,rfl,h1,h2,ho',h4.put hp hkn,h5⟩
  ·have t: ¬(d.pre.length:Int)<d.most:=by simpa using t
   have hadd:sH d p=d:=by unfold sH;rw[if_neg (fun h=>t h.2)]
   refine dl (h1:=(a.b,.cells (duC d a A out.length c) 204 (0,0))::(a.L,lo)::(a.P,po)::(ml++(mp++mo))) pE (List.Perm.refl _) ⟨a.pk,po,rfl,?_⟩
   rw[hadd]
   exact⟨A,c,ml,mp,mo,rfl,h1,h2,h3,h4,h5⟩
theorem Lw{I:Ctx}{w x:Way}:Fn Tryz.prog 294 #[w.V,x.V] I [] (fun v h'=>(∃b,v= .bool b)∧h'=[]):=by
 refine A9 _ _ _ _ _ _ _ _ _ _ ?_
 refine aP fun _ _ _=>?_;dsimp only[ag];refine aP fun _ _ _=>?_;dsimp only[ag];refine la4 mE rE kE ?_;dsimp only[ag];refine la4 mE rE kE ?_;dsimp only[ag]
 refine aA (fun _=>{b:=Fq w.v x.v}) sy (fun hl=>Da) rfl ?_
 refine ay (fun t=>?_) (fun t=>?_)
 ·exact aC ⟨⟨_,rfl⟩,rfl⟩
 ·refine la4 mE rE kE ?_;dsimp only[ag];refine la4 mE rE kE ?_;dsimp only[ag]
  refine aA (fun _=>{b:=Fq x.v w.v}) sy (fun hl=>Da) rfl ?_
  refine ay (fun t=>?_) (fun t=>?_)
  ·refine ldI mE rE kE ?_;dsimp only[ag];refine ldI mE rE kE ?_;dsimp only[ag]
   exact aC ⟨⟨_,rfl⟩,rfl⟩
  ·exact aC ⟨⟨_,rfl⟩,rfl⟩
abbrev QM(r:Option Way):Value:= .tuple #[(r.getD fe).V,.bool r.isSome]
def JB(d:ao)(out:List Ltr)(a:DAd)(lo po:Obj)(x:di)(below:Int)(bx y4 y5 y6 y7:Nat)(mm:Mem):Prop:= ∃r m,vK d x below r∧DuX d out a lo po m∧
 mm=(y4,.cells #[ptV bx] 398 (0,0))::(y5,.cells #[.int .i64 below] 3 (0,0))::(y6,.cells ⟨(r.getD fe).C⟩ 400 (0,0))::(y7,.cells #[.bool r.isSome] 4 (0,0))::m
noncomputable abbrev Kj(τ:List Value)(D:Nat):Loop:=kH 286 τ #[26,27] (ra (bd (sr (sl (sr (sr a8)))))) (rb (bd (sr (sl (sr (sr a8)))))) D
theorem Kl{I:Ctx}{d:ao}{out:List Ltr}{a:DAd}{lo po:Obj}{p:Int×Int}{x:di}{below:Int}{bx y4 y5 y6 y7 L D:Nat}{τ:List Value}{k:Int}{mm:Mem}(hj:JB d out a lo po x below bx y4 y5 y6 y7 mm)
  (hx:ah d.pre p=some x)(hbx:ah a.pk p=some bx)(hk:k∈am a.lk)(u:Nat→Value):
  Wp Tryz.prog {fn:=286,rd:=some L} pA (gY y4 y5 y6 y7 k (some ⟨(ah a.lk k).getD 0,0,none⟩) u) I ((L,.loop (Kj τ D))::mm)
   (cl_ fun v m'=>v= .bool true∧ ∃m2,m'=(L,.loop (Kj τ D))::m2∧JB d out a lo po x below bx y4 y5 y6 y7 m2):=by
 obtain⟨r,m,hr,hd,rfl⟩:=hj
 obtain⟨A,c,ml,mp,mo,rfl,h1,h2,h3,h4,h5⟩:=hd
 obtain⟨bx',m1,mr,hb1,hp1,hkn,_⟩:=h4.get hx
 obtain rfl:bx'=bx:=by rw[hb1]at hbx;injection hbx
 obtain⟨q,rr,rO,oR,oO,mq,rfl,hrep,hopn,hown⟩:=hkn
 obtain⟨bl,hbl⟩:=Option.isSome_iff_exists.1 (aO.2 hk)
 have hkd:k∈am d.links:=h2.keys▸hk
 obtain⟨l,hl⟩:=Option.isSome_iff_exists.1 (aO.2 hkd)
 obtain⟨bl',m1l,mrl,hb2,hp2,hlk,_⟩:=h2.get hl
 obtain rfl:bl'=bl:=by rw[hb2]at hbl;injection hbl
 obtain rfl:=hlk
 rw[hbl]
 refine yb _ _ _ _ _ _ _ ?_
 refine aj fun _ hl2=>?_
 refine Wp.beginRound (l:=L) (i:=0) (r:=Kj τ D) rfl rfl rfl ?_
 refine Wp.perm (h:=(L,.loop {Kj τ D with state:= .busy})::(y4,.cells #[ptV bx'] 398 (0,0))::(y5,.cells #[.int .i64 below] 3 (0,0))::(y6,.cells ⟨(r.getD fe).C⟩ 400 (0,0))::(y7,.cells #[.bool r.isSome] 4 (0,0))::
  (bx',.cells (knC x q rr rO) 407 (0,0))::(rr,oR)::(bl',.cells #[.int .i64 l.v.b,.int .i64 l.v.d,.int .i64 l.v.p,.int .u32 l.sent,.int .u32 l.got] 417 (0,0))::((rO,oO)::(mq++(mr++(mrl++((a.b,.cells (duC d a A out.length c) 204 (0,0))::(a.L,lo)::(a.P,po)::mo)))))) ?_
   (List.Perm.cons _ (aD fun D_ a_=>by have e0_:=List.Perm.count_eq (hp1) a_;simp only[Value.cells,List.count_append,List.count_cons,List.count_nil,List.nil_append,List.cons_append,List.append_nil,List.append_assoc]at e0_;have e1_:=List.Perm.count_eq (hp2) a_;simp only[Value.cells,List.count_append,List.count_cons,List.count_nil,List.nil_append,List.cons_append,List.append_nil,List.append_assoc]at e1_;simp only[Value.cells,List.count_append,List.count_cons,List.count_nil,List.nil_append,List.cons_append,List.append_nil,List.append_assoc]<;>omega))
 have fin: ∀(r':Option Way),vK d x below r'→ ∀(h:Mem) (g:Mem),aM h ((L,.loop {Kj τ D with state:= .busy})::(y4,.cells #[ptV bx'] 398 (0,0))::(y5,.cells #[.int .i64 below] 3 (0,0))::(y6,.cells ⟨(r'.getD fe).C⟩ 400 (0,0))::(y7,.cells #[.bool r'.isSome] 4 (0,0))::
  (bx',.cells (knC x q rr rO) 407 (0,0))::(rr,oR)::(bl',.cells #[.int .i64 l.v.b,.int .i64 l.v.d,.int .i64 l.v.p,.int .u32 l.sent,.int .u32 l.got] 417 (0,0))::((rO,oO)::(mq++(mr++(mrl++((a.b,.cells (duC d a A out.length c) 204 (0,0))::(a.L,lo)::(a.P,po)::mo)))))) g→
   ∀u,Wp Tryz.prog {fn:=286,rd:=some L} cG (cI y6 y7 k (some ⟨bl',0,none⟩) u) I h (cl_ fun v m'=>v= .bool true∧ ∃m2,m'=(L,.loop (Kj τ D))::m2∧JB d out a lo po x below bx' y4 y5 y6 y7 m2):=by
  intro r' hr' h g hp u
  refine Wp.roundQ rfl rfl rfl hp (h2:=_) ?_ ⟨r',_,hr',⟨A,c,ml,mp,mo,rfl,h1,h2,h3,h4,h5⟩,rfl⟩
  exact(aD fun D_ a_=>by have e0_:=List.Perm.count_eq (hp1) a_;simp only[Value.cells,List.count_append,List.count_cons,List.count_nil,List.nil_append,List.cons_append,List.append_nil,List.append_assoc]at e0_;have e1_:=List.Perm.count_eq (hp2) a_;simp only[Value.cells,List.count_append,List.count_cons,List.count_nil,List.nil_append,List.cons_append,List.append_nil,List.append_assoc]at e1_;simp only[Value.cells,List.count_append,List.count_cons,List.count_nil,List.nil_append,List.cons_append,List.append_nil,List.append_assoc]<;>omega)
 refine yf _ _ _ _ _ _ _ ?_
 refine ldP mE rE kE ?_;dsimp only[ag];refine dH ?_;dsimp only[ag];refine ldM mE rE kE ?_;dsimp only[ag]
 refine dZ E1 rfl JE (.inl mE) hrep (x:=k) (ok:=true) (ag [{i:=((ah x.rep k).getD fe).v.b},{i:=((ah x.rep k).getD fe).v.d},{i:=((ah x.rep k).getD fe).v.p},{i:=((ah x.rep k).getD fe).tag},{i:=((ah x.rep k).getD fe).next},{b:=(ah x.rep k).isSome}]) (by cases ah x.rep k<;>rfl) ?_
 dsimp only[ag]
 refine aP fun _ _ _=>?_;dsimp only[ag];refine stU uE kE rE vE ?_
 cases hrp:ah x.rep k with
 |none=>
  refine aX rfl ?_
  exact aj fun _ _=>fin r hr _ _ pE _
 |some rp=>
  simp only[Option.getD_some,Option.isSome_some]
  refine b7 rfl ?_
  refine la4 mE rE kE ?_;dsimp only[ag];refine ldI mE rE kE ?_;dsimp only[ag]
  refine aA (v:= .int .i64 (ofV rp.v)) (fun _=>{i:=ofV rp.v}) iu (fun hl=>wT) rfl ?_
  refine pn1 mE rE kE ?_;dsimp only[ag]
  refine ay (fun t=>?_) (fun t=>?_)
  ·exact aj fun _ _=>fin r hr _ _ pE _
  ·have t:ofV rp.v<below:=by simpa using t
   refine la4 mE rE kE ?_;dsimp only[ag];refine dH ?_;dsimp only[ag];refine la4 mE rE kE ?_;dsimp only[ag];refine ldI mE rE kE ?_;dsimp only[ag]
   refine aA (v:=(DU rp.v l.v).V) (ag [{i:=(DU rp.v l.v).b},{i:=(DU rp.v l.v).d},{i:=(DU rp.v l.v).p}]) DS (fun hl=>Nq) rfl ?_
   dsimp only[ag]
   refine pn1 mE rE kE ?_;refine aP fun _ _ _=>?_;dsimp only[ag];refine stU uE kE rE vE ?_;refine la4 mE rE kE ?_;dsimp only[ag]
   refine aA (v:= .bool (gd (DU rp.v l.v))) (fun _=>{b:=gd (DU rp.v l.v)}) gc (fun hl=>lI) rfl ?_
   dsimp only
   refine ay (fun t2=>?_) (fun t2=>?_)
   ·have hnew:vK d x below (some ⟨DU rp.v l.v,rp.tag,k⟩):=⟨(fun e=>by cases e),fun w hw=>by injection hw with hw;subst hw;exact .inr ⟨k,l,rp,hl,hrp,t,rfl,t2⟩⟩
    refine ldB mE rE kE ?_;dsimp only[ag]
    refine ay (fun t3=>?_) (fun t3=>?_)
    ·refine la7 mE rE kE ?_;dsimp only[ag];refine stU uE kE rE vE ?_;refine stU uE kE rE vE ?_
     exact aj fun _ _=>fin _ hnew _ _ pE _
    ·refine la7 mE rE kE ?_;dsimp only[ag];refine la7 mE rE kE ?_;dsimp only[ag]
     refine ak [] _ yZ (List.Perm.refl _) (fun hl=>Lw (w:=⟨DU rp.v l.v,rp.tag,k⟩) (x:=r.getD fe)) ?_
     rintro v h1 ⟨⟨b,rfl⟩,rfl⟩
     refine⟨fun _=>{b:=b},rfl,?_⟩
     dsimp only
     refine ay (fun t4=>?_) (fun t4=>?_)
     ·refine la7 mE rE kE ?_;dsimp only[ag];refine stU uE kE rE vE ?_;refine stU uE kE rE vE ?_
      exact aj fun _ _=>fin _ hnew _ _ pE _
     ·exact aj fun _ _=>fin r hr _ _ pE _
   ·exact aj fun _ _=>fin r hr _ _ pE _
theorem OL{P:Program}{I:Ctx}{h:Mem}{fn:Func}{τ:List Value}{a1 a2:Tmp}{t1 t2:TypeId}{b1 b2:Nat}{v1 v2:Value}{Q:Value→Prop}(hr:fn.results.toList=[.cell a1 t1,.cell a2 t2])(h1:τ.getD a1 undef=ptV b1)(h2:τ.getD a2 undef=ptV b2)
  (hv1: ∀R:Value→Prop,R v1→rwp P I h (loadVar t1 ⟨b1,0,none⟩) R)(hv2: ∀R:Value→Prop,R v2→rwp P I h (loadVar t2 ⟨b2,0,none⟩) R)(hq:Q (.tuple #[v1,v2])):rwp P I h (results fn ⟨τ⟩) Q:=by
 refine ve ?_
 rw[hr]
 simp only[List.mapM_cons,List.mapM_nil,wg,cH,u9,h1,h2,asAddr]
 exact hv1 _ (hv2 _ hq)
theorem NC{y4 y5 y6 y7 b:Nat}{v:Value}{k:Int}(u:Nat→Value):
  ((#[26,27]:Array Tmp).zip ⟨[.int .i64 k,ptV b]⟩).foldl (fun tmps (t,a)=>tmps.setIfInBounds t a) (⟨fi y4 y5 y6 y7 v u⟩:Array Value)=⟨gY y4 y5 y6 y7 k (some ⟨b,0,none⟩) (fun i=>if i=25 then v else u i)⟩:=by
 simp[fi,gY]
theorem Lo{I:Ctx}{d:ao}{out:List Ltr}{a:DAd}{lo po:Obj}{p:Int×Int}{x:di}{below:Int}{bx y4 y5 y6 y7 g:Nat}{mm h:Mem}(hj:JB d out a lo po x below bx y4 y5 y6 y7 mm)
  (hx:ah d.pre p=some x)(hbx:ah a.pk p=some bx)(hbd:a.lk.length≤1000000)(hp:h.Perm (mm++[(g,.cells #[ptV a.b] 160 (0,0))]))(u:Nat→Value):
  Wp Tryz.prog 286 j0 (fi y4 y5 y6 y7 (.func (.func 296) #[] #[ptV g]) u) I h
   (cl_ fun v h'=> ∃r,v=QM r∧vK d x below r∧DuX d out a lo po h'):=by
 have hlo:ky yr ptV a.lk lo:=by
  obtain⟨_,_,_,⟨_,_,_,_,_,_,h1,_⟩,_⟩:=hj
  exact h1
 rw[show j0= .code (.rangeFunc (.tmp 25) #[26,27] (ra (bd (sr (sl (sr (sr a8)))))) (rb (bd (sr (sl (sr (sr a8)))))))::pq by kernel_rfl]
 refine Wp.rangeIter (S:=AtL a lo) (args:=fun k=>[.int .i64 k,ptV ((ah a.lk k).getD 0)]) (keys:=am a.lk) (caps:=[ptV g]) rfl rfl ij mm [(g,.cells #[ptV a.b] 160 (0,0))] hp (fun hl=>L9 (u5 hl hp _ mq0) hlo hbd)
  (fun _ m=>JB d out a lo po x below bx y4 y5 y6 y7 m) hj (fun k=>rfl) ?_ ?_ ?_
 ·rintro done m I' ⟨r,m2,_,hd,rfl⟩ hI' m' hm'
  obtain⟨h1,h2,_⟩:=hd.at I'
  have hs: ∀x∈m2,x∈m':=fun x hx=>hm' _ (mq1 (mq1 (mq1 (mq1 hx))))
  exact⟨h1.mono hs (fun _ _ h=>h),h2.mono hs⟩
 ·intro L D done k rest m hper hj I' hI'
  rw[NC]
  exact bU.of (Kl hj hx hbx (hper.mem_iff.1 (by simp)) _)
 ·rintro L D ks m hper ⟨r,m2,hr,hd,rfl⟩
  refine yp y6 y7 (fun i=>(fi y4 y5 y6 y7 (.func (.func 296) #[] #[ptV g]) u).getD i undef) ?_
  refine la7 mE rE kE ?_;dsimp only[ag];refine ldB mE rE kE ?_;dsimp only[ag];refine stU uE kE rE vE ?_;refine pn1 mE rE kE ?_;refine stU uE kE rE vE ?_
  refine aj fun _ hl=>?_
  rw[show ph= .code .ret::[] by kernel_rfl]
  refine Wp.retDP (D:=D) rfl rfl (.inr ⟨_,rfl⟩) Tryz.func286 pE ?_
  refine OL (a1:=6) (a2:=7) (b1:=y6) (b2:=y7) (v1:=(r.getD fe).V) (v2:= .bool r.isSome) rfl rfl rfl (fun R hR=>IF (cs:=(r.getD fe).C) mE rfl kE hR) (fun R hR=>ia kE (EW mE rfl) hR) ?_
  exact⟨m2,_,qE,r,rfl,hr,hd⟩
theorem Ho{I:Ctx}{d:ao}{out:List Ltr}{a:DAd}{lo po:Obj}{p:Int×Int}{x:di}{below:Int}{bx:Nat}{m:Mem}(hd:DuX d out a lo po m)(hx:ah d.pre p=some x)(hbx:ah a.pk p=some bx)(hbd:a.lk.length≤1000000):
  Fn Tryz.prog 286 #[ptV a.b,ptV bx,.int .i64 below] I m (fun v h'=> ∃r,v=QM r∧vK d x below r∧DuX d out a lo po h'):=by
 have hd0:=hd
 obtain⟨A,c,ml,mp,mo,rfl,h1,h2,h3,h4,h5⟩:=hd
 obtain⟨bx',m1,mr,hb1,hp1,hkn,_⟩:=h4.get hx
 obtain rfl:bx'=bx:=by rw[hb1]at hbx;injection hbx
 obtain⟨q,rr,rO,oR,oO,mq,rfl,hrep,hopn,hown⟩:=hkn
 refine Fn.perm (h:=(bx',.cells (knC x q rr rO) 407 (0,0))::(mq++((rr,oR)::(rO,oO)::(mr++(ml++((a.b,.cells (duC d a A out.length c) 204 (0,0))::(a.L,lo)::(a.P,po)::mo)))))) ?_ (aD fun D_ a_=>by have e0_:=List.Perm.count_eq (hp1) a_;simp only[Value.cells,List.count_append,List.count_cons,List.count_nil,List.nil_append,List.cons_append,List.append_nil,List.append_assoc]at e0_;simp only[Value.cells,List.count_append,List.count_cons,List.count_nil,List.nil_append,List.cons_append,List.append_nil,List.append_assoc]<;>omega)
 have fin: ∀(r:Option Way),vK d x below r→ ∀(y4 y5 y6 y7:Nat) (h gg:Mem),h.Perm (((y4,.cells #[ptV bx'] 398 (0,0))::(y5,.cells #[.int .i64 below] 3 (0,0))::(y6,.cells ⟨(r.getD fe).C⟩ 400 (0,0))::(y7,.cells #[.bool r.isSome] 4 (0,0))::
   (bx',.cells (knC x q rr rO) 407 (0,0))::(mq++((rr,oR)::(rO,oO)::(mr++(ml++((a.b,.cells (duC d a A out.length c) 204 (0,0))::(a.L,lo)::(a.P,po)::mo))))))++gg)→
   ∀u,Wp Tryz.prog 286 hU (h9 ⟨a.b,0,none⟩ y4 y5 y6 y7 u) I h (cl_ fun v h'=> ∃r,v=QM r∧vK d x below r∧DuX d out a lo po h'):=by
  intro r hr y4 y5 y6 y7 h gg hp u
  refine yV _ _ _ _ _ _ ?_
  have hq:h.Perm (((y4,.cells #[ptV bx'] 398 (0,0))::(y5,.cells #[.int .i64 below] 3 (0,0))::(y6,.cells ⟨(r.getD fe).C⟩ 400 (0,0))::(y7,.cells #[.bool r.isSome] 4 (0,0))::(a.b,.cells (duC d a A out.length c) 204 (0,0))::(a.L,lo)::(a.P,po)::(ml++(mp++mo)))++gg):=
   hp.trans (List.Perm.append_right gg (aD fun D_ a_=>by have e0_:=List.Perm.count_eq (hp1) a_;simp only[Value.cells,List.count_append,List.count_cons,List.count_nil,List.nil_append,List.cons_append,List.append_nil,List.append_assoc]at e0_;simp only[Value.cells,List.count_append,List.count_cons,List.count_nil,List.nil_append,List.cons_append,List.append_nil,List.append_assoc]<;>omega))
  refine u3 (cl_.aff _) hq ?_
  refine ak [] _ gx (List.Perm.refl _) (fun hl=>HZ) ?_
  rintro v h1 ⟨g,rfl,rfl⟩
  refine⟨fun _=>{v:= .func (.func 296) #[] #[ptV g]},rfl,?_⟩
  refine aj fun _ hl=>?_
  exact Lo (p:=p) ⟨r,_,hr,hd0,rfl⟩ hx hbx hbd (List.perm_append_comm (l₁:=[(g,Obj.cells #[ptV a.b] 160 (0,0))])) _
 refine Bb _ _ _ ?_
 refine aP fun _ _ _=>?_;dsimp only[ag];refine aP fun _ _ _=>?_;dsimp only[ag];refine aP fun _ _ _=>?_;dsimp only[ag];refine aP fun _ _ _=>?_;dsimp only[ag];refine ldP mE rE kE ?_;dsimp only[ag];refine dH ?_;dsimp only[ag];refine ldP mE rE kE ?_;dsimp only[ag];refine zZ kE ?_;dsimp only[ag]
 cases how:x.own with
 |none=>
  rw[how]at hown
  obtain⟨rfl,rfl⟩:=hown
  refine b7 rfl ?_
  exact aj fun _ _=>fin none ⟨fun _=>how,(fun w hw=>by cases hw)⟩ _ _ _ _ _ _ qE _
 |some w=>
  rw[how]at hown
  obtain⟨gw,rfl,rfl⟩:=hown
  refine aX rfl ?_
  refine ldP mE rE kE ?_;dsimp only[ag];refine dH ?_;dsimp only[ag];refine ldP mE rE kE ?_;dsimp only[ag];refine dH ?_;dsimp only[ag];refine la7 mE rE kE ?_;dsimp only[ag];refine stU uE kE rE vE ?_;refine stU uE kE rE vE ?_
  exact aj fun _ _=>fin (some w) ⟨(fun e=>by cases e),fun w' hw=> .inl (how.trans hw)⟩ _ _ _ _ _ _ qE _
section
variable {κ:Type} [DecidableEq κ] {α:Type}
theorem tO{l:List (κ×α)}{k:κ}{v v':α}:aL (aL l k v) k v'=aL l k v':=by
 induction l with
 |nil=>simp[aL]
 |cons p l ih=>
  rw[aL,aL]
  split
  ·rw[aL,if_pos rfl]
  ·rename_i h;rw[aL,if_neg h,ih]
theorem OD{l:List (κ×α)}{k:κ}{v:α}(h:k∉am l):aL l k v=l++[(k,v)]:=by
 induction l with
 |nil=>rfl
 |cons p l ih=>
  rw[am,List.map_cons,List.mem_cons,not_or]at h
  rw[aL,if_neg h.1,ih h.2];rfl
theorem Ce{l:List (κ×α)}{k:κ}{v:α}(h:ah l k=some v):aL l k v=l:=by
 induction l with
 |nil=>cases h
 |cons p l ih=>
  rw[ah]at h
  rw[aL]
  split
  ·rename_i e;rw[if_pos e]at h;injection h with h;rw[←h,e]
  ·rename_i e;rw[if_neg e]at h;rw[ih h]
def xl(g:α→α)(done:List κ)(l:List (κ×α)):List (κ×α):=l.map fun q=>(q.1,if q.1∈done then g q.2 else q.2)
theorem IZ(g:α→α)(l:List (κ×α)):xl g [] l=l:=by simp[xl]
theorem qc(g:α→α)(done:List κ)(l:List (κ×α)):am (xl g done l)=am l:=by simp[xl,am]
theorem tJ{g:α→α}{done:List κ}{l:List (κ×α)}{k:κ}:ah (xl g done l) k=(ah l k).map fun v=>if k∈done then g v else v:=by
 induction l with
 |nil=>rfl
 |cons p l ih=>
  show ah ((p.1,_)::xl g done l) k=_
  rw[ah,ah]
  by_cases h:k=p.1
  ·rw[if_pos h,if_pos h,h];rfl
  ·rw[if_neg h,if_neg h,ih]
theorem JI{g:α→α}{done:List κ}{l:List (κ×α)}{k:κ}{v:α}(hn:(am l).Nodup)(hk:ah l k=some v):aL (xl g done l) k (g v)=xl g (done++[k]) l:=by
 induction l with
 |nil=>cases hk
 |cons p l ih=>
  rw[am,List.map_cons,List.nodup_cons]at hn
  show aL ((p.1,if p.1∈done then g p.2 else p.2)::xl g done l) k (g v)=(p.1,if p.1∈done++[k]then g p.2 else p.2)::xl g (done++[k]) l
  rw[ah]at hk
  rw[aL]
  by_cases h:k=p.1
  ·rw[if_pos h]at hk⊢
   injection hk with hk
   rw[if_pos (by simp[h]),hk,h]
   congr 1
   unfold xl
   refine List.map_congr_left fun q hq=>?_
   have:q.1≠p.1:=fun e=>hn.1 (e▸List.mem_map_of_mem (f:=(·.1)) hq)
   simp[this]
  ·rw[if_neg h]at hk⊢
   rw[ih hn.2 hk]
   congr 2
   simp[show p.1≠k from fun e=>h e.symm]
theorem I3{g:α→α}{done:List κ}{l:List (κ×α)}(h: ∀k∈am l,k∈done):xl g done l=mpv g l:=by
 unfold xl mpv
 refine List.map_congr_left fun q hq=>?_
 rw[if_pos (h _ (List.mem_map_of_mem (f:=(·.1)) hq))]
end
theorem DuX.kn{d:ao}{out:List Ltr}{a:DAd}{lo po:Obj}{m:Mem}{p:Int×Int}{x:di}{bx:Nat}(hd:DuX d out a lo po m)(hx:ah d.pre p=some x)(hbx:ah a.pk p=some bx):
  ∃A r o ro oo mo mz,m.Perm ((bx,.cells (knC x A r o) 407 (0,0))::(r,ro)::(o,oo)::(mo++mz))∧ky yr Way.V x.rep ro∧ky yr (Value.int .u32) x.opn oo∧S5 x.own A mo∧
   ∀x' m1,KnM x' bx m1→ ∃m',m'.Perm (m1++mz)∧DuX {d with pre:=aL d.pre p x'} out a lo po m':=by
 obtain⟨A,c,ml,mp,mo,rfl,h1,h2,h3,h4,h5⟩:=hd
 obtain⟨bx',m1,mr,hb1,hp1,hkn,hput⟩:=h4.get hx
 obtain rfl:bx'=bx:=by rw[hb1]at hbx;injection hbx
 obtain⟨q,rr,rO,oR,oO,mq,rfl,hrep,hopn,hown⟩:=hkn
 refine⟨q,rr,rO,oR,oO,mq,mr++(ml++((a.b,.cells (duC d a A out.length c) 204 (0,0))::(a.L,lo)::(a.P,po)::mo)),(aD fun D_ a_=>by have e0_:=List.Perm.count_eq (hp1) a_;simp only[Value.cells,List.count_append,List.count_cons,List.count_nil,List.nil_append,List.cons_append,List.append_nil,List.append_assoc]at e0_;simp only[Value.cells,List.count_append,List.count_cons,List.count_nil,List.nil_append,List.cons_append,List.append_nil,List.append_assoc]<;>omega),hrep,hopn,hown,fun x' m1 hk=>?_⟩
 obtain⟨m',hm,hm2⟩:=hput x' m1 hk
 exact⟨(a.b,.cells (duC d a A out.length c) 204 (0,0))::(a.L,lo)::(a.P,po)::(ml++(m'++mo)),(aD fun D_ a_=>by have e0_:=List.Perm.count_eq (hm) a_;simp only[Value.cells,List.count_append,List.count_cons,List.count_nil,List.nil_append,List.cons_append,List.append_nil,List.append_assoc]at e0_;simp only[Value.cells,List.count_append,List.count_cons,List.count_nil,List.nil_append,List.cons_append,List.append_nil,List.append_assoc]<;>omega),A,c,ml,m',mo,rfl,h1,h2,h3,hm2,h5⟩
theorem DuX.kd{d:ao}{out:List Ltr}{a:DAd}{lo po:Obj}{m:Mem}{p:Int×Int}{x:di}{bx:Nat}(hd:DuX d out a lo po m)(hx:ah d.pre p=some x)(hbx:ah a.pk p=some bx):
  ∃A c A0 r o ro oo mo mz,m.Perm ((a.b,.cells (duC d a A out.length c) 204 (0,0))::(a.L,lo)::(a.P,po)::(bx,.cells (knC x A0 r o) 407 (0,0))::(r,ro)::(o,oo)::(mo++mz))∧ky yr ptV a.lk lo∧ky BR ptV a.pk po∧ky yr Way.V x.rep ro∧ky yr (Value.int .u32) x.opn oo∧S5 x.own A0 mo∧
   ∀x' m1,KnM x' bx m1→ ∃m',m'.Perm ((a.b,.cells (duC d a A out.length c) 204 (0,0))::(a.L,lo)::(a.P,po)::(m1++mz))∧DuX {d with pre:=aL d.pre p x'} out a lo po m':=by
 obtain⟨A,c,ml,mp,mo,rfl,h1,h2,h3,h4,h5⟩:=hd
 obtain⟨bx',m1,mr,hb1,hp1,hkn,hput⟩:=h4.get hx
 obtain rfl:bx'=bx:=by rw[hb1]at hbx;injection hbx
 obtain⟨q,rr,rO,oR,oO,mq,rfl,hrep,hopn,hown⟩:=hkn
 refine⟨A,c,q,rr,rO,oR,oO,mq,mr++(ml++mo),(aD fun D_ a_=>by have e0_:=List.Perm.count_eq (hp1) a_;simp only[Value.cells,List.count_append,List.count_cons,List.count_nil,List.nil_append,List.cons_append,List.append_nil,List.append_assoc]at e0_;simp only[Value.cells,List.count_append,List.count_cons,List.count_nil,List.nil_append,List.cons_append,List.append_nil,List.append_assoc]<;>omega),h1,h3,hrep,hopn,hown,fun x' m1 hk=>?_⟩
 obtain⟨m',hm,hm2⟩:=hput x' m1 hk
 exact⟨(a.b,.cells (duC d a A out.length c) 204 (0,0))::(a.L,lo)::(a.P,po)::(ml++(m'++mo)),(aD fun D_ a_=>by have e0_:=List.Perm.count_eq (hm) a_;simp only[Value.cells,List.count_append,List.count_cons,List.count_nil,List.nil_append,List.cons_append,List.append_nil,List.append_assoc]at e0_;simp only[Value.cells,List.count_append,List.count_cons,List.count_nil,List.nil_append,List.cons_append,List.append_nil,List.append_assoc]<;>omega),A,c,ml,m',mo,rfl,h1,h2,h3,hm2,h5⟩
theorem DuX.du{d:ao}{out:List Ltr}{a:DAd}{lo po:Obj}{m:Mem}(hd:DuX d out a lo po m):
  ∃A c mz,m.Perm ((a.b,.cells (duC d a A out.length c) 204 (0,0))::(a.L,lo)::(a.P,po)::mz)∧ky yr ptV a.lk lo∧ky BR ptV a.pk po:=by
 obtain⟨A,c,ml,mp,mo,rfl,h1,h2,h3,h4,h5⟩:=hd
 exact⟨A,c,_,List.Perm.refl _,h1,h3⟩
theorem DuX.ptr{d:ao}{out:List Ltr}{a:DAd}{lo po:Obj}{m:Mem}{p:Int×Int}{x:di}(hd:DuX d out a lo po m)(hx:ah d.pre p=some x): ∃bx,ah a.pk p=some bx:=by
 obtain⟨A,c,ml,mp,mo,rfl,h1,h2,h3,h4,h5⟩:=hd
 obtain⟨bx',_,_,hb1,_⟩:=h4.get hx
 exact⟨bx',hb1⟩
theorem DuX.lptr{d:ao}{out:List Ltr}{a:DAd}{lo po:Obj}{m:Mem}{k:Int}{l:Lnk}(hd:DuX d out a lo po m)(hl:ah d.links k=some l):
  ∃bl mz,ah a.lk k=some bl∧m.Perm ((bl,.cells #[.int .i64 l.v.b,.int .i64 l.v.d,.int .i64 l.v.p,.int .u32 l.sent,.int .u32 l.got] 417 (0,0))::mz)∧
   ∀l' m1,SQ l' bl m1→ ∃m',m'.Perm (m1++mz)∧DuX {d with links:=aL d.links k l'} out a lo po m':=by
 obtain⟨A,c,ml,mp,mo,rfl,h1,h2,h3,h4,h5⟩:=hd
 obtain⟨bl,m1,mr,hb1,hp1,hlk,hput⟩:=h2.get hl
 obtain rfl:=hlk
 refine⟨bl,mr++(mp++((a.b,.cells (duC d a A out.length c) 204 (0,0))::(a.L,lo)::(a.P,po)::mo)),hb1,(aD fun D_ a_=>by have e0_:=List.Perm.count_eq (hp1) a_;simp only[Value.cells,List.count_append,List.count_cons,List.count_nil,List.nil_append,List.cons_append,List.append_nil,List.append_assoc]at e0_;simp only[Value.cells,List.count_append,List.count_cons,List.count_nil,List.nil_append,List.cons_append,List.append_nil,List.append_assoc]<;>omega),fun l' m1 hk=>?_⟩
 obtain⟨m',hm,hm2⟩:=hput l' m1 hk
 exact⟨(a.b,.cells (duC d a A out.length c) 204 (0,0))::(a.L,lo)::(a.P,po)::(m'++(mp++mo)),(aD fun D_ a_=>by have e0_:=List.Perm.count_eq (hm) a_;simp only[Value.cells,List.count_append,List.count_cons,List.count_nil,List.nil_append,List.cons_append,List.append_nil,List.append_assoc]at e0_;simp only[Value.cells,List.count_append,List.count_cons,List.count_nil,List.nil_append,List.cons_append,List.append_nil,List.append_assoc]<;>omega),A,c,m',mp,mo,rfl,h1,hm2,h3,h4,h5⟩
def Ch(d:ao)(p:Int×Int)(x:di)(w:Way)(done:List Int):ao:=
 {d with links:=xl aW done d.links,pre:=aL d.pre p {x with told:=w,opn:=if ofV w.v>ofV x.told.v then done.map fun k=>(k,cC d k)else[]}}
def JS(d:ao)(out:List Ltr)(a:DAd)(lo po:Obj)(p:Int×Int)(x:di)(w:Way)(bx y2 y3 y4 y8:Nat)(done:List Int)(mm:Mem):Prop:= ∃m,DuX (Ch d p x w done) (out++g9 d x w done) a lo po m∧
 mm=(y2,.cells #[ptV a.b] 160 (0,0))::(y3,.cells #[ptV bx] 398 (0,0))::(y4,.cells ⟨w.C⟩ 400 (0,0))::(y8,.cells #[.int .i64 (if ofV w.v>ofV x.told.v then 2 else 1)] 3 (0,0))::m
noncomputable abbrev raS:Code:=ra (bd (sr (sl (sr (sr (sr (sr (sr (sr (sr (sr bJ)))))))))))
noncomputable abbrev rbS:Code:=rb (bd (sr (sl (sr (sr (sr (sr (sr (sr (sr (sr bJ)))))))))))
noncomputable abbrev Hr(τ:List Value)(D:Nat):Loop:=kH 335 τ #[50,51] raS rbS D
theorem F6{I:Ctx}{d:ao}{out:List Ltr}{a:DAd}{lo po:Obj}{p:Int×Int}{x:di}{w:Way}{bx y2 y3 y4 y8 L D:Nat}{τ:List Value}{k:Int}{v51:Value}{done:List Int}{mm:Mem}(hj:JS d out a lo po p x w bx y2 y3 y4 y8 done mm)
  (hx:ah d.pre p=some x)(hbx:ah a.pk p=some bx)(hn:(am d.links).Nodup)(hk:k∈am d.links)(hnk:k∉done)(hbd:out.length+done.length≤1000000)(u:Nat→Value):
  Wp Tryz.prog {fn:=335,rd:=some L} mO (fM y2 y3 y4 y8 k v51 u) I ((L,.loop (Hr τ D))::mm)
   (cl_ fun v m'=>v= .bool true∧ ∃m2,m'=(L,.loop (Hr τ D))::m2∧JS d out a lo po p x w bx y2 y3 y4 y8 (done++[k]) m2):=by
 obtain⟨m,hd,rfl⟩:=hj
 obtain⟨l,hl⟩:=Option.isSome_iff_exists.1 (aO.2 hk)
 have hl1:ah (Ch d p x w done).links k=some l:=by
  show ah (xl aW done d.links) k=_
  rw[tJ,hl]
  simp[hnk]
 have hx1:ah (Ch d p x w done).pre p=some {x with told:=w,opn:=if ofV w.v>ofV x.told.v then done.map fun k=>(k,cC d k)else[]}:=by
  show ah (aL _ _ _) p=_
  rw[aJ,if_pos rfl]
 have hso:(aW l).sent=cC d k:=by unfold cC;rw[hl]
 obtain⟨A0,r0,o0,ro0,oo0,mo0,mz0,hp0,hrep0,hopn0,hown0,hput0⟩:=hd.kn hx1 hbx
 refine v6 _ _ _ _ _ _ _ ?_
 refine aj fun _ hl2=>?_
 refine Wp.beginRound (l:=L) (i:=0) (r:=Hr τ D) rfl rfl rfl ?_
 refine Wp.perm (h:=(L,.loop {Hr τ D with state:= .busy})::(y2,.cells #[ptV a.b] 160 (0,0))::(y3,.cells #[ptV bx] 398 (0,0))::(y4,.cells ⟨w.C⟩ 400 (0,0))::(y8,.cells #[.int .i64 (if ofV w.v>ofV x.told.v then 2 else 1)] 3 (0,0))::
  ((bx,.cells (knC {x with told:=w,opn:=if ofV w.v>ofV x.told.v then done.map fun k=>(k,cC d k)else[]} A0 r0 o0) 407 (0,0))::(r0,ro0)::(o0,oo0)::(mo0++mz0))) ?_
  (List.Perm.cons _ (List.Perm.cons _ (List.Perm.cons _ (List.Perm.cons _ (List.Perm.cons _ hp0.symm)))))
 refine vx _ _ _ _ _ _ _ ?_
 refine ldP mE rE kE ?_;dsimp only[ag];refine ldI mE rE kE ?_;dsimp only[ag];refine ldP mE rE kE ?_;dsimp only[ag];refine dH ?_;dsimp only[ag];refine lz mE rE kE ?_;dsimp only[ag];refine la7 mE rE kE ?_;dsimp only[ag]
 refine aN (cl_.aff _) (g:=(L,.loop {Hr τ D with state:= .busy})::(y2,.cells #[ptV a.b] 160 (0,0))::(y3,.cells #[ptV bx] 398 (0,0))::(y4,.cells ⟨w.C⟩ 400 (0,0))::(y8,.cells #[.int .i64 (if ofV w.v>ofV x.told.v then 2 else 1)] 3 (0,0))::m)
  (List.Perm.cons _ (List.Perm.cons _ (List.Perm.cons _ (List.Perm.cons _ (List.Perm.cons _ hp0.symm))))) ?_
 refine ak m _ iD qE (fun hl3=>Cv hd hl1 (by simp[g9];omega)) ?_
 rintro v m2 ⟨rfl,hd2⟩
 refine⟨fun _=>{i:=(aW l).sent},rfl,?_⟩
 dsimp only
 have hlk:aL (Ch d p x w done).links k (aW l)=xl aW (done++[k]) d.links:=JI hn hl
 have hls:out++g9 d x w done++[⟨k,if ofV w.v>ofV x.told.v then 2 else 1,(aW l).sent,0,x.p,w.v,w.tag⟩]=out++g9 d x w (done++[k]):=by
  rw[List.append_assoc,hso]
  unfold g9
  rw[List.map_append]
  rfl
 rw[hlk,hls]at hd2
 refine ldI mE rE kE ?_;dsimp only[ag]
 refine ay (fun t=>?_) (fun t=>?_)
 ·have hq:ofV w.v>ofV x.told.v:=by
   refine Classical.byContradiction fun hq=>?_
   rw[if_neg hq]at t
   exact absurd t (by decide)
  have hx2:ah ({Ch d p x w done with links:=xl aW (done++[k]) d.links}:ao).pre p=some {x with told:=w,opn:=done.map fun k=>(k,cC d k)}:=by
   show ah (Ch d p x w done).pre p=_
   rw[hx1,if_pos hq]
  obtain⟨A0,r0,o0,ro0,oo0,mo0,mz0,hp0,hrep0,hopn0,hown0,hput0⟩:=hd2.kn hx2 hbx
  refine aN (cl_.aff _) (g:=(bx,.cells (knC {x with told:=w,opn:=done.map fun k=>(k,cC d k)} A0 r0 o0) 407 (0,0))::(r0,ro0)::(o0,oo0)::((mo0++mz0)++((L,.loop {Hr τ D with state:= .busy})::(y2,.cells #[ptV a.b] 160 (0,0))::(y3,.cells #[ptV bx] 398 (0,0))::(y4,.cells ⟨w.C⟩ 400 (0,0))::(y8,.cells #[.int .i64 (if ofV w.v>ofV x.told.v then 2 else 1)] 3 (0,0))::[]))) (aD fun D_ a_=>by have e0_:=List.Perm.count_eq (hp0) a_;simp only[Value.cells,List.count_append,List.count_cons,List.count_nil,List.nil_append,List.cons_append,List.append_nil,List.append_assoc]at e0_;simp only[Value.cells,List.count_append,List.count_cons,List.count_nil,List.nil_append,List.cons_append,List.append_nil,List.append_assoc]<;>omega) ?_
  refine ldP mE rE kE ?_;dsimp only[ag];refine dH ?_;dsimp only[ag];refine ldM mE rE kE ?_;dsimp only[ag]
  refine uw (cl_.aff _) E1 rfl (aM.perm1 pE) hopn0 (x:=k) (cC d k) (by rw[hso]) fun o' ho'=>?_
  rw[OD (by simpa[am]using hnk)]at ho'
  refine aj fun _ _=>?_
  obtain⟨m',hm',hd3⟩:=hput0 {x with told:=w,opn:=(done++[k]).map fun k=>(k,cC d k)} ((bx,.cells (knC {x with told:=w,opn:=(done++[k]).map fun k=>(k,cC d k)} A0 r0 o0) 407 (0,0))::(r0,ro0)::(o0,o')::mo0) ⟨A0,r0,o0,ro0,o',mo0,rfl,hrep0,by simpa using ho',hown0⟩
  refine Wp.roundQ rfl rfl rfl (h1:=(y2,.cells #[ptV a.b] 160 (0,0))::(y3,.cells #[ptV bx] 398 (0,0))::(y4,.cells ⟨w.C⟩ 400 (0,0))::(y8,.cells #[.int .i64 (if ofV w.v>ofV x.told.v then 2 else 1)] 3 (0,0))::(bx,.cells (knC {x with told:=w,opn:=(done++[k]).map fun k=>(k,cC d k)} A0 r0 o0) 407 (0,0))::(r0,ro0)::([(o0,o')]++(mo0++mz0))) pE
   (h2:=(y2,.cells #[ptV a.b] 160 (0,0))::(y3,.cells #[ptV bx] 398 (0,0))::(y4,.cells ⟨w.C⟩ 400 (0,0))::(y8,.cells #[.int .i64 (if ofV w.v>ofV x.told.v then 2 else 1)] 3 (0,0))::m') (aD fun D_ a_=>by have e0_:=List.Perm.count_eq (hm') a_;simp only[Value.cells,List.count_append,List.count_cons,List.count_nil,List.nil_append,List.cons_append,List.append_nil,List.append_assoc]at e0_;simp only[Value.cells,List.count_append,List.count_cons,List.count_nil,List.nil_append,List.cons_append,List.append_nil,List.append_assoc]<;>omega) ⟨m',?_,rfl⟩
  have e:({({Ch d p x w done with links:=xl aW (done++[k]) d.links}:ao)with pre:=aL (Ch d p x w done).pre p {x with told:=w,opn:=(done++[k]).map fun k=>(k,cC d k)}}:ao)=Ch d p x w (done++[k]):=by
   unfold Ch
   simp only[tO,if_pos hq]
  rw[←e]
  exact hd3
 ·have hq: ¬ofV w.v>ofV x.told.v:=by
   intro hq
   rw[if_pos hq]at t
   exact absurd t (by decide)
  refine aj fun _ _=>?_
  refine Wp.roundQ rfl rfl rfl (h1:=(y2,.cells #[ptV a.b] 160 (0,0))::(y3,.cells #[ptV bx] 398 (0,0))::(y4,.cells ⟨w.C⟩ 400 (0,0))::([(y8,.cells #[.int .i64 (if ofV w.v>ofV x.told.v then 2 else 1)] 3 (0,0))]++m2)) pE (List.Perm.refl _) ⟨m2,?_,rfl⟩
  have e:({Ch d p x w done with links:=xl aW (done++[k]) d.links}:ao)=Ch d p x w (done++[k]):=by
   unfold Ch
   simp only[if_neg hq]
  rw[←e]
  exact hd2
theorem ID{y2 y3 y4 y8 b:Nat}{y7:Int}{v:Value}{k:Int}(u:Nat→Value):
  ((#[50,51]:Array Tmp).zip ⟨[.int .i64 k,ptV b]⟩).foldl (fun tmps (t,a)=>tmps.setIfInBounds t a) (⟨bw y2 y3 y4 y7 y8 v u⟩:Array Value)=⟨fM y2 y3 y4 y8 k (ptV b) (fun i=>if i=49 then v else if i=7 then .int .i64 y7 else u i)⟩:=by
 simp[bw,fM]
theorem Ab{I:Ctx}{d:ao}{out:List Ltr}{a:DAd}{lo po:Obj}{p:Int×Int}{x:di}{r:Option Way}{w:Way}{bx y2 y3 y4 y8 g:Nat}{mm h:Mem}(hw:w={r.getD fe with next:=0})(hr:vK d x 4294967295 r)(hj:JS d out a lo po p x w bx y2 y3 y4 y8 [] mm)
  (hx:ah d.pre p=some x)(hbx:ah a.pk p=some bx)(hno: ¬(x.opn.length>0∨w=x.told))(hbd:out.length+d.links.length≤1000000)(hlk:am a.lk=am d.links)(hnd:(am d.links).Nodup)(hp:h.Perm (mm++[(g,.cells #[ptV a.b] 160 (0,0))]))(u:Nat→Value):
  Wp Tryz.prog 335 fJ (bw y2 y3 y4 (ofV w.v) y8 (.func (.func 296) #[] #[ptV g]) u) I h
   (cl_ fun v h'=>v=undef∧ ∃d' ls,ju p d d' ls∧DuX d' (out++ls) a lo po h'):=by
 have hlo:ky yr ptV a.lk lo:=by
  obtain⟨_,⟨_,_,_,_,_,_,h1,_⟩,_⟩:=hj
  exact h1
 have hll:a.lk.length=d.links.length:=by have:=congrArg List.length hlk;rwa[am,am,List.length_map,List.length_map]at this
 rw[show fJ= .code (.rangeFunc (.tmp 49) #[50,51] raS rbS)::mn by kernel_rfl]
 refine Wp.rangeIter (S:=AtL a lo) (args:=fun k=>[.int .i64 k,ptV ((ah a.lk k).getD 0)]) (keys:=am a.lk) (caps:=[ptV g]) rfl rfl ij mm [(g,.cells #[ptV a.b] 160 (0,0))] hp (fun hl=>L9 (u5 hl hp _ mq0) hlo (by omega))
  (fun done m=>JS d out a lo po p x w bx y2 y3 y4 y8 done m) hj (fun k=>rfl) ?_ ?_ ?_
 ·rintro done m I' ⟨m2,hd,rfl⟩ hI' m' hm'
  obtain⟨h1,h2,_⟩:=hd.at I'
  have hs: ∀x∈m2,x∈m':=fun x hx=>hm' _ (mq1 (mq1 (mq1 (mq1 hx))))
  exact⟨h1.mono hs (fun _ _ h=>h),h2.mono hs⟩
 ·intro L D done k rest m hper hj I' hI'
  rw[hlk]at hper
  have hlen:=hper.length_eq
  have hnd2:=hper.nodup_iff.2 hnd
  rw[List.nodup_append]at hnd2
  rw[ID]
  exact bU.of (F6 hj hx hbx hnd (hper.mem_iff.1 (by simp)) (fun hm=>hnd2.2.2 _ hm _ List.mem_cons_self rfl) (by simp at hlen;omega) _)
 ·rintro L D ks m hper ⟨m2,hd,rfl⟩
  rw[hlk]at hper
  refine vt y2 y3 _ y8 (fun i=>(bw y2 y3 y4 (ofV w.v) y8 (.func (.func 296) #[] #[ptV g]) u).getD i undef) ?_
  have hx1:ah (Ch d p x w ks).pre p=some {x with told:=w,opn:=if ofV w.v>ofV x.told.v then ks.map fun k=>(k,cC d k)else[]}:=by
   show ah (aL _ _ _) p=_
   rw[aJ,if_pos rfl]
  have hset: ∀ls0,ls0=(if d.links.length=0 then ofV w.v else if ofV w.v>ofV x.told.v then x.least else if ofV w.v<x.least then ofV w.v else x.least)→({Ch d p x w ks with pre:=aL (Ch d p x w ks).pre p {x with told:=w,opn:=if ofV w.v>ofV x.told.v then ks.map fun k=>(k,cC d k)else[],least:=ls0}}:ao)=
    {d with links:=mpv aW d.links,pre:=aL d.pre p (dX d x w ks)}:=by
   intro ls0 hls0
   unfold Ch dX
   rw[I3 (fun k hk=>hper.mem_iff.2 hk),tO,hls0]
  have hgood: ∀(h':Mem) ls0,ls0=(if d.links.length=0 then ofV w.v else if ofV w.v>ofV x.told.v then x.least else if ofV w.v<x.least then ofV w.v else x.least)→
    DuX {Ch d p x w ks with pre:=aL (Ch d p x w ks).pre p {x with told:=w,opn:=if ofV w.v>ofV x.told.v then ks.map fun k=>(k,cC d k)else[],least:=ls0}} (out++g9 d x w ks) a lo po h'→
    ∃d' ls,ju p d d' ls∧DuX d' (out++ls) a lo po h':=by
   intro h' ls0 hls0 hdx
   rw[hset ls0 hls0]at hdx
   exact⟨_,_,⟨x,r,hx,hr,.inr ⟨hw▸hno,ks,hper,by rw[←hw],by rw[←hw]⟩⟩,hdx⟩
  have hsame:({x with told:=w,opn:=if ofV w.v>ofV x.told.v then ks.map fun k=>(k,cC d k)else[],least:=x.least}:di)={x with told:=w,opn:=if ofV w.v>ofV x.told.v then ks.map fun k=>(k,cC d k)else[]}:=rfl
  obtain⟨A1,c1,A0,r0,o0,ro0,oo0,mo0,mz0,hp0,hlo1,_,hrep0,hopn0,hown0,hput0⟩:=hd.kd hx1 hbx
  have fin: ∀(h:Mem) (gg:Mem) ls0,ls0=(if d.links.length=0 then ofV w.v else if ofV w.v>ofV x.told.v then x.least else if ofV w.v<x.least then ofV w.v else x.least)→
    ∀D0 hz u,aM h [(D0,.deferred (some []))] hz→aM ((D0,.deferred none)::hz) ((a.b,.cells (duC (Ch d p x w ks) a A1 (out++g9 d x w ks).length c1) 204 (0,0))::(a.L,lo)::(a.P,po)::(bx,.cells (knC {x with told:=w,opn:=if ofV w.v>ofV x.told.v then ks.map fun k=>(k,cC d k)else[],least:=ls0} A0 r0 o0) 407 (0,0))::(r0,ro0)::([(o0,oo0)]++(mo0++mz0))) gg→
    Wp Tryz.prog {fn:=335,ds:=[{target:= .collected D0,args:=#[]}]} cS (cV u) I h (cl_ fun v h'=>v=undef∧ ∃d' ls,ju p d d' ls∧DuX d' (out++ls) a lo po h'):=by
   intro h gg ls0 hls0 D0 hz u hpd hpz
   refine Wp.retDP (D:=D0) (hz:=hz) rfl rfl (.inl rfl) Tryz.func335 hpd ?_
   refine QB rfl ?_
   obtain⟨m',hm',hdx⟩:=hput0 {x with told:=w,opn:=if ofV w.v>ofV x.told.v then ks.map fun k=>(k,cC d k)else[],least:=ls0} _ ⟨A0,r0,o0,ro0,oo0,mo0,rfl,hrep0,hopn0,hown0⟩
   exact⟨m',gg,hpz.trans (List.Perm.append_right gg (aD fun D_ a_=>by have e0_:=List.Perm.count_eq (hm') a_;simp only[Value.cells,List.count_append,List.count_cons,List.count_nil,List.nil_append,List.cons_append,List.append_nil,List.append_assoc]at e0_;simp only[Value.cells,List.count_append,List.count_cons,List.count_nil,List.nil_append,List.cons_append,List.append_nil,List.append_assoc]<;>omega)),rfl,hgood m' ls0 hls0 hdx⟩
  refine aN (cl_.aff _) (g:=(D,.deferred (some []))::(y2,.cells #[ptV a.b] 160 (0,0))::(y3,.cells #[ptV bx] 398 (0,0))::(y8,.cells #[.int .i64 (if ofV w.v>ofV x.told.v then 2 else 1)] 3 (0,0))::
   ((a.b,.cells (duC (Ch d p x w ks) a A1 (out++g9 d x w ks).length c1) 204 (0,0))::(a.L,lo)::(a.P,po)::(bx,.cells (knC {x with told:=w,opn:=if ofV w.v>ofV x.told.v then ks.map fun k=>(k,cC d k)else[]} A0 r0 o0) 407 (0,0))::(r0,ro0)::(o0,oo0)::(mo0++(mz0++
   [(L,.loop {Hr (bw y2 y3 y4 (ofV w.v) y8 (.func (.func 296) #[] #[ptV g]) u) D with state:= .exhausted}),(y4,.cells ⟨w.C⟩ 400 (0,0)),(g,.cells #[ptV a.b] 160 (0,0))])))) ?_ ?_
  ·show((L,Obj.loop {Hr (bw y2 y3 y4 (ofV w.v) y8 (.func (.func 296) #[] #[ptV g]) u) D with state:= .exhausted})::(D,.deferred (some []))::(((y2,.cells #[ptV a.b] 160 (0,0))::(y3,.cells #[ptV bx] 398 (0,0))::(y4,.cells ⟨w.C⟩ 400 (0,0))::(y8,.cells #[.int .i64 (if ofV w.v>ofV x.told.v then 2 else 1)] 3 (0,0))::m2)++[(g,.cells #[ptV a.b] 160 (0,0))])).Perm _
   exact(aD fun D_ a_=>by have e0_:=List.Perm.count_eq (hp0) a_;simp only[Value.cells,List.count_append,List.count_cons,List.count_nil,List.nil_append,List.cons_append,List.append_nil,List.append_assoc]at e0_;simp only[Value.cells,List.count_append,List.count_cons,List.count_nil,List.nil_append,List.cons_append,List.append_nil,List.append_assoc]<;>omega)
  refine ldP mE rE kE ?_;dsimp only[ag];refine dH ?_;dsimp only[ag];refine ldM mE rE kE ?_;dsimp only[ag]
  refine GT rfl (.inl mE) hlo1 ?_
  dsimp only
  rw[hll]
  refine ay (fun t=>?_) (fun t=>?_)
  ·have t:d.links.length=0:=by simpa using t
   refine ldP mE rE kE ?_;dsimp only[ag];refine dH ?_;dsimp only[ag];refine stU uE kE rE vE ?_;dsimp only[ag]
   refine aj fun _ _=>fin _ _ (ofV w.v) (by rw[if_pos t]) D _ _ pE pE
  ·have t: ¬d.links.length=0:=by simpa using t
   refine ldI mE rE kE ?_;dsimp only[ag]
   refine ay (fun t2=>?_) (fun t2=>?_)
   ·have hq: ¬ofV w.v>ofV x.told.v:=by
     intro hq
     rw[if_pos hq]at t2
     exact absurd t2 (by decide)
    refine ldP mE rE kE ?_;dsimp only[ag];refine ldP mE rE kE ?_;dsimp only[ag];refine dH ?_;dsimp only[ag];refine ldI mE rE kE ?_;dsimp only[ag];refine dH ?_;dsimp only[ag];refine stU uE kE rE vE ?_;dsimp only[ag]
    refine aj fun _ _=>fin _ _ (if ofV w.v<x.least then ofV w.v else x.least) (by rw[if_neg t,if_neg hq]) D _ _ pE pE
   ·have hq:ofV w.v>ofV x.told.v:=by
     refine Classical.byContradiction fun hq=>?_
     rw[if_neg hq]at t2
     exact absurd t2 (by decide)
    refine aj fun _ _=>fin _ _ x.least (by rw[if_neg t,if_pos hq]) D _ _ pE pE
theorem rx{I:Ctx}{d:ao}{out:List Ltr}{a:DAd}{lo po:Obj}{m:Mem}{p:Int×Int}{x:di}{bx:Nat}(hd:DuX d out a lo po m)(hx:ah d.pre p=some x)(hbx:ah a.pk p=some bx)(hbd:out.length+d.links.length≤1000000):
  Fn Tryz.prog 335 #[ptV a.b,ptV bx] I m (fun v h'=>v=undef∧ ∃d' ls,ju p d d' ls∧DuX d' (out++ls) a lo po h'):=by
 have hlen:=hd.len
 obtain⟨hnd,_,hlk,_⟩:=hd.nd
 refine yh _ _ ?_
 refine aP fun y2 _ _=>?_
 refine aP fun y3 _ _=>?_
 refine ldP mE rE kE ?_;dsimp only[ag];refine ldP mE rE kE ?_;dsimp only[ag]
 refine ak m _ qB qE (fun hl=>Ho (below:=4294967295) hd hx hbx (by omega)) ?_
 rintro v m1 ⟨r,rfl,hr,hd1⟩
 obtain⟨w,hw⟩: ∃w:Way,w={r.getD fe with next:=0}:=⟨_,rfl⟩
 refine⟨ag [{i:=(r.getD fe).v.b},{i:=(r.getD fe).v.d},{i:=(r.getD fe).v.p},{i:=(r.getD fe).tag},{i:=(r.getD fe).next},{b:=r.isSome}],rfl,?_⟩
 dsimp only[ag]
 obtain⟨A0,r0,o0,ro0,oo0,mo0,mz0,hp0,hrep0,hopn0,hown0,hput0⟩:=hd1.kn hx hbx
 refine jq (cl_.aff _) (m:=[(y2,.cells #[ptV a.b] 160 (0,0))]++([(y3,.cells #[ptV bx] 398 (0,0))]++m1)) pE (m':=(y2,.cells #[ptV a.b] 160 (0,0))::(y3,.cells #[ptV bx] 398 (0,0))::(bx,.cells (knC x A0 r0 o0) 407 (0,0))::(r0,ro0)::(o0,oo0)::(mo0++mz0)) (aD fun D_ a_=>by have e0_:=List.Perm.count_eq (hp0) a_;simp only[Value.cells,List.count_append,List.count_cons,List.count_nil,List.nil_append,List.cons_append,List.append_nil,List.append_assoc]at e0_;simp only[Value.cells,List.count_append,List.count_cons,List.count_nil,List.nil_append,List.cons_append,List.append_nil,List.append_assoc]<;>omega) ?_
 have hsame: ∀(h gg:Mem),(x.opn.length>0∨w=x.told)→aM h ((bx,.cells (knC x A0 r0 o0) 407 (0,0))::(r0,ro0)::([(o0,oo0)]++(mo0++mz0))) gg→holds Tryz.prog 335 I (cl_ fun v h'=>v=undef∧ ∃d' ls,ju p d d' ls∧DuX d' (out++ls) a lo po h') (.done undef) h:=by
  intro h gg hc hp
  refine dl hp (h2:=m1) (aD fun D_ a_=>by have e0_:=List.Perm.count_eq (hp0) a_;simp only[Value.cells,List.count_append,List.count_cons,List.count_nil,List.nil_append,List.cons_append,List.append_nil,List.append_assoc]at e0_;simp only[Value.cells,List.count_append,List.count_cons,List.count_nil,List.nil_append,List.cons_append,List.append_nil,List.append_assoc]<;>omega) ⟨rfl,d,[],⟨x,r,hx,hr,.inl ⟨hw▸hc,rfl,rfl⟩⟩,?_⟩
  rw[List.append_nil]
  exact hd1
 refine bt JE fun y4 _ _=>?_
 refine stU uE kE rE vE ?_;dsimp only[ag];refine stU uE kE rE vE ?_;refine ldP mE rE kE ?_;dsimp only[ag];refine dH ?_;dsimp only[ag];refine ldM mE rE kE ?_;dsimp only[ag]
 refine GT rfl (.inl mE) hopn0 ?_
 dsimp only
 refine ay (fun t=>?_) (fun t=>?_)
 ·exact hsame _ _ (.inl (by simpa using t)) pE
 have hno1: ¬x.opn.length>0:=by simpa using t
 refine la7 mE rE kE ?_;dsimp only[ag];refine ldP mE rE kE ?_;dsimp only[ag];refine dH ?_;dsimp only[ag];refine la7 mE rE kE ?_;dsimp only[ag]
 refine Jz [w.v.b==x.told.v.b,w.v.d==x.told.v.d,w.v.p==x.told.v.p,w.tag==x.told.tag,w.next==x.told.next] kE (by rw[hw];kernel_rfl) ?_
 dsimp only
 rw[show[w.v.b==x.told.v.b,w.v.d==x.told.v.d,w.v.p==x.told.v.p,w.tag==x.told.tag,w.next==x.told.next].all id=decide (w=x.told) by
  obtain⟨⟨b1,b2,b3⟩,b4,b5⟩:=w
  obtain⟨⟨c1,c2,c3⟩,c4,c5⟩:=x.told
  simp only[List.all_cons,List.all_nil,id,Bool.and_true,Way.mk.injEq,Vec.mk.injEq]
  rw[Bool.eq_iff_iff]
  simp[and_assoc]]
 refine ay (fun t2=>?_) (fun t2=>?_)
 ·exact hsame _ _ (.inr (by simpa using t2)) pE
 have hno2: ¬w=x.told:=by simpa using t2
 have hno: ¬(x.opn.length>0∨w=x.told):=fun h=>h.elim hno1 hno2
 refine ldP mE rE kE ?_;dsimp only[ag];refine dH ?_;dsimp only[ag];refine la4 mE rE kE ?_;dsimp only[ag];refine la4 mE rE kE ?_;dsimp only[ag]
 refine aA (v:= .int .i64 (ofV x.told.v)) (fun _=>{i:=ofV x.told.v}) iu (fun hl=>wT) rfl ?_
 refine pnA mE rE kE ?_;dsimp only[ag]
 refine aA (v:= .int .i64 (ofV w.v)) (fun _=>{i:=ofV w.v}) iu (fun hl=>by rw[hw];exact wT (v:=(r.getD fe).v)) rfl ?_
 refine ldP mE rE kE ?_;dsimp only[ag]
 refine la7 mE rE kE ?_;dsimp only[ag]
 refine dH ?_;dsimp only[ag]
 refine stU uE kE rE vE ?_;dsimp only[ag]
 refine bt Sx fun y8 _ _=>?_
 have hop:x.opn=[]:=List.eq_nil_of_length_eq_zero (by omega)
 have hjs: ∀m',DuX {d with pre:=aL d.pre p {x with told:=w}} out a lo po m'→ ∀cv:Int,cv=(if ofV w.v>ofV x.told.v then 2 else 1)→JS d out a lo po p x w bx y2 y3 y4 y8 [] ((y2,.cells #[ptV a.b] 160 (0,0))::(y3,.cells #[ptV bx] 398 (0,0))::(y4,.cells ⟨w.C⟩ 400 (0,0))::(y8,.cells #[.int .i64 cv] 3 (0,0))::m'):=by
  intro m' hm cv hcv
  refine⟨m',?_,by rw[hcv]⟩
  have e:Ch d p x w []={d with pre:=aL d.pre p {x with told:=w}}:=by
   unfold Ch
   rw[IZ]
   congr 2
   rw[hop]
   simp
  rw[e,show out++g9 d x w []=out by simp[g9]]
  exact hm
 obtain⟨m',hm',hdx⟩:=hput0 {x with told:=w} _ ⟨A0,r0,o0,ro0,oo0,mo0,rfl,hrep0,hopn0,hown0⟩
 refine stU uE kE rE vE ?_;dsimp only[ag]
 refine ay (fun t3=>?_) (fun t3=>?_)
 ·have hq:ofV w.v>ofV x.told.v:=by simpa using t3
  refine stU uE kE rE vE ?_;refine ldP mE rE kE ?_;dsimp only[ag]
  refine ak [] _ gx (List.Perm.refl _) (fun hl=>HZ) ?_
  rintro v h1 ⟨g,rfl,rfl⟩
  refine⟨fun _=>{v:= .func (.func 296) #[] #[ptV g]},rfl,?_⟩
  refine aj fun _ hl=>?_
  subst hw
  refine Ab rfl hr (hjs m' hdx 2 (by rw[if_pos hq])) hx hbx hno hbd hlk hnd ((aM.perm (m:=(y2,.cells #[ptV a.b] 160 (0,0))::(y3,.cells #[ptV bx] 398 (0,0))::(y4,.cells ⟨({r.getD fe with next:=0}:Way).C⟩ 400 (0,0))::(y8,.cells #[.int .i64 2] 3 (0,0))::(bx,.cells (knC {x with told:={r.getD fe with next:=0}} A0 r0 o0) 407 (0,0))::(r0,ro0)::([(o0,oo0)]++(mo0++(mz0++[(g,.cells #[ptV a.b] 160 (0,0))])))) (g:=[]) pE).trans (by rw[List.append_nil];exact(aD fun D_ a_=>by have e0_:=List.Perm.count_eq (hm') a_;simp only[Value.cells,List.count_append,List.count_cons,List.count_nil,List.nil_append,List.cons_append,List.append_nil,List.append_assoc]at e0_;simp only[Value.cells,List.count_append,List.count_cons,List.count_nil,List.nil_append,List.cons_append,List.append_nil,List.append_assoc]<;>omega))) _
 ·have hq: ¬ofV w.v>ofV x.told.v:=by simpa using t3
  refine ldP mE rE kE ?_;dsimp only[ag]
  refine ak [] _ gx (List.Perm.refl _) (fun hl=>HZ) ?_
  rintro v h1 ⟨g,rfl,rfl⟩
  refine⟨fun _=>{v:= .func (.func 296) #[] #[ptV g]},rfl,?_⟩
  refine aj fun _ hl=>?_
  subst hw
  refine Ab rfl hr (hjs m' hdx 1 (by rw[if_neg hq])) hx hbx hno hbd hlk hnd ((aM.perm (m:=(y2,.cells #[ptV a.b] 160 (0,0))::(y3,.cells #[ptV bx] 398 (0,0))::(y4,.cells ⟨({r.getD fe with next:=0}:Way).C⟩ 400 (0,0))::(y8,.cells #[.int .i64 1] 3 (0,0))::(bx,.cells (knC {x with told:={r.getD fe with next:=0}} A0 r0 o0) 407 (0,0))::(r0,ro0)::([(o0,oo0)]++(mo0++(mz0++[(g,.cells #[ptV a.b] 160 (0,0))])))) (g:=[]) pE).trans (by rw[List.append_nil];exact(aD fun D_ a_=>by have e0_:=List.Perm.count_eq (hm') a_;simp only[Value.cells,List.count_append,List.count_cons,List.count_nil,List.nil_append,List.cons_append,List.append_nil,List.append_assoc]at e0_;simp only[Value.cells,List.count_append,List.count_cons,List.count_nil,List.nil_append,List.cons_append,List.append_nil,List.append_assoc]<;>omega))) _
end Go.Proofs.YtadanegddceleaaGreatS
