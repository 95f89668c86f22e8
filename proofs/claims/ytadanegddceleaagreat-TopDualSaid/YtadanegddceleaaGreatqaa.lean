import Derived.Orders
import Derived.Below
import Derived.AtR
set_option linter.unusedSimpArgs false
set_option linter.unusedVariables false
set_option maxRecDepth 20000
namespace Go.Proofs.YtadanegddceleaaGreatS
abbrev Mem:=List (Nat×Obj)
abbrev Ctx:=Nat→Option Obj
def keys(h:Mem):List Nat:=h.map (·.1)
@[simp] theorem SI:keys []=[]:=rfl
@[simp] theorem il(p:Nat×Obj)(h:Mem):keys (p::h)=p.1::keys h:=rfl
@[simp] theorem aT(h g:Mem):keys (h++g)=keys h++keys g:=by simp[keys]
theorem keys_perm {h g:Mem} (p:h.Perm g):(keys h).Perm (keys g):=p.map _
theorem rK{h:Mem}{b:Nat}{o:Obj}(hm:(b,o)∈h):b∈keys h:=List.mem_map.2 ⟨_,hm,rfl⟩
def Has(I:Ctx)(h:Mem)(b:Nat)(o:Obj):Prop:=(b,o)∈h∨I b=some o
theorem Has.mono{I:Ctx}{h g:Mem}{b:Nat}{o:Obj}(hh:Has I h b o)(hs: ∀x∈h,x∈g):Has I g b o:=hh.imp (hs _) id
def bh(I:Ctx)(h:Mem)(a:Addr)(v:Value):Prop:=a.spot=none∧ ∃cs t fz,Has I h a.block (.cells cs t fz)∧cs[a.off]? =some v
theorem bh.mono{I:Ctx}{h g:Mem}{a:Addr}{v:Value}(hc:bh I h a v)(hs: ∀x∈h,x∈g):bh I g a v:=by
 obtain⟨h1,cs,t,fz,h2,h3⟩:=hc
 exact⟨h1,cs,t,fz,h2.mono hs,h3⟩
structure Inv (w0:World) (K0:List Nat) (I:Ctx) (h:Mem) (w:World):Prop where
 own: ∀b o,(b,o)∈h→w.heap[b]? =some o
 nd:(keys h).Nodup
 ctx: ∀b o,I b=some o→w.heap[b]? =some o∧b∉keys h
 key: ∀b∈keys h,b∈K0∨w0.heap.size≤b
 frame: ∀b,b<w0.heap.size→b∉K0→w.heap[b]? =w0.heap[b]?
 size:w0.heap.size≤w.heap.size
 os:w.os=w0.os
 tape:w.tape=w0.tape
 output:w.output=w0.output
 dr:w0.drawn≤w.drawn
theorem Inv.has{w0 w:World}{K0:List Nat}{I:Ctx}{h:Mem}(hi:Inv w0 K0 I h w){b:Nat}{o:Obj}(hb:Has I h b o):w.heap[b]? =some o:=
 hb.elim (hi.own b o) (fun hc=>(hi.ctx b o hc).1)
theorem Inv.cell{w0 w:World}{K0:List Nat}{I:Ctx}{h:Mem}(hi:Inv w0 K0 I h w){a:Addr}{v:Value}(hc:bh I h a v):w.cell? a=some v:=by
 obtain⟨h1,cs,t,fz,h2,h3⟩:=hc
 simp[World.cell?,hi.has h2,h1,h3]
theorem Inv.lt{w0 w:World}{K0:List Nat}{I:Ctx}{h:Mem}(hi:Inv w0 K0 I h w){b:Nat}(hb:b∈keys h):b<w.heap.size:=by
 obtain⟨⟨b',o⟩,hm,rfl⟩:=List.mem_map.1 hb
 have:=hi.own _ _ hm
 exact(Array.getElem?_eq_some_iff.1 this).1
theorem Inv.perm{w0 w:World}{K0:List Nat}{I:Ctx}{h g:Mem}(hi:Inv w0 K0 I h w)(p:h.Perm g):Inv w0 K0 I g w:=
 ⟨fun b o hm=>hi.own b o (p.mem_iff.2 hm),(keys_perm p).nodup_iff.1 hi.nd,fun b o hb=>⟨(hi.ctx b o hb).1,fun hk=>(hi.ctx b o hb).2 ((keys_perm p).mem_iff.2 hk)⟩,
  fun b hb=>hi.key b ((keys_perm p).mem_iff.2 hb),hi.frame,hi.size,hi.os,hi.tape,hi.output,hi.dr⟩
theorem Inv.drop{w0 w:World}{K0:List Nat}{I:Ctx}{h g:Mem}(hi:Inv w0 K0 I (h++g) w):Inv w0 K0 I h w:=
 ⟨fun b o hm=>hi.own b o (List.mem_append_left _ hm),by have:=hi.nd;rw[aT]at this;exact(List.nodup_append.1 this).1,
  fun b o hb=>⟨(hi.ctx b o hb).1,fun hk=>(hi.ctx b o hb).2 (by rw[aT];exact List.mem_append_left _ hk)⟩,
  fun b hb=>hi.key b (by rw[aT];exact List.mem_append_left _ hb),hi.frame,hi.size,hi.os,hi.tape,hi.output,hi.dr⟩
theorem Inv.start(w:World)(I:Ctx)(hI: ∀b o,I b=some o→w.heap[b]? =some o):Inv w [] I [] w:=
 ⟨fun _ _ h=>by simp at h,by simp,fun b o hb=>⟨hI b o hb,by simp⟩,fun b hb=>by simp at hb,fun _ _ _=>rfl,Nat.le_refl _,rfl,rfl,rfl,Nat.le_refl _⟩
theorem Inv.below{w0 w:World}{I:Ctx}{h:Mem}(hi:Inv w0 [] I h w):Go.RowKit.Below w0.heap.size w0 w:=
 ⟨hi.os,hi.tape,hi.output,hi.size,fun k hk=>hi.frame k hk (by simp)⟩
theorem Inv.draw{w0 w:World}{K0:List Nat}{I:Ctx}{h:Mem}(hi:Inv w0 K0 I h w)(n:Nat)(hn:w.drawn≤n):Inv w0 K0 I h {w with drawn:=n}:=
 ⟨hi.own,hi.nd,hi.ctx,hi.key,hi.frame,hi.size,hi.os,hi.tape,hi.output,Nat.le_trans hi.dr hn⟩
theorem Inv.new{w0 w:World}{K0:List Nat}{I:Ctx}{h:Mem}(hi:Inv w0 K0 I h w)(o:Obj):
  w.heap.size∉keys h∧I w.heap.size=none∧Inv w0 K0 I ((w.heap.size,o)::h) {w with heap:=w.heap.push o}:=by
 have hk:w.heap.size∉keys h:=fun hm=>by have:=hi.lt hm;omega
 have hI:I w.heap.size=none:=by
  cases hc:I w.heap.size with
  |none=>rfl
  |some o'=>have:=(hi.ctx _ _ hc).1;simp at this
 refine⟨hk,hI,⟨fun b o' hm=>?_,?_,fun b o' hb=>⟨?_,?_⟩,fun b hb=>?_,fun b hb hK=>?_,?_,hi.os,hi.tape,hi.output,hi.dr⟩⟩
 ·rcases List.mem_cons.1 hm with he|hm
  ·injection he with h1 h2;subst h1;subst h2;simp
  ·have:=hi.lt (rK hm)
   simp only[Array.getElem?_push]
   rw[if_neg (by omega)]
   exact hi.own b o' hm
 ·rw[il];exact List.nodup_cons.2 ⟨hk,hi.nd⟩
 ·have h1:=(hi.ctx b o' hb).1
  have h2:=(Array.getElem?_eq_some_iff.1 h1).1
  simp only[Array.getElem?_push]
  rw[if_neg (by omega)]
  exact h1
 ·rw[il]
  intro hm
  rcases List.mem_cons.1 hm with he|hm
  ·simp only at he;subst he;rw[hI]at hb;cases hb
  ·exact(hi.ctx b o' hb).2 hm
 ·rw[il]at hb
  rcases List.mem_cons.1 hb with he|hb
  ·simp only at he;subst he;exact .inr hi.size
  ·exact hi.key b hb
 ·have h1:=hi.size
  simp only[Array.getElem?_push]
  rw[if_neg (by omega)]
  exact hi.frame b hb hK
 ·have h1:=hi.size
  simp only[Array.size_push]
  omega
theorem E5{h:Mem}{i b:Nat}{o o':Obj}(hi:h[i]? =some (b,o)):keys (h.set i (b,o'))=keys h:=by
 unfold keys
 rw[List.map_set]
 apply List.ext_getElem?
 intro j
 rw[List.getElem?_set]
 split
 ·rename_i hij
  subst hij
  obtain⟨hlt,he⟩:=List.getElem?_eq_some_iff.1 hi
  simp[hlt,he]
 ·rfl
theorem QI{h:Mem}(hn:(keys h).Nodup){i b:Nat}{o o':Obj}(hi:h[i]? =some (b,o)){b':Nat}{u:Obj}(hm:(b',u)∈h.set i (b,o')):
  (b'=b∧u=o')∨(b'≠b∧(b',u)∈h):=by
 obtain⟨j,hj⟩:=List.getElem?_of_mem hm
 rw[List.getElem?_set]at hj
 split at hj
 ·rename_i hij
  split at hj
  ·injection hj with hj;injection hj with h1 h2;exact .inl ⟨h1.symm,h2.symm⟩
  ·cases hj
 ·rename_i hij
  refine .inr ⟨fun he=>hij ?_,List.mem_of_getElem? hj⟩
  subst he
  have h1:(keys h)[i]? =some b':=by simp[keys,hi]
  have h2:(keys h)[j]? =some b':=by simp[keys,hj]
  exact(List.getElem?_inj (List.getElem?_eq_some_iff.1 h1).1 hn).1 (h1.trans h2.symm)
theorem Inv.set{w0 w:World}{K0:List Nat}{I:Ctx}{h:Mem}(hi:Inv w0 K0 I h w){i b:Nat}{o o':Obj}(hb:h[i]? =some (b,o)){w':World}
  (hw:w'.os=w.os∧w'.tape=w.tape∧w'.output=w.output∧w'.heap.size=w.heap.size)(h1:w'.heap[b]? =some o')(h2: ∀k,k≠b→w'.heap[k]? =w.heap[k]?)(hd:w'.drawn=w.drawn:=by rfl):
  Inv w0 K0 I (h.set i (b,o')) w':=by
 have hkb:b∈keys h:=rK (List.mem_of_getElem? hb)
 refine⟨fun b' u hm=>?_,?_,fun b' u hc=>⟨?_,?_⟩,fun b' hm=>?_,fun b' hlt hK=>?_,by rw[hw.2.2.2];exact hi.size,hw.1.trans hi.os,hw.2.1.trans hi.tape,hw.2.2.1.trans hi.output,by rw[hd];exact hi.dr⟩
 ·rcases QI hi.nd hb hm with⟨rfl,rfl⟩|⟨hne,hm⟩
  ·exact h1
  ·rw[h2 b' hne];exact hi.own b' u hm
 ·rw[E5 hb];exact hi.nd
 ·rw[h2 b' (fun e=>(hi.ctx b' u hc).2 (e▸hkb))];exact(hi.ctx b' u hc).1
 ·rw[E5 hb];exact(hi.ctx b' u hc).2
 ·rw[E5 hb]at hm;exact hi.key b' hm
 ·have hne:b'≠b:=by
   rintro rfl
   rcases hi.key _ hkb with h3|h3
   ·exact hK h3
   ·omega
  rw[h2 b' hne];exact hi.frame b' hlt hK
def fzn(fz:Nat×Nat)(o n:Nat):Nat×Nat:=if n=0 then fz else if fz.1==fz.2 then(o,o+n)else(min fz.1 o,max fz.2 (o+n))
def swp{α:Type}(P:Program)(I:Ctx):Sem α→Mem→(α→Mem→Prop)→Prop
 | .pure a,h,Q=>Q a h
 | .load _ a k,h,Q=> ∃v,bh I h a v∧swp P I (k v) h Q
 | .store _ a v k,h,Q=>(∀x,v≠ .agg x)∧(∀x,v≠ .tuple x)∧a.spot=none∧
   ∃i cs t,h[i]? =some (a.block,.cells cs t (0,0))∧a.off<cs.size∧swp P I k (h.set i (a.block,.cells (cs.setIfInBounds a.off v) t (0,0))) Q
 | .new o k,h,Q=> ∀g,g∉keys h→I g=none→swp P I (k g) ((g,o)::h) Q
 | .shape r k,h,Q=> ∃cs e fz,Has I h r (.cells cs e fz)∧swp P I (k (some (e,cs.size))) h Q
 | .freeze a n k,h,Q=>(n=0∧swp P I k h Q)∨(∃i cs t fz,h[i]? =some (a.block,.cells cs t fz)∧swp P I k (h.set i (a.block,.cells cs t (fzn fz a.off n))) Q)
 | .frozen a k,h,Q=> ∃cs e fz,Has I h a.block (.cells cs e fz)∧swp P I (k (fz.1≤a.off&&a.off<fz.2)) h Q
 | .getObj r k,h,Q=> ∃o,Has I h r o∧(∀c e f,o≠ .cells c e f)∧swp P I (k o) h Q
 | .setObj r o k,h,Q=> ∃i o0,h[i]? =some (r,o0)∧(∀c e f,o0≠ .cells c e f)∧swp P I k (h.set i (r,o)) Q
 | .choose q k,h,Q=>(q.forced=true→swp P I (k 0) h Q)∧(q.forced=false→ ∀t,swp P I (k (q.cut t)) h Q)
 | .sys _ _,_,_=>False
 | .program k,h,Q=>swp P I (k P) h Q
 | .mark _ k,h,Q=>swp P I k h Q
 | .halt _,_,_=>False
section
variable {P:Program} {I:Ctx}
theorem EJ{w0:World}{K0:List Nat}{α:Type}(s:Sem α): ∀{h:Mem} {Q:α→Mem→Prop} {w:World},swp P I s h Q→Inv w0 K0 I h w→
  ∃a w' h',s.run P w= .ok a w'∧Q a h'∧Inv w0 K0 I h' w':=by
 induction s with
 |pure a=>intro h Q w hs hi;exact⟨a,w,h,rfl,hs,hi⟩
 |load m a k ih=>
  intro h Q w hs hi
  obtain⟨v,hc,hs⟩:=hs
  obtain⟨x,w',h',hr,hq,hi'⟩:=ih v hs hi
  exact⟨x,w',h',by simp only[Sem.run,hi.cell hc];exact hr,hq,hi'⟩
 |store m a v k ih=>
  intro h Q w hs hi
  obtain⟨h1,h2,h3,i,cs,t,hb,hlt,hs⟩:=hs
  have hbw:=hi.own _ _ (List.mem_of_getElem? hb)
  have hcell:w.cell? a=some (cs[a.off]'hlt):=by simp[World.cell?,hbw,h3,hlt]
  have hfz:w.frozen? a=false:=by simp[World.frozen?,hbw]
  have hi2:Inv w0 K0 I (h.set i (a.block,.cells (cs.setIfInBounds a.off v) t (0,0))) (w.setCell a v):=by
   refine hi.set hb ⟨rfl,rfl,rfl,by simp[World.setCell]⟩ ?_ (fun k hk=>Go.RowKit.Below.heap_setCell w a v k hk)
   simp[World.setCell,Array.getElem?_modify,hbw,h3]
  obtain⟨x,w',h',hr,hq,hi'⟩:=ih hs hi2
  refine⟨x,w',h',?_,hq,hi'⟩
  cases v<;>first|exact absurd rfl (h1 _)|exact absurd rfl (h2 _)|(simp only[Sem.run,hcell,hfz];exact hr)
 |new o k ih=>
  intro h Q w hs hi
  obtain⟨hk,hI,hi2⟩:=hi.new o
  obtain⟨x,w',h',hr,hq,hi'⟩:=ih _ (hs _ hk hI) hi2
  exact⟨x,w',h',by simp only[Sem.run];exact hr,hq,hi'⟩
 |shape r k ih=>
  intro h Q w hs hi
  obtain⟨cs,e,fz,hb,hs⟩:=hs
  obtain⟨x,w',h',hr,hq,hi'⟩:=ih _ hs hi
  exact⟨x,w',h',by simp only[Sem.run,World.shape?,hi.has hb];exact hr,hq,hi'⟩
 |freeze a n k ih=>
  intro h Q w hs hi
  rcases hs with⟨rfl,hs⟩|⟨i,cs,t,fz,hb,hs⟩
  ·obtain⟨x,w',h',hr,hq,hi'⟩:=ih hs hi
   exact⟨x,w',h',by simp only[Sem.run,World.freeze,if_true];exact hr,hq,hi'⟩
  ·have hbw:=hi.own _ _ (List.mem_of_getElem? hb)
   have hi2:Inv w0 K0 I (h.set i (a.block,.cells cs t (fzn fz a.off n))) (w.freeze a n):=by
    unfold fzn World.freeze
    by_cases hn:n=0
    ·simp only[if_pos hn]
     rw[show h.set i (a.block,.cells cs t fz)=h by
      apply List.ext_getElem?;intro j;rw[List.getElem?_set];split
      ·rename_i hij;subst hij;rw[hb];split
       ·rfl
       ·have:=(List.getElem?_eq_some_iff.1 hb).1;contradiction
      ·rfl]
     exact hi
    ·simp only[if_neg hn]
     refine hi.set hb ⟨rfl,rfl,rfl,by simp⟩ ?_ (fun k hk=>?_)
     ·simp only[Array.getElem?_modify,if_true,hbw,Option.map_some]
     ·simp only[Array.getElem?_modify]
      rw[if_neg (fun e=>hk e.symm)]
   obtain⟨x,w',h',hr,hq,hi'⟩:=ih hs hi2
   exact⟨x,w',h',by simp only[Sem.run];exact hr,hq,hi'⟩
 |frozen a k ih=>
  intro h Q w hs hi
  obtain⟨cs,e,fz,hb,hs⟩:=hs
  obtain⟨x,w',h',hr,hq,hi'⟩:=ih _ hs hi
  exact⟨x,w',h',by simp only[Sem.run,World.frozen?,hi.has hb];exact hr,hq,hi'⟩
 |getObj r k ih=>
  intro h Q w hs hi
  obtain⟨o,hb,hn,hs⟩:=hs
  obtain⟨x,w',h',hr,hq,hi'⟩:=ih _ hs hi
  refine⟨x,w',h',?_,hq,hi'⟩
  simp only[Sem.run,hi.has hb]
  cases o<;>first|exact absurd rfl (hn _ _ _)|exact hr
 |setObj r o k ih=>
  intro h Q w hs hi
  obtain⟨i,o0,hb,hn,hs⟩:=hs
  have hbw:=hi.own _ _ (List.mem_of_getElem? hb)
  have hlt:=(Array.getElem?_eq_some_iff.1 hbw).1
  have hi2:Inv w0 K0 I (h.set i (r,o)) {w with heap:=w.heap.setIfInBounds r o}:=by
   refine hi.set hb ⟨rfl,rfl,rfl,by simp⟩ (by simp[hlt]) (fun k hk=>?_)
   simp only
   exact Array.getElem?_setIfInBounds_ne (Ne.symm hk)
  obtain⟨x,w',h',hr,hq,hi'⟩:=ih hs hi2
  refine⟨x,w',h',?_,hq,hi'⟩
  simp only[Sem.run,hbw]
  cases o0<;>first|exact absurd rfl (hn _ _ _)|exact hr
 |choose q k ih=>
  intro h Q w hs hi
  cases hf:q.forced with
  |true=>
   obtain⟨x,w',h',hr,hq,hi'⟩:=ih _ (hs.1 hf) hi
   exact⟨x,w',h',by simp only[Sem.run,hf,if_true];exact hr,hq,hi'⟩
  |false=>
   obtain⟨x,w',h',hr,hq,hi'⟩:=ih _ (hs.2 hf (w.tape w.drawn q)) (hi.draw (w.drawn+1) (Nat.le_succ _))
   exact⟨x,w',h',by simp only[Sem.run,hf];exact hr,hq,hi'⟩
 |sys c k ih=>intro h Q w hs hi;exact hs.elim
 |program k ih=>
  intro h Q w hs hi
  obtain⟨x,w',h',hr,hq,hi'⟩:=ih _ hs hi
  exact⟨x,w',h',by simp only[Sem.run];exact hr,hq,hi'⟩
 |mark m k ih=>
  intro h Q w hs hi
  obtain⟨x,w',h',hr,hq,hi'⟩:=ih hs hi
  exact⟨x,w',h',by simp only[Sem.run];exact hr,hq,hi'⟩
 |halt x=>intro h Q w hs hi;exact hs.elim
theorem cL{α:Type}(s:Sem α): ∀{h:Mem} {Q Q':α→Mem→Prop},swp P I s h Q→(∀a h',Q a h'→Q' a h')→swp P I s h Q':=by
 induction s with
 |pure a=>intro h Q Q' hs hq;exact hq _ _ hs
 |load m a k ih=>intro h Q Q' hs hq;obtain⟨v,hc,hs⟩:=hs;exact⟨v,hc,ih v hs hq⟩
 |store m a v k ih=>intro h Q Q' hs hq;obtain⟨h1,h2,h3,i,cs,t,hb,hlt,hs⟩:=hs;exact⟨h1,h2,h3,i,cs,t,hb,hlt,ih hs hq⟩
 |new o k ih=>intro h Q Q' hs hq;exact fun g hg hI=>ih g (hs g hg hI) hq
 |shape r k ih=>intro h Q Q' hs hq;obtain⟨cs,e,fz,hb,hs⟩:=hs;exact⟨cs,e,fz,hb,ih _ hs hq⟩
 |freeze a n k ih=>
  intro h Q Q' hs hq
  rcases hs with⟨hn,hs⟩|⟨i,cs,t,fz,hb,hs⟩
  ·exact .inl ⟨hn,ih hs hq⟩
  ·exact .inr ⟨i,cs,t,fz,hb,ih hs hq⟩
 |frozen a k ih=>intro h Q Q' hs hq;obtain⟨cs,e,fz,hb,hs⟩:=hs;exact⟨cs,e,fz,hb,ih _ hs hq⟩
 |getObj r k ih=>intro h Q Q' hs hq;obtain⟨o,hb,hn,hs⟩:=hs;exact⟨o,hb,hn,ih _ hs hq⟩
 |setObj r o k ih=>intro h Q Q' hs hq;obtain⟨i,o0,hb,hn,hs⟩:=hs;exact⟨i,o0,hb,hn,ih hs hq⟩
 |choose q k ih=>intro h Q Q' hs hq;exact⟨fun hf=>ih _ (hs.1 hf) hq,fun hf t=>ih _ (hs.2 hf t) hq⟩
 |sys c k ih=>intro h Q Q' hs hq;exact hs.elim
 |program k ih=>intro h Q Q' hs hq;exact ih _ hs hq
 |mark m k ih=>intro h Q Q' hs hq;exact ih hs hq
 |halt x=>intro h Q Q' hs hq;exact hs.elim
theorem aS{α β:Type}(s:Sem α)(f:α→Sem β): ∀(h:Mem) (Q:β→Mem→Prop),swp P I (s>>=f) h Q=swp P I s h (fun a h'=>swp P I (f a) h' Q):=by
 show∀(h:Mem) (Q:β→Mem→Prop),swp P I (Sem.bind s f) h Q=_
 induction s with
 |pure a=>intro h Q;rfl
 |load m a k ih=>intro h Q;simp only[Sem.bind,swp,ih]
 |store m a v k ih=>intro h Q;simp only[Sem.bind,swp,ih]
 |new o k ih=>intro h Q;simp only[Sem.bind,swp,ih]
 |shape r k ih=>intro h Q;simp only[Sem.bind,swp,ih]
 |freeze a n k ih=>intro h Q;simp only[Sem.bind,swp,ih]
 |frozen a k ih=>intro h Q;simp only[Sem.bind,swp,ih]
 |getObj r k ih=>intro h Q;simp only[Sem.bind,swp,ih]
 |setObj r o k ih=>intro h Q;simp only[Sem.bind,swp,ih]
 |choose q k ih=>intro h Q;simp only[Sem.bind,swp,ih]
 |sys c k ih=>intro h Q;rfl
 |program k ih=>intro h Q;simp only[Sem.bind,swp,ih]
 |mark m k ih=>intro h Q;simp only[Sem.bind,swp,ih]
 |halt x=>intro h Q;rfl
@[simp] theorem iF{α:Type}(a:α)(h:Mem)(Q:α→Mem→Prop):swp P I (pure a) h Q=Q a h:=rfl
@[simp] theorem RJ{α:Type}(a:α)(h:Mem)(Q:α→Mem→Prop):swp P I (Sem.pure a) h Q=Q a h:=rfl
@[simp] theorem gr(h:Mem)(Q:Program→Mem→Prop):swp P I program h Q=Q P h:=rfl
@[simp] theorem SL(a:Addr)(m:Mode)(h:Mem)(Q:Value→Mem→Prop):swp P I (load a m) h Q= ∃v,bh I h a v∧Q v h:=rfl
@[simp] theorem nW{α:Type}(m:String)(h:Mem)(Q:α→Mem→Prop):swp P I (stuck m) h Q=False:=rfl
@[simp] theorem zI(o:Obj)(h:Mem)(Q:Nat→Mem→Prop):swp P I (newObj o) h Q= ∀g,g∉keys h→I g=none→Q g ((g,o)::h):=rfl
theorem M8(a:Addr)(v:Value)(m:Mode)(h:Mem)(Q:Unit→Mem→Prop):swp P I (store a v m) h Q=((∀x,v≠ .agg x)∧(∀x,v≠ .tuple x)∧a.spot=none∧
   ∃i cs t,h[i]? =some (a.block,.cells cs t (0,0))∧a.off<cs.size∧Q () (h.set i (a.block,.cells (cs.setIfInBounds a.off v) t (0,0)))):=rfl
theorem Gz{α:Type}(g:Mem)(s:Sem α): ∀{h:Mem} {Q:α→Mem→Prop},swp P I s h Q→swp P I s (h++g) (fun a h'=> ∃h1,h'=h1++g∧Q a h1):=by
 have sub: ∀(h:Mem) x,x∈h→x∈h++g:=fun h x hx=>List.mem_append_left _ hx
 have nth: ∀{h:Mem} {i:Nat} {x:Nat×Obj},h[i]? =some x→(h++g)[i]? =some x∧ ∀y,(h++g).set i y=h.set i y++g:=by
  intro h i x hx
  have hlt:=(List.getElem?_eq_some_iff.1 hx).1
  exact⟨by rw[List.getElem?_append_left hlt];exact hx,fun y=>List.set_append_left _ _ hlt⟩
 induction s with
 |pure a=>intro h Q hs;exact⟨h,rfl,hs⟩
 |load m a k ih=>intro h Q hs;obtain⟨v,hc,hs⟩:=hs;exact⟨v,hc.mono (sub h),ih v hs⟩
 |store m a v k ih=>
  intro h Q hs
  obtain⟨h1,h2,h3,i,cs,t,hb,hlt,hs⟩:=hs
  refine⟨h1,h2,h3,i,cs,t,(nth hb).1,hlt,?_⟩
  rw[(nth hb).2]
  exact ih hs
 |new o k ih=>
  intro h Q hs x hx hI
  have:=ih x (hs x (fun hm=>hx (by rw[aT];exact List.mem_append_left _ hm)) hI)
  exact this
 |shape r k ih=>intro h Q hs;obtain⟨cs,e,fz,hb,hs⟩:=hs;exact⟨cs,e,fz,hb.mono (sub h),ih _ hs⟩
 |freeze a n k ih=>
  intro h Q hs
  rcases hs with⟨hn,hs⟩|⟨i,cs,t,fz,hb,hs⟩
  ·exact .inl ⟨hn,ih hs⟩
  ·refine .inr ⟨i,cs,t,fz,(nth hb).1,?_⟩
   rw[(nth hb).2]
   exact ih hs
 |frozen a k ih=>intro h Q hs;obtain⟨cs,e,fz,hb,hs⟩:=hs;exact⟨cs,e,fz,hb.mono (sub h),ih _ hs⟩
 |getObj r k ih=>intro h Q hs;obtain⟨o,hb,hn,hs⟩:=hs;exact⟨o,hb.mono (sub h),hn,ih _ hs⟩
 |setObj r o k ih=>
  intro h Q hs
  obtain⟨i,o0,hb,hn,hs⟩:=hs
  refine⟨i,o0,(nth hb).1,hn,?_⟩
  rw[(nth hb).2]
  exact ih hs
 |choose q k ih=>intro h Q hs;exact⟨fun hf=>ih _ (hs.1 hf),fun hf t=>ih _ (hs.2 hf t)⟩
 |sys c k ih=>intro h Q hs;exact hs.elim
 |program k ih=>intro h Q hs;exact ih _ hs
 |mark m k ih=>intro h Q hs;exact ih hs
 |halt x=>intro h Q hs;exact hs.elim
theorem BT{α:Type}{h:List α}{i:Nat}{x:α}(hi:h[i]? =some x)(y:α):(h.set i y).Perm (y::h.eraseIdx i)∧h.Perm (x::h.eraseIdx i):=by
 induction h generalizing i with
 |nil=>simp at hi
 |cons z h ih=>
  cases i with
  |zero=>simp at hi;subst hi;simp
  |succ i=>
   simp only[List.getElem?_cons_succ]at hi
   obtain⟨h1,h2⟩:=ih hi
   simp only[List.set_cons_succ,List.eraseIdx_cons_succ]
   exact⟨((h1.cons z).trans (List.Perm.swap _ _ _)),((h2.cons z).trans (List.Perm.swap _ _ _))⟩
theorem xx{h g:Mem}(p:h.Perm g){i:Nat}{x:Nat×Obj}(hi:h[i]? =some x): ∃j,g[j]? =some x∧ ∀y,(h.set i y).Perm (g.set j y):=by
 obtain⟨j,hj⟩:=List.getElem?_of_mem (p.mem_iff.1 (List.mem_of_getElem? hi))
 refine⟨j,hj,fun y=>?_⟩
 have h1:=BT hi y
 have h2:=BT hj y
 have h3:(h.eraseIdx i).Perm (g.eraseIdx j):=List.Perm.cons_inv ((h1.2.symm.trans p).trans h2.2)
 exact(h1.1.trans (h3.cons y)).trans h2.1.symm
theorem JC{α:Type}(s:Sem α): ∀{h g:Mem} {Q:α→Mem→Prop},h.Perm g→swp P I s h Q→swp P I s g (fun a g'=> ∃h',h'.Perm g'∧Q a h'):=by
 have sub: ∀{h g:Mem},h.Perm g→ ∀x,x∈h→x∈g:=fun p x hx=>p.mem_iff.1 hx
 induction s with
 |pure a=>intro h g Q p hs;exact⟨h,p,hs⟩
 |load m a k ih=>intro h g Q p hs;obtain⟨v,hc,hs⟩:=hs;exact⟨v,hc.mono (sub p),ih v p hs⟩
 |store m a v k ih=>
  intro h g Q p hs
  obtain⟨h1,h2,h3,i,cs,t,hb,hlt,hs⟩:=hs
  obtain⟨j,hj,hp⟩:=xx p hb
  exact⟨h1,h2,h3,j,cs,t,hj,hlt,ih (hp _) hs⟩
 |new o k ih=>
  intro h g Q p hs x hx hI
  exact ih x (p.cons _) (hs x (fun hm=>hx ((keys_perm p).mem_iff.1 hm)) hI)
 |shape r k ih=>intro h g Q p hs;obtain⟨cs,e,fz,hb,hs⟩:=hs;exact⟨cs,e,fz,hb.mono (sub p),ih _ p hs⟩
 |freeze a n k ih=>
  intro h g Q p hs
  rcases hs with⟨hn,hs⟩|⟨i,cs,t,fz,hb,hs⟩
  ·exact .inl ⟨hn,ih p hs⟩
  ·obtain⟨j,hj,hp⟩:=xx p hb
   exact .inr ⟨j,cs,t,fz,hj,ih (hp _) hs⟩
 |frozen a k ih=>intro h g Q p hs;obtain⟨cs,e,fz,hb,hs⟩:=hs;exact⟨cs,e,fz,hb.mono (sub p),ih _ p hs⟩
 |getObj r k ih=>intro h g Q p hs;obtain⟨o,hb,hn,hs⟩:=hs;exact⟨o,hb.mono (sub p),hn,ih _ p hs⟩
 |setObj r o k ih=>
  intro h g Q p hs
  obtain⟨i,o0,hb,hn,hs⟩:=hs
  obtain⟨j,hj,hp⟩:=xx p hb
  exact⟨j,o0,hj,hn,ih (hp _) hs⟩
 |choose q k ih=>intro h g Q p hs;exact⟨fun hf=>ih _ p (hs.1 hf),fun hf t=>ih _ p (hs.2 hf t)⟩
 |sys c k ih=>intro h g Q p hs;exact hs.elim
 |program k ih=>intro h g Q p hs;exact ih _ p hs
 |mark m k ih=>intro h g Q p hs;exact ih p hs
 |halt x=>intro h g Q p hs;exact hs.elim
def rwp{α:Type}(P:Program)(I:Ctx)(h:Mem):Sem α→(α→Prop)→Prop
 | .pure a,Q=>Q a
 | .load _ a k,Q=> ∃v,bh I h a v∧rwp P I h (k v) Q
 | .shape r k,Q=> ∃cs e fz,Has I h r (.cells cs e fz)∧rwp P I h (k (some (e,cs.size))) Q
 | .frozen a k,Q=> ∃cs e fz,Has I h a.block (.cells cs e fz)∧rwp P I h (k (fz.1≤a.off&&a.off<fz.2)) Q
 | .getObj r k,Q=> ∃o,Has I h r o∧(∀c e f,o≠ .cells c e f)∧rwp P I h (k o) Q
 | .program k,Q=>rwp P I h (k P) Q
 | .mark _ k,Q=>rwp P I h k Q
 |_,_=>False
theorem NA{w0 w:World}{K0:List Nat}{α:Type}{h:Mem}(hi:Inv w0 K0 I h w)(s:Sem α): ∀{Q:α→Prop},rwp P I h s Q→ ∃a,s.run P w= .ok a w∧Q a:=by
 induction s with
 |pure a=>intro Q hs;exact⟨a,rfl,hs⟩
 |load m a k ih=>intro Q hs;obtain⟨v,hc,hs⟩:=hs;obtain⟨x,hr,hq⟩:=ih v hs;exact⟨x,by simp only[Sem.run,hi.cell hc];exact hr,hq⟩
 |shape r k ih=>intro Q hs;obtain⟨cs,e,fz,hb,hs⟩:=hs;obtain⟨x,hr,hq⟩:=ih _ hs;exact⟨x,by simp only[Sem.run,World.shape?,hi.has hb];exact hr,hq⟩
 |frozen a k ih=>intro Q hs;obtain⟨cs,e,fz,hb,hs⟩:=hs;obtain⟨x,hr,hq⟩:=ih _ hs;exact⟨x,by simp only[Sem.run,World.frozen?,hi.has hb];exact hr,hq⟩
 |getObj r k ih=>
  intro Q hs;obtain⟨o,hb,hn,hs⟩:=hs;obtain⟨x,hr,hq⟩:=ih _ hs
  refine⟨x,?_,hq⟩
  simp only[Sem.run,hi.has hb]
  cases o<;>first|exact absurd rfl (hn _ _ _)|exact hr
 |program k ih=>intro Q hs;obtain⟨x,hr,hq⟩:=ih _ hs;exact⟨x,by simp only[Sem.run];exact hr,hq⟩
 |mark m k ih=>intro Q hs;obtain⟨x,hr,hq⟩:=ih hs;exact⟨x,by simp only[Sem.run];exact hr,hq⟩
 |_=>intro Q hs;exact hs.elim
theorem jk{α:Type}{h:Mem}(s:Sem α): ∀{Q Q':α→Prop},rwp P I h s Q→(∀a,Q a→Q' a)→rwp P I h s Q':=by
 induction s with
 |pure a=>intro Q Q' hs hq;exact hq _ hs
 |load m a k ih=>intro Q Q' hs hq;obtain⟨v,hc,hs⟩:=hs;exact⟨v,hc,ih v hs hq⟩
 |shape r k ih=>intro Q Q' hs hq;obtain⟨cs,e,fz,hb,hs⟩:=hs;exact⟨cs,e,fz,hb,ih _ hs hq⟩
 |frozen a k ih=>intro Q Q' hs hq;obtain⟨cs,e,fz,hb,hs⟩:=hs;exact⟨cs,e,fz,hb,ih _ hs hq⟩
 |getObj r k ih=>intro Q Q' hs hq;obtain⟨o,hb,hn,hs⟩:=hs;exact⟨o,hb,hn,ih _ hs hq⟩
 |program k ih=>intro Q Q' hs hq;exact ih _ hs hq
 |mark m k ih=>intro Q Q' hs hq;exact ih hs hq
 |_=>intro Q Q' hs hq;exact hs.elim
theorem cH{α β:Type}{h:Mem}(s:Sem α)(f:α→Sem β): ∀(Q:β→Prop),rwp P I h (s>>=f) Q=rwp P I h s (fun a=>rwp P I h (f a) Q):=by
 show∀(Q:β→Prop),rwp P I h (Sem.bind s f) Q=_
 induction s with
 |load m a k ih=>intro Q;simp only[Sem.bind,rwp,ih]
 |shape r k ih=>intro Q;simp only[Sem.bind,rwp,ih]
 |frozen a k ih=>intro Q;simp only[Sem.bind,rwp,ih]
 |getObj r k ih=>intro Q;simp only[Sem.bind,rwp,ih]
 |program k ih=>intro Q;simp only[Sem.bind,rwp,ih]
 |mark m k ih=>intro Q;simp only[Sem.bind,rwp,ih]
 |_=>intro Q;rfl
@[simp] theorem u9{α:Type}{h:Mem}(a:α)(Q:α→Prop):rwp P I h (pure a) Q=Q a:=rfl
@[simp] theorem R6{α:Type}{h:Mem}(a:α)(Q:α→Prop):rwp P I h (Sem.pure a) Q=Q a:=rfl
@[simp] theorem Q7{h:Mem}(Q:Program→Prop):rwp P I h program Q=Q P:=rfl
@[simp] theorem SK{h:Mem}(a:Addr)(m:Mode)(Q:Value→Prop):rwp P I h (load a m) Q= ∃v,bh I h a v∧Q v:=rfl
@[simp] theorem Ss{α:Type}{h:Mem}(m:String)(Q:α→Prop):rwp P I h (stuck m) Q=False:=rfl
theorem wX{α:Type}{h g:Mem}(hs: ∀x∈h,x∈g)(s:Sem α): ∀{Q:α→Prop},rwp P I h s Q→rwp P I g s Q:=by
 induction s with
 |pure a=>intro Q h;exact h
 |load m a k ih=>intro Q h;obtain⟨v,hc,h⟩:=h;exact⟨v,hc.mono hs,ih v h⟩
 |shape r k ih=>intro Q h;obtain⟨cs,e,fz,hb,h⟩:=h;exact⟨cs,e,fz,hb.mono hs,ih _ h⟩
 |frozen a k ih=>intro Q h;obtain⟨cs,e,fz,hb,h⟩:=h;exact⟨cs,e,fz,hb.mono hs,ih _ h⟩
 |getObj r k ih=>intro Q h;obtain⟨o,hb,hn,h⟩:=h;exact⟨o,hb.mono hs,hn,ih _ h⟩
 |program k ih=>intro Q h;exact ih _ h
 |mark m k ih=>intro Q h;exact ih h
 |_=>intro Q h;exact h.elim
theorem dj{α:Type}{h:Mem}(s:Sem α): ∀{Q:α→Mem→Prop},rwp P I h s (fun a=>Q a h)→swp P I s h Q:=by
 induction s with
 |pure a=>intro Q hs;exact hs
 |load m a k ih=>intro Q hs;obtain⟨v,hc,hs⟩:=hs;exact⟨v,hc,ih v hs⟩
 |shape r k ih=>intro Q hs;obtain⟨cs,e,fz,hb,hs⟩:=hs;exact⟨cs,e,fz,hb,ih _ hs⟩
 |frozen a k ih=>intro Q hs;obtain⟨cs,e,fz,hb,hs⟩:=hs;exact⟨cs,e,fz,hb,ih _ hs⟩
 |getObj r k ih=>intro Q hs;obtain⟨o,hb,hn,hs⟩:=hs;exact⟨o,hb,hn,ih _ hs⟩
 |program k ih=>intro Q hs;exact ih _ hs
 |mark m k ih=>intro Q hs;exact ih hs
 |_=>intro Q hs;exact hs.elim
def bq{α:Type}(P:Program):Sem α→Option α
 | .pure a=>some a
 | .program k=>bq P (k P)
 |_=>none
theorem d8{α:Type}{h:Mem}{a:α}(s:Sem α):bq P s=some a→ ∀{Q:α→Prop},Q a→rwp P I h s Q:=by
 induction s with
 |pure b=>intro hs Q hq;simp only[bq,Option.some.injEq]at hs;subst hs;exact hq
 |program k ih=>intro hs Q hq;exact ih _ hs hq
 |_=>intro hs;simp[bq]at hs
end
section
variable {P:Program} {I:Ctx}
def plus(I:Ctx)(g:Mem):Ctx:=fun b=>match g.find? (fun p=>p.1==b)with|some p=>some p.2|none=>I b
theorem N8{g:Mem}(hn:(keys g).Nodup){b:Nat}{o:Obj}(hm:(b,o)∈g):g.find? (fun p=>p.1==b)=some (b,o):=by
 induction g with
 |nil=>simp at hm
 |cons p g ih=>
  rw[il,List.nodup_cons]at hn
  rcases List.mem_cons.1 hm with he|hm
  ·subst he;simp
  ·have hne:(p.1==b)=false:=by
    rw[beq_eq_false_iff_ne]
    rintro rfl
    exact hn.1 (rK hm)
   simp[hne,ih hn.2 hm]
theorem Gf{g:Mem}{b:Nat}(hk:b∉keys g):g.find? (fun p=>p.1==b)=none:=by
 rw[List.find?_eq_none]
 rintro⟨b',o⟩ hm
 simp only[beq_iff_eq]
 rintro rfl
 exact hk (rK hm)
theorem Jk{g:Mem}{b:Nat}{p:Nat×Obj}(h:g.find? (fun p=>p.1==b)=some p):p∈g∧p.1=b:=by
 have h1:=List.find?_some h
 exact⟨List.mem_of_find?_eq_some h,by simpa using h1⟩
theorem yd{g:Mem}(hn:(keys g).Nodup){b:Nat}{o:Obj}(hm:(b,o)∈g):plus I g b=some o:=by simp[plus,N8 hn hm]
theorem H2{g:Mem}{b:Nat}(hk:b∉keys g):plus I g b=I b:=by simp[plus,Gf hk]
def dJ(I:Ctx)(h:Mem):Prop:= ∃w0 K0 w,Inv w0 K0 I h w
theorem dJ.perm{h g:Mem}(hl:dJ I h)(p:h.Perm g):dJ I g:=let⟨w0,K0,w,hi⟩:=hl;⟨w0,K0,w,hi.perm p⟩
theorem dJ.left{h g:Mem}(hl:dJ I (h++g)):dJ I h:=let⟨w0,K0,w,hi⟩:=hl;⟨w0,K0,w,hi.drop⟩
theorem dJ.nd{h:Mem}(hl:dJ I h):(keys h).Nodup:=let⟨_,_,_,hi⟩:=hl;hi.nd
theorem dJ.ctx{h:Mem}(hl:dJ I h){b:Nat}{o:Obj}(hb:I b=some o):b∉keys h:=let⟨_,_,_,hi⟩:=hl;(hi.ctx b o hb).2
def af(P:Program)(f:FuncId):Prop:= ∃fn,P.funcs[f]? =some fn∧(fn.name== "runtime.NumGoroutine")=false∧fn.body.isNone=false
def Fn(P:Program)(f:FuncId)(args:Array Value)(I:Ctx)(h:Mem)(Q:Value→Mem→Prop):Prop:=
 af P f∧ ∀(w0:World) (K0:List Nat) (w:World),Inv w0 K0 I h w→Calls P f args w fun e w'=> ∃v h',e= .returned v∧Q v h'∧Inv w0 K0 I h' w'
def cl_(Q:Value→Mem→Prop):Value→Mem→Prop:=fun v h=> ∃h1 g,h.Perm (h1++g)∧Q v h1
def Aff(Q:Value→Mem→Prop):Prop:= ∀v h h1 g,h.Perm (h1++g)→Q v h1→Q v h
theorem cl_.aff(Q:Value→Mem→Prop):Aff (cl_ Q):=by
 rintro v h h1 g p ⟨h2,g2,p2,hq⟩
 exact⟨h2,g2++g,p.trans ((p2.append_right g).trans (by rw[List.append_assoc])),hq⟩
theorem cl_.of{Q:Value→Mem→Prop}{v:Value}{h:Mem}(hq:Q v h):cl_ Q v h:=⟨h,[],by simp,hq⟩
theorem Fn.mono{f:FuncId}{args:Array Value}{h:Mem}{Q Q':Value→Mem→Prop}(hf:Fn P f args I h Q)(hq: ∀v h',Q v h'→Q' v h'):Fn P f args I h Q':=
 ⟨hf.1,fun w0 K0 w hi=>(hf.2 w0 K0 w hi).mono fun _ _ ⟨v,h',he,hv,hi'⟩=>⟨v,h',he,hq _ _ hv,hi'⟩⟩
theorem Fn.perm{f:FuncId}{args:Array Value}{h g:Mem}{Q:Value→Mem→Prop}(hf:Fn P f args I h Q)(p:g.Perm h):Fn P f args I g Q:=
 ⟨hf.1,fun w0 K0 w hi=>hf.2 w0 K0 w (hi.perm p)⟩
theorem Fn.frame{f:FuncId}{args:Array Value}{h g:Mem}{Q:Value→Mem→Prop}(hf:Fn P f args (plus I g) h Q):
  Fn P f args I (h++g) (fun v h'=> ∃h1,h'=h1++g∧Q v h1):=by
 refine⟨hf.1,fun w0 K0 w hi=>?_⟩
 have hn:=hi.nd
 rw[aT,List.nodup_append]at hn
 obtain⟨hn1,hn2,hn3⟩:=hn
 have gk: ∀b,b∈keys g→b∉keys h:=fun b hb hh=>hn3 b hh b hb rfl
 have h0:Inv w (keys h) (plus I g) h w:=by
  refine⟨fun b o hm=>hi.own b o (List.mem_append_left _ hm),hn1,fun b o hb=>?_,fun b hb=> .inl hb,fun _ _ _=>rfl,Nat.le_refl _,rfl,rfl,rfl,Nat.le_refl _⟩
  unfold plus at hb
  cases hg:g.find? (fun p=>p.1==b)with
  |some p=>
   rw[hg]at hb
   injection hb with hb
   obtain⟨hm,rfl⟩:=Jk hg
   subst hb
   exact⟨hi.own _ _ (List.mem_append_right _ hm),gk _ (rK hm)⟩
  |none=>
   rw[hg]at hb
   have h2:=(hi.ctx b o hb).2
   rw[aT]at h2
   exact⟨(hi.ctx b o hb).1,fun hh=>h2 (List.mem_append_left _ hh)⟩
 refine(hf.2 w (keys h) w h0).mono ?_
 rintro e w' ⟨v,h1,rfl,hq,h2⟩
 refine⟨v,h1++g,rfl,⟨h1,rfl,hq⟩,⟨fun b o hm=>?_,?_,fun b o hb=>?_,fun b hb=>?_,fun b hlt hK=>?_,Nat.le_trans hi.size h2.size,h2.os.trans hi.os,h2.tape.trans hi.tape,h2.output.trans hi.output,Nat.le_trans hi.dr h2.dr⟩⟩
 ·rcases List.mem_append.1 hm with hm|hm
  ·exact h2.own b o hm
  ·exact(h2.ctx b o (yd hn2 hm)).1
 ·rw[aT,List.nodup_append]
  refine⟨h2.nd,hn2,fun a ha b hb hab=>?_⟩
  subst hab
  obtain⟨⟨a',o⟩,hm,rfl⟩:=List.mem_map.1 hb
  exact(h2.ctx _ o (yd hn2 hm)).2 ha
 ·have hk:=(hi.ctx b o hb).2
  rw[aT]at hk
  have hkg:b∉keys g:=fun hh=>hk (List.mem_append_right _ hh)
  have h3:=h2.ctx b o (by rw[H2 hkg];exact hb)
  refine⟨h3.1,fun hh=>?_⟩
  rw[aT]at hh
  rcases List.mem_append.1 hh with hh|hh
  ·exact h3.2 hh
  ·exact hkg hh
 ·rw[aT]at hb
  rcases List.mem_append.1 hb with hb|hb
  ·rcases h2.key b hb with h3|h3
   ·exact hi.key b (by rw[aT];exact List.mem_append_left _ h3)
   ·exact .inr (Nat.le_trans hi.size h3)
  ·exact hi.key b (by rw[aT];exact List.mem_append_right _ hb)
 ·have hbh:b∉keys h:=fun hh=>by
   rcases hi.key b (by rw[aT];exact List.mem_append_left _ hh)with h3|h3
   ·exact hK h3
   ·omega
  rw[h2.frame b (Nat.lt_of_lt_of_le hlt hi.size) hbh]
  exact hi.frame b hlt hK
theorem Fn.sub{f:FuncId}{args:Array Value}{h:Mem}{Q:Value→Mem→Prop}{J:Ctx}(hf:Fn P f args J h Q)(hJ: ∀b o,J b=some o→I b=some o):Fn P f args I h Q:=by
 refine⟨hf.1,fun w0 K0 w hi=>?_⟩
 have h0:Inv w (keys h) J h w:=⟨hi.own,hi.nd,fun b o hb=>hi.ctx b o (hJ b o hb),fun b hb=> .inl hb,fun _ _ _=>rfl,Nat.le_refl _,rfl,rfl,rfl,Nat.le_refl _⟩
 refine(hf.2 w (keys h) w h0).mono ?_
 rintro e w' ⟨v,h1,rfl,hq,h2⟩
 refine⟨v,h1,rfl,hq,⟨h2.own,h2.nd,fun b o hb=>?_,fun b hb=>?_,fun b hlt hK=>?_,Nat.le_trans hi.size h2.size,h2.os.trans hi.os,h2.tape.trans hi.tape,h2.output.trans hi.output,Nat.le_trans hi.dr h2.dr⟩⟩
 ·obtain⟨h3,h4⟩:=hi.ctx b o hb
  have hlt:=(Array.getElem?_eq_some_iff.1 h3).1
  refine⟨(h2.frame b hlt h4).trans h3,fun hh=>?_⟩
  rcases h2.key b hh with h5|h5
  ·exact h4 h5
  ·omega
 ·rcases h2.key b hb with h3|h3
  ·exact hi.key b h3
  ·exact .inr (Nat.le_trans hi.size h3)
 ·have hbh:b∉keys h:=fun hh=>by
   rcases hi.key b hh with h3|h3
   ·exact hK h3
   ·omega
  rw[h2.frame b (Nat.lt_of_lt_of_le hlt hi.size) hbh]
  exact hi.frame b hlt hK
def evl(τ:List Value):Operand→Value
 | .tmp t=>τ.getD t undef
 | .const v=>v
 | .global g=> .pointer (some ⟨g,0,none⟩)
 | .func f=> .func (.func f) #[] #[]
def act(τ:List Value)(ds:List Deferred:=[]):Act:={tmps:=⟨τ⟩,defers:=ds}
theorem yK(τ:List Value)(ds:List Deferred):(act τ ds).eval=evl τ:=by
 funext x
 cases x<;>simp[Act.eval,act,evl]
def lT(τ:List Value)(dst:Option Tmp)(v:Value):List Value:=match dst with|some d=>τ.set d v|none=>τ
theorem Do(τ:List Value)(ds:List Deferred)(dst:Option Tmp)(v:Value):(act τ ds).put dst v=act (lT τ dst v) ds:=by
 cases dst with
 |none=>rfl
 |some d=>
  show({tmps:=Array.setIfInBounds τ.toArray d v,defers:=ds}:Act)={tmps:=(τ.set d v).toArray,defers:=ds}
  rw[List.setIfInBounds_toArray]
structure Ctl where
 fn:FuncId
 rd:Option Nat:=none
 ds:List Deferred:=[]
instance(n:Nat):OfNat Ctl n:=⟨{fn:=n}⟩
instance:Coe Nat Ctl:=⟨fun n=>{fn:=n}⟩
def xm(P:Program)(f:Ctl)(m:Machine)(cs:List Frame)(v:Value)(w:World):Prop:=
 match f.rd with
 |none=> ∃fr,Steps P m (lone fr cs w)∧fr.fn=f.fn∧fr.leaving P w (.returned v)
 |some _=> ∀c cs',cs=c::cs'→Steps P m (lone (c.finish v) cs' w)
theorem xm.head{f:Ctl}{m m':Machine}{cs:List Frame}{v:Value}{w:World}(h:step P m= .next m')(he:xm P f m' cs v w):xm P f m cs v w:=by
 unfold xm at*
 cases hr:f.rd with
 |none=>rw[hr]at he;obtain⟨fr,h1,h2⟩:=he;exact⟨fr,.head h h1,h2⟩
 |some _=>rw[hr]at he;exact fun c cs' e=> .head h (he c cs' e)
theorem xm.steps{f:Ctl}{m m':Machine}{cs:List Frame}{v:Value}{w:World}(h:Steps P m m')(he:xm P f m' cs v w):xm P f m cs v w:=by
 unfold xm at*
 cases hr:f.rd with
 |none=>rw[hr]at he;obtain⟨fr,h1,h2⟩:=he;exact⟨fr,h.trans h1,h2⟩
 |some _=>rw[hr]at he;exact fun c cs' e=>h.trans (he c cs' e)
theorem xm.leave{f:Ctl}{m:Machine}{cs:List Frame}{v:Value}{w:World}(hf:f.rd=none){fr:Frame}(h1:Steps P m (lone fr cs w))(h2:fr.fn=f.fn)(h3:fr.leaving P w (.returned v)):xm P f m cs v w:=by
 unfold xm;rw[hf];exact⟨fr,h1,h2,h3⟩
def Wp(P:Program)(f:Ctl)(todo:List Item)(τ:List Value)(I:Ctx)(h:Mem)(Q:Value→Mem→Prop):Prop:=
 ∀(w0:World) (K0:List Nat) (w:World),Inv w0 K0 I h w→ ∀(b:Frame) (cs:List Frame),b.fn=f.fn→b.kind= .normal→b.roundOf=f.rd→
  ∃v h' w',Q v h'∧Inv w0 K0 I h' w'∧xm P f (lone (b.atR (act τ f.ds) todo) cs w) cs v w'
theorem Wp.perm{f:Ctl}{todo:List Item}{τ:List Value}{h g:Mem}{Q:Value→Mem→Prop}(hw:Wp P f todo τ I h Q)(p:h.Perm g):Wp P f todo τ I g Q:=
 fun w0 K0 w hi=>hw w0 K0 w (hi.perm p.symm)
theorem Wp.mono{f:Ctl}{todo:List Item}{τ:List Value}{h:Mem}{Q Q':Value→Mem→Prop}(hw:Wp P f todo τ I h Q)(hq: ∀v h',Q v h'→Q' v h'):Wp P f todo τ I h Q':=
 fun w0 K0 w hi b cs hb hk hr=>let⟨v,h',w',q,r⟩:=hw w0 K0 w hi b cs hb hk hr;⟨v,h',w',hq _ _ q,r⟩
theorem Wp.drop{f:Ctl}{todo:List Item}{τ:List Value}{h g:Mem}{Q:Value→Mem→Prop}(hw:Wp P f todo τ I h Q):Wp P f todo τ I (h++g) Q:=
 fun w0 K0 w hi=>hw w0 K0 w hi.drop
theorem Wp.live{f:Ctl}{todo:List Item}{τ:List Value}{h:Mem}{Q:Value→Mem→Prop}(hw:dJ I h→Wp P f todo τ I h Q):Wp P f todo τ I h Q:=fun w0 K0 w hi=>hw ⟨w0,K0,w,hi⟩ w0 K0 w hi
theorem Wp.fn{f:FuncId}{fn:Func}{c:Code}{args:List Value}{h:Mem}{Q:Value→Mem→Prop}(hf:P.funcs[f]? =some fn)(hb:fn.body=some c)(hnm:(fn.name== "runtime.NumGoroutine")=false)
  (hw:Wp P {fn:=f} [.code c] (args++List.replicate (fn.ntmps - args.length) undef) I h (cl_ Q)):Fn P f ⟨args⟩ I h Q:=by
 refine⟨⟨fn,hf,hnm,by simp[hb]⟩,fun w0 K0 w hi cs=>?_⟩
 let b:Frame:={(default:Frame)with fn:=f,kind:= .normal,roundOf:=none}
 obtain⟨v,h',w',⟨h1,g,hp,hq⟩,hi',fr,hs,hfr,hl⟩:=hw w0 K0 w hi b cs rfl rfl rfl
 have hi':=(hi'.perm hp).drop
 have henter:Frame.enter P f ⟨args⟩ .normal=b.atR (act (args++List.replicate (fn.ntmps - args.length) undef)) [.code c]:=by
  have:(⟨args⟩:Array Value)++Array.replicate (fn.ntmps - args.length) undef=⟨args++List.replicate (fn.ntmps - args.length) undef⟩:=by simp
  simp[Frame.enter,Frame.atR,hf,hb,b,act]
 exact⟨.returned v,w',fr,⟨v,h1,rfl,hq,hi'⟩,by rw[henter];exact hs,hfr,hl⟩
theorem Wp.go_{f:Ctl}{todo todo':List Item}{τ τ':List Value}{h:Mem}{Q:Value→Mem→Prop}
  (hs: ∀(b:Frame) (cs:List Frame) (w:World),b.fn=f.fn→step P (lone (b.atR (act τ f.ds) todo) cs w)= .next (lone (b.atR (act τ' f.ds) todo') cs w))
  (hw:Wp P f todo' τ' I h Q):Wp P f todo τ I h Q:=by
 intro w0 K0 w hi b cs hb hk hr
 obtain⟨v,h',w',hq,hi',h1⟩:=hw w0 K0 w hi b cs hb hk hr
 exact⟨v,h',w',hq,hi',h1.head (hs b cs w hb)⟩
def bU(P:Program)(l:Nat)(f:FuncId)(tmps:Array Value)(as bd:Code)(I:Ctx)(h:Mem)(Q:Value→Mem→Prop):Prop:=
 ∀(w0:World) (K0:List Nat) (w:World),Inv w0 K0 I h w→ ∀(c:Frame) (cs:List Frame),∃v h' w',Q v h'∧Inv w0 K0 I h' w'∧Steps P (lone (Frame.round l f tmps as bd .normal) (c::cs) w) (lone (c.finish v) cs w')
theorem bU.mono{l:Nat}{f:FuncId}{tmps:Array Value}{as bd:Code}{h:Mem}{Q Q':Value→Mem→Prop}(hr:bU P l f tmps as bd I h Q)(hq: ∀v h',Q v h'→Q' v h'):bU P l f tmps as bd I h Q':=
 fun w0 K0 w hi c cs=>let⟨v,h',w',q,r⟩:=hr w0 K0 w hi c cs;⟨v,h',w',hq _ _ q,r⟩
theorem Inv.into{w0 w:World}{K0:List Nat}{h g:Mem}(hi:Inv w0 K0 I (h++g) w):Inv w (keys h) (plus I g) h w:=by
 have hn:=hi.nd
 rw[aT,List.nodup_append]at hn
 obtain⟨hn1,hn2,hn3⟩:=hn
 refine⟨fun b o hm=>hi.own b o (List.mem_append_left _ hm),hn1,fun b o hb=>?_,fun b hb=> .inl hb,fun _ _ _=>rfl,Nat.le_refl _,rfl,rfl,rfl,Nat.le_refl _⟩
 unfold plus at hb
 split at hb
 ·rename_i p hp
  injection hb with hb
  subst hb
  have hm:=List.mem_of_find?_eq_some hp
  have e:p.1=b:=by simpa using List.find?_some hp
  subst e
  exact⟨hi.own _ _ (List.mem_append_right _ hm),fun hk=>hn3 _ hk _ (rK hm) rfl⟩
 ·obtain⟨h1,h2⟩:=hi.ctx b o hb
  exact⟨h1,fun hk=>h2 (by rw[aT];exact List.mem_append_left _ hk)⟩
theorem Inv.back{w0 w w2:World}{K0:List Nat}{h g h1:Mem}(hi:Inv w0 K0 I (h++g) w)(h2:Inv w (keys h) (plus I g) h1 w2):Inv w0 K0 I (h1++g) w2:=by
 have hn:=hi.nd
 rw[aT,List.nodup_append]at hn
 obtain⟨hn1,hn2,hn3⟩:=hn
 refine⟨fun b o hm=>?_,?_,fun b o hb=>?_,fun b hb=>?_,fun b hlt hK=>?_,Nat.le_trans hi.size h2.size,h2.os.trans hi.os,h2.tape.trans hi.tape,h2.output.trans hi.output,Nat.le_trans hi.dr h2.dr⟩
 ·rcases List.mem_append.1 hm with hm|hm
  ·exact h2.own b o hm
  ·exact(h2.ctx b o (yd hn2 hm)).1
 ·rw[aT,List.nodup_append]
  refine⟨h2.nd,hn2,fun a ha b hb hab=>?_⟩
  subst hab
  obtain⟨⟨a',o⟩,hm,rfl⟩:=List.mem_map.1 hb
  exact(h2.ctx _ o (yd hn2 hm)).2 ha
 ·have hk:=(hi.ctx b o hb).2
  rw[aT]at hk
  have hkg:b∉keys g:=fun hh=>hk (List.mem_append_right _ hh)
  have h3:=h2.ctx b o (by rw[H2 hkg];exact hb)
  refine⟨h3.1,fun hh=>?_⟩
  rw[aT]at hh
  rcases List.mem_append.1 hh with hh|hh
  ·exact h3.2 hh
  ·exact hkg hh
 ·rw[aT]at hb
  rcases List.mem_append.1 hb with hb|hb
  ·rcases h2.key b hb with h3|h3
   ·exact hi.key b (by rw[aT];exact List.mem_append_left _ h3)
   ·exact .inr (Nat.le_trans hi.size h3)
  ·exact hi.key b (by rw[aT];exact List.mem_append_right _ hb)
 ·have hbh:b∉keys h:=fun hh=>by
   rcases hi.key b (by rw[aT];exact List.mem_append_left _ hh)with h3|h3
   ·exact hK h3
   ·omega
  rw[h2.frame b (Nat.lt_of_lt_of_le hlt hi.size) hbh]
  exact hi.frame b hlt hK
theorem bU.frame{l:Nat}{f:FuncId}{tmps:Array Value}{as bd:Code}{h g:Mem}{Q:Value→Mem→Prop}(hr:bU P l f tmps as bd (plus I g) h Q):
  bU P l f tmps as bd I (h++g) (fun v h'=> ∃h1,h'=h1++g∧Q v h1):=by
 intro w0 K0 w hi c cs
 obtain⟨v,h1,w',hq,hi',hs⟩:=hr w (keys h) w hi.into c cs
 exact⟨v,h1++g,w',⟨h1,rfl,hq⟩,hi.back hi',hs⟩
theorem bU.sub{l:Nat}{f:FuncId}{tmps:Array Value}{as bd:Code}{h:Mem}{Q:Value→Mem→Prop}{J:Ctx}(hf:bU P l f tmps as bd J h Q)(hJ: ∀b o,J b=some o→I b=some o):bU P l f tmps as bd I h Q:=by
 intro w0 K0 w hi c cs
 have h0:Inv w (keys h) J h w:=⟨hi.own,hi.nd,fun b o hb=>hi.ctx b o (hJ b o hb),fun b hb=> .inl hb,fun _ _ _=>rfl,Nat.le_refl _,rfl,rfl,rfl,Nat.le_refl _⟩
 obtain⟨v,h',w',hq,h2,hs⟩:=hf w (keys h) w h0 c cs
 refine⟨v,h',w',hq,⟨h2.own,h2.nd,fun b o hb=>?_,fun b hb=>?_,fun b hlt hK=>?_,Nat.le_trans hi.size h2.size,h2.os.trans hi.os,h2.tape.trans hi.tape,h2.output.trans hi.output,Nat.le_trans hi.dr h2.dr⟩,hs⟩
 ·obtain⟨h3,h4⟩:=hi.ctx b o hb
  have hlt:=(Array.getElem?_eq_some_iff.1 h3).1
  refine⟨(h2.frame b hlt h4).trans h3,fun hh=>?_⟩
  rcases h2.key b hh with h5|h5
  ·exact h4 h5
  ·omega
 ·rcases h2.key b hb with h3|h3
  ·exact hi.key b h3
  ·exact .inr (Nat.le_trans hi.size h3)
 ·have hbh:b∉keys h:=fun hh=>by
   rcases hi.key b hh with h3|h3
   ·exact hK h3
   ·omega
  rw[h2.frame b (Nat.lt_of_lt_of_le hlt hi.size) hbh]
  exact hi.frame b hlt hK
def nxw(P:Program)(I:Ctx)(nx:Next)(h:Mem)(K:Value→Mem→Prop):Prop:=
 match nx with
 | .value v=>K v h
 | .skip=>K undef h
 | .enter f args=>dJ I h→ ∃hc hr,h.Perm (hc++hr)∧Fn P f args (plus I hr) hc (fun v h1=>K v (h1++hr))
 | .round l f tmps as bd=>dJ I h→ ∃hc hr,h.Perm (hc++hr)∧bU P l f tmps as bd (plus I hr) hc (fun v h1=>K v (h1++hr))
 |_=>False
theorem E6{nx:Next}{h:Mem}{K K':Value→Mem→Prop}(hw:nxw P I nx h K)(hk: ∀v h',K v h'→K' v h'):nxw P I nx h K':=by
 cases nx<;>first|exact hw.elim|exact hk _ _ hw|exact fun hl=>let⟨hc,hr,hp,hf⟩:=hw hl;⟨hc,hr,hp,hf.mono fun v h1 hq=>hk _ _ hq⟩
def opw(P:Program)(I:Ctx)(o:Oper)(τ:List Value)(h:Mem)(K:Value→Mem→Prop):Prop:=
 swp P I (execOp (evl τ) o) h (fun nx h'=>nxw P I nx h' K)
theorem m8{o:Oper}{τ:List Value}{h:Mem}{K K':Value→Mem→Prop}(hw:opw P I o τ h K)(hk: ∀v h',K v h'→K' v h'):opw P I o τ h K':=
 cL _ hw fun _ _ hn=>E6 hn hk
theorem Om{α:Type}(s:Sem Unit)(x:α)(h:Mem)(Q:α→Mem→Prop):swp P I (do s;pure x) h Q=swp P I s h (fun _ h'=>Q x h'):=by
 rw[aS];rfl
theorem MA{o:Oper}{c:Call}(ho:o.op= .defer c){τ:List Value}{h:Mem}{K:Value→Mem→Prop}(hl:dJ I h)(hw:opw P I o τ h K):False:=by
 obtain⟨dst,op,type,pos,after,guard⟩:=o
 simp only at ho
 subst ho
 unfold opw execOp at hw
 simp only[aS]at hw
 obtain⟨w0,K0,w,hi⟩:=hl
 obtain⟨_,_,_,_,hn,_⟩:=EJ (w0:=w0) (K0:=K0) _ hw hi
 exact hn
theorem Wp.op{f:Ctl}{ops:Array Oper}{i:Nat}{rest:List Nat}{k:List Item}{o:Oper}{τ:List Value}{h:Mem}{Q:Value→Mem→Prop}
  (ho:ops[i]? =some o)(hw:Region.wanted o (yielded ops (act τ).tmps)=true)
  (hs:opw P I o τ h (fun v h'=>Wp P f (.inRegion ops rest::k) (lT τ o.dst v) I h' Q)):Wp P f (.inRegion ops (i::rest)::k) τ I h Q:=by
 intro w0 K0 w hi b cs hb hk hrd
 have hnd: ∀c,o.op≠ .defer c:=fun c hc=>MA hc ⟨w0,K0,w,hi⟩ hs
 obtain⟨nx,w1,h1,hr,hn,hi1⟩:=EJ (w0:=w0) (K0:=K0) _ hs hi
 rw[←yK τ f.ds]at hr
 have hg:=stepGR_op (P:=P) (b:=b) (k:=k) (cs:=cs) (w:=w) (rest:=rest) (a:=act τ f.ds) ho hw
 rw[Oper.semAt_eq _ _ _ hnd]at hg
 have hfin: ∀v,(b.atR (act τ f.ds) (.inRegion ops (i::rest)::k)).finish v=b.atR (act (lT τ o.dst v) f.ds) (.inRegion ops rest::k):=by
  intro v;rw[Frame.finish_atR,ho,←Do];rfl
 cases nx with
 |value v=>
  obtain⟨v',h',w',hq,hi',h2⟩:=hn w0 K0 w1 hi1 b cs hb hk hrd
  refine⟨v',h',w',hq,hi',h2.head (step_lone_go ?_)⟩
  rw[hg,←hfin];simp[stepG.apply,hr]
 |skip=>
  obtain⟨v',h',w',hq,hi',h2⟩:=hn w0 K0 w1 hi1 b cs hb hk hrd
  refine⟨v',h',w',hq,hi',h2.head (step_lone_go ?_)⟩
  rw[hg,←hfin];simp[stepG.apply,hr]
 |enter g args=>
  obtain⟨hc,hr',hp,hf⟩:=hn ⟨w0,K0,w1,hi1⟩
  have hff:=hf.frame
  obtain⟨e,w2,fr,⟨v,h2,rfl,⟨h3,rfl,hq⟩,hi2⟩,hsteps,_,hleave⟩:=hff.2 w0 K0 w1 (hi1.perm hp) (b.atR (act τ f.ds) (.inRegion ops (i::rest)::k)::cs)
  have henter:step P (lone (b.atR (act τ f.ds) (.inRegion ops (i::rest)::k)) cs w)=
    .next (lone (Frame.enter P g args .normal) (b.atR (act τ f.ds) (.inRegion ops (i::rest)::k)::cs) w1):=
   step_lone_go (by rw[hg];simp[stepG.apply,hr,Frame.atR])
  obtain⟨v',h',w',hq',hi',h4⟩:=hq w0 K0 w2 hi2 b cs hb hk hrd
  refine⟨v',h',w',hq',hi',xm.head henter (xm.steps hsteps (xm.head ?_ h4))⟩
  rw[←hfin];exact step_leave_returned hleave
 |round l g tmps as bd=>
  obtain⟨hc,hr',hp,hf⟩:=hn ⟨w0,K0,w1,hi1⟩
  obtain⟨v,h2,w2,⟨h3,rfl,hq⟩,hi2,hsteps⟩:=hf.frame w0 K0 w1 (hi1.perm hp) (b.atR (act τ f.ds) (.inRegion ops (i::rest)::k)) cs
  have henter:step P (lone (b.atR (act τ f.ds) (.inRegion ops (i::rest)::k)) cs w)=
    .next (lone (Frame.round l g tmps as bd .normal) (b.atR (act τ f.ds) (.inRegion ops (i::rest)::k)::cs) w1):=
   step_lone_go (by rw[hg];simp[stepG.apply,hr,Frame.atR])
  obtain⟨v',h',w',hq',hi',h4⟩:=hq w0 K0 w2 hi2 b cs hb hk hrd
  refine⟨v',h',w',hq',hi',xm.head henter (xm.steps hsteps ?_)⟩
  rw[hfin];exact h4
 |_=>exact hn.elim
def Ie(P:Program)(I:Ctx)(ops:Array Oper):List Nat→List Value→Mem→(List Value→Mem→Prop)→Prop
 |[],τ,h,K=>K τ h
 |i::r,τ,h,K=>dJ I h→match ops[i]? with
  |none=>Ie P I ops r τ h K
  |some o=>if Region.wanted o (yielded ops (act τ).tmps)then opw P I o τ h (fun v h'=>Ie P I ops r (lT τ o.dst v) h' K)else Ie P I ops r (lT τ o.dst undef) h K
theorem Wp.regs{f:Ctl}{ops:Array Oper}{k:List Item}{Q:Value→Mem→Prop}: ∀{l:List Nat} {τ:List Value} {h:Mem},
  Ie P I ops l τ h (fun τ' h'=>Wp P f k τ' I h' Q)→Wp P f (.inRegion ops l::k) τ I h Q
 |[],τ,h,hr=>Wp.go_ (fun b cs w _=>stepR_region_end) hr
 |i::r,τ,h,hr=>by
  refine Wp.live fun hl=>?_
  simp only[Ie]at hr
  have hr:=hr hl
  clear hl
  split at hr
  ·rename_i ho
   have hs:=fun(b:Frame) (cs:List Frame) (w:World)=>stepR_op_skip (P:=P) (b:=b) (a:=act τ f.ds) (k:=k) (cs:=cs) (w:=w) (ops:=ops) (i:=i) (rest:=r) (by simp[ho])
   simp only[ho,Option.bind_none,Act.put]at hs
   exact Wp.go_ (fun b cs w _=>hs b cs w) (Wp.regs hr)
  ·rename_i o ho
   split at hr
   ·rename_i hw;exact Wp.op ho hw (m8 hr fun v h' hh=>Wp.regs hh)
   ·rename_i hw
    have hs:=fun(b:Frame) (cs:List Frame) (w:World)=>stepR_op_skip (P:=P) (b:=b) (a:=act τ f.ds) (k:=k) (cs:=cs) (w:=w) (ops:=ops) (i:=i) (rest:=r) (by simp[ho];simpa[act]using hw)
    simp only[ho,Option.bind_some,Do]at hs
    exact Wp.go_ (fun b cs w _=>hs b cs w) (Wp.regs hr)
theorem Wp.region{f:Ctl}{id:Nat}{ops:Array Oper}{k:List Item}{τ:List Value}{h:Mem}{Q:Value→Mem→Prop}
  (hr:Ie P I ops (List.range ops.size) τ h (fun τ' h'=>Wp P f k τ' I h' Q)):Wp P f (.code (.region id ops false)::k) τ I h Q:=
 Wp.go_ (fun b cs w _=>stepR_region) (Wp.regs hr)
theorem Wp.seq{f:Ctl}{x y:Code}{k:List Item}{τ:List Value}{h:Mem}{Q:Value→Mem→Prop}(hw:Wp P f (.code x:: .code y::k) τ I h Q):Wp P f (.code (.seq x y)::k) τ I h Q:=Wp.go_ (fun _ _ _ _=>stepR_seq) hw
theorem Wp.skip{f:Ctl}{k:List Item}{τ:List Value}{h:Mem}{Q:Value→Mem→Prop}(hw:Wp P f k τ I h Q):Wp P f (.code .skip::k) τ I h Q:=Wp.go_ (fun _ _ _ _=>stepR_skip) hw
theorem Wp.label{f:Ctl}{l:Nat}{k:List Item}{τ:List Value}{h:Mem}{Q:Value→Mem→Prop}(hw:Wp P f k τ I h Q):Wp P f (.code (.label l)::k) τ I h Q:=Wp.go_ (fun _ _ _ _=>stepR_label) hw
theorem Wp.inBlock{f:Ctl}{id:Nat}{k:List Item}{τ:List Value}{h:Mem}{Q:Value→Mem→Prop}(hw:Wp P f k τ I h Q):Wp P f (.inBlock id::k) τ I h Q:=Wp.go_ (fun _ _ _ _=>stepR_inBlock) hw
theorem Wp.inScope{f:Ctl}{c:Code}{k:List Item}{τ:List Value}{h:Mem}{Q:Value→Mem→Prop}(hw:Wp P f k τ I h Q):Wp P f (.inScope c::k) τ I h Q:=
 Wp.go_ (fun _ _ _ _=>step_lone_go (by simp[stepG,stepG.exec,Frame.atR])) hw
theorem Wp.scope{f:Ctl}{c:Code}{k:List Item}{τ:List Value}{h:Mem}{Q:Value→Mem→Prop}(hw:Wp P f (.code c:: .inScope c::k) τ I h Q):Wp P f (.code (.scope c)::k) τ I h Q:=
 Wp.go_ (fun _ _ _ _=>step_lone_go (by simp[stepG,stepG.exec,Frame.atR])) hw
theorem Wp.block{f:Ctl}{id:Nat}{c:Code}{k:List Item}{τ:List Value}{h:Mem}{Q:Value→Mem→Prop}(hw:Wp P f (.code c:: .inBlock id::k) τ I h Q):Wp P f (.code (.block id c)::k) τ I h Q:=Wp.go_ (fun _ _ _ _=>stepR_block) hw
theorem Wp.loop{f:Ctl}{c:Code}{k:List Item}{τ:List Value}{h:Mem}{Q:Value→Mem→Prop}(hw:Wp P f (.code c:: .inLoop c::k) τ I h Q):Wp P f (.code (.loop c)::k) τ I h Q:=Wp.go_ (fun _ _ _ _=>stepR_loop) hw
theorem Wp.inLoop{f:Ctl}{c:Code}{k:List Item}{τ:List Value}{h:Mem}{Q:Value→Mem→Prop}(hw:Wp P f (.code c:: .inLoop c::k) τ I h Q):Wp P f (.inLoop c::k) τ I h Q:=Wp.go_ (fun _ _ _ _=>stepR_inLoop) hw
theorem Wp.exit{f:Ctl}{id:Nat}{k k':List Item}{τ:List Value}{h:Mem}{Q:Value→Mem→Prop}(he:exitTo id k=some k')(hw:Wp P f k' τ I h Q):Wp P f (.code (.exit id)::k) τ I h Q:=Wp.go_ (fun _ _ _ _=>stepR_exit he) hw
theorem Wp.goto{f:Ctl}{l:Nat}{k k':List Item}{τ:List Value}{h:Mem}{Q:Value→Mem→Prop}(he:gotoIn l k=some k')(hw:Wp P f k' τ I h Q):Wp P f (.code (.goto l)::k) τ I h Q:=Wp.go_ (fun _ _ _ _=>stepR_goto he) hw
theorem Wp.cond{f:Ctl}{c:Operand}{x y:Code}{k:List Item}{τ:List Value}{h:Mem}{Q:Value→Mem→Prop}{b:Bool}(hc:evl τ c= .bool b)
  (ht:b=true→Wp P f (.code x::k) τ I h Q)(hf:b=false→Wp P f (.code y::k) τ I h Q):Wp P f (.code (.cond c x y)::k) τ I h Q:=by
 have hc':(act τ f.ds).eval c= .bool b:=by rw[yK];exact hc
 refine Wp.go_ (fun _ _ _ _=>stepR_cond hc') ?_
 cases b
 ·exact hf rfl
 ·exact ht rfl
theorem Wp.ret{f:Ctl}{fn:Func}{todo:List Item}{τ:List Value}{h:Mem}{Q:Value→Mem→Prop}(hfn:f.rd=none∧f.ds=[])(ht:todo=[]∨ ∃k,todo= .code .ret::k)(hf:P.funcs[f.fn]? =some fn)
  (hr:rwp P I h (results fn ⟨τ⟩) (fun v=>Q v h)):Wp P f todo τ I h Q:=by
 intro w0 K0 w hi b cs hb hk hrd
 obtain⟨v,hrun,hq⟩:=NA hi _ hr
 obtain⟨h1,h2⟩:=hfn
 rw[h1]at hrd
 rw[←hb]at hf
 rw[h2]
 rcases ht with rfl|⟨k,rfl⟩
 ·exact⟨v,h,w,hq,hi,xm.leave h1 (.one (stepR_end hrd)) hb ⟨rfl,rfl,hk,fn,hf,hrun⟩⟩
 ·exact⟨v,h,w,hq,hi,xm.leave h1 (.one (stepR_ret hrd)) hb ⟨rfl,rfl,hk,fn,hf,hrun⟩⟩
end
end Go.Proofs.YtadanegddceleaaGreatS
