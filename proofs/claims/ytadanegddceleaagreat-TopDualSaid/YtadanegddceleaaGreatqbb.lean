import Derived.Test.YtadanegddceleaaGreatqam
import Derived.Test.YtadanegddceleaaGreatqba
set_option linter.unusedSimpArgs false
set_option linter.unusedVariables false
set_option maxRecDepth 20000
namespace Go.Proofs.YtadanegddceleaaGreatS
theorem rY(bs:List (dm ao)):iS (bs.map clr)=iS bs:=by
 funext k
 unfold iS
 rw[List.getElem?_map]
 cases bs[(k - 1).toNat]? <;>rfl
theorem EdI.congr{es:List Ed}{up:List Bool}{bs bs':List (dm ao)}(h:EdI es up bs)(hs: ∀a b,(iS bs' a).lk b=(iS bs a).lk b):EdI es up bs' where
 e1:=fun i e u he hu=>by rw[hs,hs];exact h.e1 i e u he hu
 e2:=fun a b hab=>by rw[hs]at hab;exact h.e2 a b hab
theorem Oh{n:Nat}{es:List Ed}{C:Int}{bs:List (dm ao)}{up:List Bool}{bag:List Pk}{L:Lt→Prop}{i:Nat}{e:Ed}{bA bA' bB bB':dm ao}{x y now:Int}(hbo: ∀b∈bs,BOk aU n b)(hn:n≤32)(hf:ir n es)(ha:Nn n e.a)(hb:Nn n e.b)(hab:e.a≠e.b)(hcore:lU n noE C bs bag L)(hedi:EdI es up bs)(hC:C+128<4294967295)(he:es[i]? =some e)(hup:up[i]? =some true)
  (h1:bs[(e.a - 1).toNat]? =some bA)(h2:nj aU e.b now bA bA' x)(h3:(bs.set (e.a - 1).toNat bA')[(e.b - 1).toNat]? =some bB)(h4:nj aU e.a now bB bB' y):
  ∃L',lU n noE (C+128) (((bs.set (e.a - 1).toNat bA').set (e.b - 1).toNat bB').map clr) (left 0 e.a e.b (bag++((bs.set (e.a - 1).toNat bA').set (e.b - 1).toNat bB').flatMap (·.out))) L'∧EdI es (up.set i false) (((bs.set (e.a - 1).toNat bA').set (e.b - 1).toNat bB').map clr):=by
 obtain⟨l1,l2⟩:=hedi.e1 i e true he hup
 have h3':bs[(e.b - 1).toNat]? =some bB:=by rw[List.getElem?_set_ne (by have:=ha.1;have:=hb.1;omega)]at h3;exact h3
 have cE:lU n (Bc e.a e.b) C bs bag L:=hcore.more (fun _ _ x=>x.elim) (Int.le_refl _)
 obtain⟨vA,LA,sA,kA,rA,c1⟩:=cE.unlinkC hn ha.1 h1 (hbo bA (List.mem_of_getElem? h1)) (by omega) (Ne.symm hab) (.inl ⟨rfl,rfl⟩) (.inr ⟨rfl,rfl⟩) l1 h2
 have hBb:iS (bs.set (e.a - 1).toNat bA') e.b=iS bs e.b:=by rw[sA];exact tX (Ne.symm hab)
 obtain⟨vB,LB,sB,kB,rB,c2⟩:=c1.unlinkC hn hb.1 h3 (hbo bB (List.mem_of_getElem? h3')) (by omega) hab (.inr ⟨rfl,rfl⟩) (.inl ⟨rfl,rfl⟩) (by rw[hBb];exact l2) h4
 rw[hBb]at kB
 have hst: ∀Y,iS ((bs.set (e.a - 1).toNat bA').set (e.b - 1).toNat bB') Y=if Y=e.b then vB else if Y=e.a then vA else iS bs Y:=by
  intro Y
  rw[sB,sA]
  unfold upd
  rfl
 have vAa:=hst e.a
 rw[if_neg hab,if_pos rfl]at vAa
 have vBb:=hst e.b
 rw[if_pos rfl]at vBb
 have c3:=c2.settle
 have hcir:Cir noE (C+64+64) (iS (((bs.set (e.a - 1).toNat bA').set (e.b - 1).toNat bB').map clr)) (fun l=>LB l∧ ¬(l.fr=e.a∧l.to=e.b)∧ ¬(l.fr=e.b∧l.to=e.a)):=by
  refine c3.cir.uncut (a:=e.a) (b:=e.b) ?_ ?_ ?_ ?_ (fun l hl=>hl)
  ·rw[rY,vAa,kA,if_pos rfl]
  ·rw[rY,vBb,kB,if_pos rfl]
  ·rw[rY,vAa];exact rA
  ·rw[rY,vBb];exact rB
 refine⟨fun l=>LB l∧ ¬(l.fr=e.a∧l.to=e.b)∧ ¬(l.fr=e.b∧l.to=e.a),⟨?_,?_,?_,c3.ids,c3.bin⟩,?_⟩
 ·exact hcir.more (fun _ _ x=>x) (by omega)
 ·intro pk hpk
  obtain⟨hm,ho⟩:=E3.1 pk hpk
  obtain⟨x,k1,k2,k3⟩:=c3.bag pk hm
  refine⟨x,k1,⟨k2,?_⟩,k3⟩
  have hd:pk.d=0:=by rw[k3]
  have ht:pk.t=x.to:=by rw[k3]
  unfold ej at ho
  rw[hd,ht]at ho
  simp only[beq_self_eq_true,Bool.true_and,Bool.or_eq_false_iff,Bool.and_eq_false_iff,beq_eq_false_iff_ne]at ho
  constructor
  ·rintro⟨z1,z2⟩
   replace z1:pk.f=e.a:=z1
   replace z2:x.to=e.b:=z2
   rcases ho.1 with g|g
   ·exact g z1
   ·exact g z2
  ·rintro⟨z1,z2⟩
   replace z1:pk.f=e.b:=z1
   replace z2:x.to=e.a:=z2
   rcases ho.2 with g|g
   ·exact g z1
   ·exact g z2
 ·intro c hc pk hpk
  obtain⟨c',_,rfl⟩:=List.mem_map.1 hc
  cases hpk
 ·have hlt:i<up.length:=(List.getElem?_eq_some_iff.1 hup).1
  refine hedi.change hf he hlt (u:=false) fun Y k=>⟨?_,fun hp=>?_⟩
  ·rw[rY]
   rintro(⟨rfl,rfl⟩|⟨rfl,rfl⟩)
   ·rw[vAa,kA,if_pos rfl]
   ·rw[vBb,kB,if_pos rfl]
  ·rw[rY,hst Y]
   by_cases eb:Y=e.b
   ·rw[if_pos eb,kB,if_neg (fun x=>hp (.inr ⟨eb,x⟩)),eb]
   ·rw[if_neg eb]
    by_cases ea:Y=e.a
    ·rw[if_pos ea,kA,if_neg (fun x=>hp (.inl ⟨ea,x⟩)),ea]
    ·rw[if_neg ea]
theorem LY{n:Nat}{es:List Ed}{B:Nat}{C:Int}{s s':en aU}{L:Lt→Prop}{i:Nat}{e:Ed}(hB:i5 aU n es B s)(hf:ir n es)(h:CV n es C s L)(hC:C+128<4294967295)(he:es[i]? =some e)(hup:s.up[i]? =some true)(hr:Q2 aU e i s s'):(∃L',CV n es (C+128) s' L')∧s'.up=s.up.set i false:=by
 obtain⟨ha,hb,hab,hc⟩:=hB.ed e (List.mem_of_getElem? he)
 have hn:n≤32:=by have:=hB.n16;omega
 obtain⟨s1,⟨bA,bA',bB,bB',x,y,h1,h2,h3,h4,rfl⟩,rfl⟩:=hr
 obtain⟨L',g1,g2⟩:=Oh hB.bok hn hf ha hb hab h.core h.edi hC he hup h1 h2 h3 h4
 exact⟨⟨L',g1,g2⟩,rfl⟩
theorem Pw{K:az}{e:Ed}{i:Nat}{s s':en K}(hr:Ag K e i s s'):s'.up=s.up.set i true:=by
 obtain⟨bA,bA',bB,bB',x,y,h1,h2,h3,h4,rfl⟩:=hr
 rfl
theorem Jf{n:Nat}{es:List Ed}(hf:ir n es): ∀{l:List Nat} {B:Nat} {C:Int} {s s':en aU} {L:Lt→Prop},i5 aU n es B s→CV n es C s L→C+128*l.length<4294967295→l.Nodup→(∀j∈l,s.up[j]? =some true)→F0 aU es l s s'→
  (∃L',CV n es (C+128*l.length) s' L')∧(∀j∈l,s'.up[j]? =some false)∧ ∀j,j∉l→s'.up[j]? =s.up[j]?
 |[],B,C,s,s',L,hB,h,hC,hn,hl,hr=>by
  rw[show s'=s from hr]
  exact⟨⟨L,by simpa using h⟩,(fun j hj=>by cases hj),fun j _=>rfl⟩
 |i::l,B,C,s,s',L,hB,h,hC,hn,hl,⟨e,s1,he,hc,hr⟩=>by
  rw[List.length_cons]at hC⊢
  rw[List.nodup_cons]at hn
  have hi:=hl i List.mem_cons_self
  obtain⟨⟨L1,g1⟩,u1⟩:=LY hB hf h (by omega) he hi hc
  have hlt:i<s.up.length:=(List.getElem?_eq_some_iff.1 hi).1
  obtain⟨⟨L2,g2⟩,g3,g4⟩:=Jf hf (HA gP hB hc) g1 (by omega) hn.2 (fun j hj=>by
   rw[u1,List.getElem?_set_ne (by rintro rfl;exact hn.1 hj)]
   exact hl j (List.mem_cons_of_mem _ hj)) hr
  refine⟨⟨L2,g2.core.more (fun _ _ x=>x) (by omega),g2.edi⟩,fun j hj=>?_,fun j hj=>?_⟩
  ·rcases List.mem_cons.1 hj with rfl|hj
   ·rw[g4 j hn.1,u1,List.getElem?_set_self hlt]
   ·exact g3 j hj
  ·rw[List.mem_cons,not_or]at hj
   rw[g4 j hj.2,u1,List.getElem?_set_ne (Ne.symm hj.1)]
theorem zz{n:Nat}{es:List Ed}(hf:ir n es): ∀{l:List Nat} {B:Nat} {C:Int} {s s':en aU} {L:Lt→Prop},i5 aU n es B s→CV n es C s L→C+128*l.length<4294967295→l.Nodup→(∀j∈l,s.up[j]? =some false)→nS aU es l s s'→
  ∃L',CV n es (C+128*l.length) s' L'
 |[],B,C,s,s',L,hB,h,hC,hn,hl,hr=>by
  rw[show s'=s from hr]
  exact⟨L,by simpa using h⟩
 |i::l,B,C,s,s',L,hB,h,hC,hn,hl,⟨e,s1,he,hc,hr⟩=>by
  rw[List.length_cons]at hC⊢
  rw[List.nodup_cons]at hn
  obtain⟨L1,g1⟩:=He hB hf h (by omega) he (hl i List.mem_cons_self) hc
  obtain⟨L2,g2⟩:=zz hf (C2 gP hB he hc) g1 (by omega) hn.2 (fun j hj=>by
   rw[Pw hc,List.getElem?_set_ne (by rintro rfl;exact hn.1 hj)]
   exact hl j (List.mem_cons_of_mem _ hj)) hr
  exact⟨L2,g2.core.more (fun _ _ x=>x) (by omega),g2.edi⟩
theorem M3(id:Int):BIn (DD aU id)where
 tk:=⟨List.nodup_nil,fun q hq=>by cases hq⟩
 tin:=⟨[],⟨[],List.Perm.refl _,rfl⟩,fun q hq=>by cases hq⟩
 lks:=fun k=>by simp[ah];rfl
theorem Lj{n:Nat}{C:Int}{bs:List (dm ao)}{bag:List Pk}{L:Lt→Prop}{Y:Int}{b:dm ao}(h:lU n noE C bs bag L)(hY:1≤Y)(hb:bs[(Y - 1).toNat]? =some b)(hno: ∀k,(iS bs Y).lk k=false):
  lU n noE C (bs.set (Y - 1).toNat (DD aU Y)) bag L∧ ∀a k,(iS (bs.set (Y - 1).toNat (DD aU Y)) a).lk k=(iS bs a).lk k:=by
 have hst:iS (bs.set (Y - 1).toNat (DD aU Y))=upd (iS bs) Y (vw d00):=CS (b':=DD aU Y) hY hb
 refine⟨⟨?_,h.bag,?_,?_,?_⟩,fun a k=>?_⟩
 ·rw[hst];exact h.cir.fresh hno rfl
 ·intro c hc pk hpk
  rcases List.mem_or_eq_of_mem_set hc with hc|e
  ·exact h.out c hc pk hpk
  ·subst e;cases hpk
 ·intro j c hc
  rcases FM hc (List.getElem?_eq_some_iff.1 hb).1 with⟨rfl,rfl⟩|⟨_,hc⟩
  ·exact(Q1 hY).symm
  ·exact h.ids j c hc
 ·intro c hc
  rcases List.mem_or_eq_of_mem_set hc with hc|e
  ·exact h.bin c hc
  ·subst e;exact M3 Y
 ·rw[hst]
  unfold upd
  split
  ·rename_i e;rw[e,hno k];rfl
  ·rfl
theorem Km(es:List Ed)(up:List Bool)(id:Int)(i:Nat):(BQ es up id i).Nodup:=List.nodup_range.sublist List.filter_sublist
theorem LQ{n:Nat}{es:List Ed}{B:Nat}{C id e:Int}{s s':en aU}{L:Lt→Prop}(hB:i5 aU n es B s)(hf:ir n es)(h:CV n es C s L)(hC:C+256*es.length<4294967295)(hr:wo aU es id s s' e): ∃L',CV n es (C+256*es.length) s' L':=by
 unfold wo at hr
 split at hr
 ·rw[hr.1];exact⟨L,h.core.more (fun _ _ x=>x) (by omega),h.edi⟩
 ·rename_i hid
  have hid:Nn n id:=by have:=Classical.not_not.1 hid;rwa[hB.len]at this
  obtain⟨_,s1,h1,h2⟩:=hr
  have hll:=BV es s.up id es.length
  have hnd:=Km es s.up id es.length
  obtain⟨⟨L1,g1⟩,g2,g3⟩:=Jf hf hB h (by omega) hnd (fun j hj=>(J0 hj).2.choose_spec.2.1) h1
  have hB1:=xS gP hB h1
  obtain⟨b,hb⟩:=sJ hB1.len hid
  have hno: ∀k,(iS s1.bs id).lk k=false:=by
   intro k
   cases hk:(iS s1.bs id).lk k with
   |false=>rfl
   |true=>
    exfalso
    obtain⟨j,x,hx,hj,hxy⟩:=g1.edi.e2 id k hk
    by_cases hm:j∈BQ es s.up id es.length
    ·rw[g2 j hm]at hj;cases hj
    ·refine hm ?_
     rw[g3 j hm]at hj
     unfold BQ
     refine List.mem_filter.2 ⟨List.mem_range.2 (List.getElem?_eq_some_iff.1 hx).1,?_⟩
     unfold K9
     rw[hj,hx]
     simp only[Bool.true_and,Bool.or_eq_true,beq_iff_eq]
     omega
  obtain⟨f1,f2⟩:=Lj g1.core hid.1 hb hno
  have d2:CV n es (C+128*(BQ es s.up id es.length).length) (Dd aU id s1) L1:=⟨f1,g1.edi.congr f2⟩
  obtain⟨L2,g4⟩:=zz hf (CL gP hB1 hid) d2 (by omega) hnd (fun j hj=>g2 j hj) h2
  exact⟨L2,g4.core.more (fun _ _ x=>x) (by omega),g4.edi⟩
theorem CV.one{n:Nat}{es:List Ed}{C C':Int}{s:en aU}{L:Lt→Prop}(h:CV n es C s L){i:Nat}{b b':dm ao}(hb:s.bs[i]? =some b)(hg: ∃L',lU n noE C' (s.bs.set i b') s.bag L')(hk: ∀k,(vw b'.s).lk k=(vw b.s).lk k): ∃L',lU n noE C' (s.bs.set i b') s.bag L'∧EdI es s.up (s.bs.set i b'):=by
 obtain⟨L',g⟩:=hg
 refine⟨L',g,h.edi.congr fun a k=>?_⟩
 have e:=BH (b':=b') hb
 refine(congrArg (fun f=>(f a).lk k) e).trans ?_
 show(upd (iS s.bs) _ _ a).lk k=_
 unfold upd
 split
 ·rename_i e;rw[e,rJ hb];exact hk k
 ·rfl
theorem Ta{b b':dm ao}(h1:BIn b)(h2:BIn b')(h3: ∀k,ah b'.links (plK k)=ah b.links (plK k))(k:Int):(vw b'.s).lk k=(vw b.s).lk k:=by
 show(ah b'.s.links k).isSome=(ah b.s.links k).isSome
 refine Bool.eq_iff_iff.2 ?_
 rw[←h1.lks k,←h2.lks k,h3 k]
theorem vb{b1 b b':dm ao}(h:JK aU b1 b')(e:b1.links=b.links):b'.links=b.links:=(tR h).2.2.1.trans e
theorem Ly{now:Int}{b b':dm ao}(h:GK aU now b b'):b'.links=b.links:=by
 obtain⟨s',ps,ls,_,hr⟩:=h
 exact vb hr rfl
theorem LP{d now e:Int}{p:Int×Int}{b b':dm ao}(h:zy aU d p now b b' e):b'.links=b.links:=by
 unfold zy at h
 split at h
 ·rw[h.1]
 ·obtain⟨s',ls,e1,_,_,h⟩:=h
  split at h
  ·rw[h];rfl
  ·exact vb h rfl
theorem LC{d now e:Int}{p:Int×Int}{b b':dm ao}(h:uD aU d p now b b' e):b'.links=b.links:=by
 unfold uD at h
 split at h
 ·rw[h.1]
 ·obtain⟨_,s',ls,_,h⟩:=h
  exact vb h rfl
theorem Kp{k now e:Int}{B:List UInt8}{b b':dm ao}(h:uc aU k B now b b' e):b'.links=b.links:=by
 unfold uc at h
 split at h
 ·rw[h.1]
 ·obtain⟨s',ls,_,h⟩:=h
  split at h
  ·rw[h]
  ·exact vb h rfl
theorem RF{n:Nat}{E:Int→Int→Prop}{C:Int}{bs:List (dm ao)}{bag:List Pk}{L:Lt→Prop}{i:Nat}{b b':dm ao}(h:lU n E C (bs.set i b') bag L)(hb:bs[i]? =some b):BIn b':=h.bin b' (List.mem_of_getElem? (i:=i) (List.getElem?_set_self (List.getElem?_eq_some_iff.1 hb).1))
theorem Qh{n:Nat}{es:List Ed}{B:Nat}{C kd A T P e:Int}{s s':en aU}{L:Lt→Prop}(hel:es.length≤12)(hB:i5 aU n es B s)(hf:ir n es)(h:CV n es C s L)(hC:C+4096<4294967295)(hr:xa aU es kd A T P s s' e): ∃L',CV n es (C+4096) s' L':=by
 have hn:n≤32:=by have:=hB.n16;omega
 have stay: ∃L',CV n es (C+4096) s L':=⟨L,h.core.more (fun _ _ x=>x) (by omega),h.edi⟩
 have one: ∀{C':Int} {i:Nat} {b b':dm ao} {bag':List Pk} {t:Int},C'≤C+4096→s.bs[i]? =some b→(∃L',lU n noE C' (s.bs.set i b') s.bag L')→b'.links=b.links→(∀p∈bag',p∈s.bag)→ ∃L',CV n es (C+4096) (⟨s.bs.set i b',s.up,bag',t⟩:en aU) L':=by
  intro C' i b b' bag' t hc hb hg hl hs
  obtain⟨L0,g0⟩:=hg
  obtain⟨L1,g1,g2⟩:=h.one hb ⟨L0,g0⟩ (Ta (h.core.bin b (List.mem_of_getElem? hb)) (RF g0 hb) fun k=>by rw[hl])
  exact⟨L1,(g1.bagS hs).more (fun _ _ x=>x) hc,g2⟩
 unfold xa at hr
 split at hr
 ·unfold GF at hr
  split at hr
  ·obtain⟨b,b',h1,h2,rfl,_⟩:=hr
   exact one (by omega) h1 (h.core.tick hn h1 (hB.bok b (List.mem_of_getElem? h1)) (by omega) h2) (Ly h2) (fun p hp=>hp)
  ·rw[hr.1];exact⟨L,h.core.more (fun _ _ x=>x) (by omega),h.edi⟩
 ·split at hr
  ·unfold nA at hr
   split at hr
   ·rw[hr.1];exact stay
   ·split at hr
    ·obtain⟨pk,b,b',h1,h2,h3,rfl⟩:=hr
     have hpm:=List.mem_of_getElem? h1
     have ho:=(hB.bag pk hpm).2.1
     exact one (C':=C+2) (by omega) h2 (h.core.recvC hn (h.core.bag pk hpm) h2 ho.1 (hB.bok b (List.mem_of_getElem? h2)) (by omega) h3) (Kp h3) jK.1
    ·split at hr
     ·rw[hr.1];exact⟨L,(h.core.bagS jK.1).more (fun _ _ x=>x) (by omega),h.edi⟩
     ·split at hr
      ·rw[hr.1]
       refine⟨L,(h.core.bagS fun p hp=>?_).more (fun _ _ x=>x) (by omega),h.edi⟩
       unfold dbl at hp
       split at hp
       ·rcases List.mem_append.1 hp with hp|hp
        ·exact hp
        ·rw[Option.mem_toList]at hp
         exact List.mem_of_getElem? hp
       ·exact hp
      ·rw[hr.1];exact stay
  ·split at hr
   ·unfold xh at hr
    split at hr
    ·rw[hr.1];exact stay
    ·split at hr
     ·rename_i hc
      obtain⟨_,x,hx,hcut⟩:=hr
      obtain⟨⟨L',g⟩,_⟩:=LY hB hf h (by omega) hx hc.2 hcut
      exact⟨L',g.core.more (fun _ _ x=>x) (by omega),g.edi⟩
     ·split at hr
      ·rename_i hc
       obtain⟨_,x,hx,hra⟩:=hr
       obtain⟨L',g⟩:=He hB hf h (by omega) hx hc.2 hra
       exact⟨L',g.core.more (fun _ _ x=>x) (by omega),g.edi⟩
      ·rw[hr.1];exact stay
   ·split at hr
    ·unfold yu at hr
     split at hr
     ·rw[hr.1];exact stay
     ·split at hr
      ·rw[hr.1];exact stay
      ·obtain⟨b,b',h1,h2,rfl⟩:=hr
       have hbo:=hB.bok b (List.mem_of_getElem? h1)
       split at h2
       ·exact one (C':=C+1) (by omega) h1 (h.core.dropC hn h1 hbo (by omega) h2) (LC h2) (fun p hp=>hp)
       ·exact one (C':=C+1) (by omega) h1 (h.core.ownC hn h1 hbo (by omega) (Cd P) h2) (LP h2) (fun p hp=>hp)
    ·split at hr
     ·obtain⟨L',g⟩:=LQ hB hf h (by omega) hr
      exact⟨L',g.core.more (fun _ _ x=>x) (by omega),g.edi⟩
     ·rw[hr.1];exact stay
theorem CV.settle{n:Nat}{es:List Ed}{C:Int}{s:en aU}{L:Lt→Prop}(h:CV n es C s L):CV n es C (lW s) L:=⟨h.core.settle,h.edi.congr fun a b=>by
 have e:=rY s.bs
 exact congrArg (fun f=>(f a).lk b) e⟩
theorem Od(n:Nat)(es:List Ed):CV n es 0 (PU aU n es) (fun _=>False):=by
 have hst:iS (pN aU n)=fun _=>vw d00:=by
  funext k
  unfold iS
  split
  ·split
   ·rename_i b hg
    obtain⟨j,_,rfl⟩:=List.mem_map.1 (List.mem_of_getElem? hg)
    rfl
   ·rfl
  ·rfl
 refine⟨⟨?_,(fun pk hpk=>by cases hpk),?_,?_,?_⟩,?_,?_⟩
 ·show Cir noE 0 (iS (pN aU n)) _
  rw[hst];exact Cir.start (Int.le_refl _)
 ·intro b hb pk hpk
  obtain⟨j,_,rfl⟩:=List.mem_map.1 hb
  cases hpk
 ·intro i b hb
  have hb:(pN aU n)[i]? =some b:=hb
  unfold pN at hb
  rw[List.getElem?_map]at hb
  obtain⟨j,hj,rfl⟩:=Option.map_eq_some_iff.1 hb
  have:=(List.getElem?_eq_some_iff.1 hj).2
  rw[List.getElem_range]at this
  subst this
  rfl
 ·intro b hb
  obtain⟨j,_,rfl⟩:=List.mem_map.1 hb
  exact M3 _
 ·intro i e u he hu
  have hu:(List.replicate es.length false)[i]? =some u:=hu
  rw[List.getElem?_replicate]at hu
  have hs: ∀a b,(iS (pN aU n) a).lk b=false:=fun a b=>by rw[hst];rfl
  split at hu
  ·injection hu with hu
   subst hu
   exact⟨hs _ _,hs _ _⟩
  ·cases hu
 ·intro a b hab
  have hs:(iS (pN aU n) a).lk b=false:=by rw[hst];rfl
  have hab:(iS (pN aU n) a).lk b=true:=hab
  rw[hs]at hab;cases hab
theorem LS{n:Nat}{es:List Ed}{B:Nat}{C:Int}{s:en aU}{L:Lt→Prop}(hB:i5 aU n es B s)(h:CV n es C s L)(p:Int×Int): ∃rk,Ig s p rk:=by
 have hn:n≤32:=by have:=hB.n16;omega
 refine⟨fun k=>(iS s.bs k).lst p,fun id r hw hnx=>?_⟩
 obtain⟨hid,b,hb,hrb,hrp⟩:=hw r rfl
 have hbm:=List.mem_of_getElem? hb
 obtain⟨rs,ha,ht⟩:=(h.core.bin b hbm).tin
 obtain⟨q,hq,rfl⟩:=List.mem_map.1 hrb
 have hok:aV (Nn n) b.s:=(hB.bok b hbm).ok
 obtain⟨_,_,x,w,hx,hbest,hnw⟩:=Iz hn hok ha q.2 (ht q hq)
 rw[hrp]at hx
 rw[hnw]at hnx⊢
 exact h.core.cir.rank (FG hid.1 hb) hx (fun w hw=>((hok.kn p x hx).own w hw).2) hbest hnx
theorem O4(n:Nat)(es:List Ed)(h1:1≤n)(h6:n≤6)(hel:es.length≤12)(hf:ir n es):Rx aU n es:=by
 refine⟨fun i s=>i≤120∧ ∃B L,i5 aU n es B s∧CV n es (4096*((i:Nat)+1)) s L,?_,?_,?_⟩
 ·intro s hs
  have hB:=HS gP (by omega) (by omega) hf hs
  obtain⟨s1,hr,rfl⟩:=hs
  obtain⟨L',g⟩:=zz hf (Fh gP (by omega) (by omega) hf) (Od n es) (by rw[List.length_range];omega) List.nodup_range (fun j hj=>by
   show(List.replicate es.length false)[j]? =some false
   rw[List.getElem?_replicate,if_pos (List.mem_range.1 hj)]) hr
  rw[List.length_range]at g
  have g2:=g.settle
  exact⟨by omega,_,L',hB,g2.core.more (fun _ _ x=>x) (by omega),g2.edi⟩
 ·rintro i s s' kd A T P e hi ⟨_,B,L,hB,h⟩ hr
  have hB':=PQ gP hB hr
  obtain⟨s1,hm,rfl⟩:=hr
  obtain⟨L',g⟩:=Qh hel hB hf h (by omega) hm
  have g2:=g.settle
  exact⟨by omega,_,L',hB',g2.core.more (fun _ _ x=>x) (by push_cast;omega),g2.edi⟩
 ·rintro i s ⟨_,B,L,hB,h⟩ p
  exact LS hB h p
abbrev q4E(_:Ctx)(x:Q4)(cs:List Value):Prop:=cs=Q4.C x
theorem SU:Rd Tryz.prog 42 q4E:=by
 refine(GH Tryz.underlying42 kE (vd (sz:=1) (zX Tryz.underlying3) rfl kE (vd (sz:=1) (zX Tryz.underlying3) rfl kE (vd (sz:=1) (zX Tryz.underlying3) rfl kE (Id (sz:=1) (zX Tryz.underlying3) rfl kE))))).map ?_
 rintro J ⟨x,y,z,w⟩ cs ⟨c1,d1,rfl,⟨rfl,_⟩,c2,d2,rfl,⟨rfl,_⟩,c3,d3,rfl,⟨rfl,_⟩,⟨rfl,_⟩⟩
 exact⟨⟨x,y,z,w⟩,rfl⟩
theorem SX:Rd Tryz.prog 34 q4E:=by
 refine(GH Tryz.underlying34 kE (vd (sz:=1) (zX Tryz.underlying3) rfl kE (vd (sz:=1) (zX Tryz.underlying3) rfl kE (vd (sz:=1) (zX Tryz.underlying3) rfl kE (Id (sz:=1) (zX Tryz.underlying3) rfl kE))))).map ?_
 rintro J ⟨x,y,z,w⟩ cs ⟨c1,d1,rfl,⟨rfl,_⟩,c2,d2,rfl,⟨rfl,_⟩,c3,d3,rfl,⟨rfl,_⟩,⟨rfl,_⟩⟩
 exact⟨⟨x,y,z,w⟩,rfl⟩
theorem rd_22:Rd Tryz.prog 22 (QS q4E):=Jv (sz:=4) Tryz.underlying22 kE (fun J x c h=>by rw[h];rfl) SU
theorem rd_23:Rd Tryz.prog 23 (QS q4E):=Jv (sz:=4) Tryz.underlying23 kE (fun J x c h=>by rw[h];rfl) SX
theorem MM{J:Ctx}: ∀{l:List Q4} {cs:List Value},nD (q4E J) l cs→cs=l.flatMap Q4.C
 |[],_,h=>h
 |x::l,_,⟨c,r,e,h1,h2⟩=>by rw[e,h1,MM h2];rfl
theorem M0{J:Ctx}{v:Value}{l:List Q4}(s: ∃a n c,v= .slice a n c)(h:QS q4E J l v.cells.toList): ∃A c,v= .slice A l.length c∧RdC J [] A (l.flatMap Q4.C):=by
 obtain⟨A,c,cs,rfl,h1,h2⟩:=QH s h
 rw[MM h2]at h1
 exact⟨A,c,rfl,h1⟩
theorem row_TopDual{J:Ctx}(a:Int)(ha:(Lit.int .i64 a).wf=true){v1 v2:Value}{l1 l2:List Q4}(s1: ∃a n c,v1= .slice a n c)(h1:QS q4E J l1 v1.cells.toList)(s2: ∃a n c,v2= .slice a n c)(h2:QS q4E J l2 v2.cells.toList):
  Fn Tryz.prog 5 #[.int .i64 a,v1,v2] J [] (fun v h'=>v= .bool true∧h'=[]):=by
 obtain⟨A1,c1,rfl,e1⟩:=M0 s1 h1
 obtain⟨A2,c2,rfl,e2⟩:=M0 s2 h2
 exact Hc e1 e2 fun n es k1 k2 k3 k4=>O4 n es k1 k2 k3 k4
end Go.Proofs.YtadanegddceleaaGreatS
