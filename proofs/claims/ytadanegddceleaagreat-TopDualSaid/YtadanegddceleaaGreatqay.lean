import Derived.Test.YtadanegddceleaaGreatqam
import Derived.Test.YtadanegddceleaaGreatqax
set_option linter.unusedSimpArgs false
set_option linter.unusedVariables false
set_option maxRecDepth 20000
namespace Go.Proofs.YtadanegddceleaaGreatS
theorem Qq{I:Ctx}{K:az}(hK:br K){n:Nat}{es:List Ed}{B:Nat}{s:en K}{q:Nat}{id:Int}{a:NAd}{AR AU:Option Addr}{cR cU G:Nat}{mR mU mG mB:Mem}(ha:OH K n es a)(oU:Own 4 1 AU s.up.length cU (s.up.map Value.bool) mU)(hm:iB K n es s q ((q,.cells (kC n es a AR AU s.bs.length cR s.up.length cU G s.now) 60 (0,0))::(a.mN++(a.hN++(a.mE++(mR++(mU++(mG++mB))))))))(hok:i5 K n es B s)(hB:B+es.length*400000≤800000000)(hid:Nn n id):
  ∀(k i:Nat) (A5:Option Addr) (c5:Nat) (ml h gg:Mem) (u:Nat→Value),i+k=es.length→Own 3 1 A5 (BQ es s.up id i).length c5 (No (BQ es s.up id i)) ml→aM h (((q,.cells (kC n es a AR AU s.bs.length cR s.up.length cU G s.now) 60 (0,0))::(a.mN++(a.hN++(a.mE++(mR++(mU++(mG++mB)))))))++ml) gg→
  Wp Tryz.prog 27 bn (bm ⟨q,0,none⟩ id a.AE es.length a.cE es.length A5 (BQ es s.up id i).length c5 i u) I h (cl_ fun v h'=> ∃e s',v= .int .i64 e∧wo K es id s s' e∧iB K n es s' q h'):=by
 have hel:=hok.el
 have hul:=hok.up
 intro k
 induction k with
 |zero=>
  intro i A5 c5 ml h gg u hi ol hp
  obtain rfl:i=es.length:=by omega
  refine i8 _ _ _ _ _ _ _ _ _ _ _ ?_
  refine b7 (by simp) ?_
  refine aj fun _ _=>?_
  have hl:=BV es s.up id es.length
  have hBl:B+(BQ es s.up id es.length).length*400000≤800000000:=Nat.le_trans (Nat.add_le_add_left (Nat.mul_le_mul_right _ hl) _) hB
  have hl32:(BQ es s.up id es.length).length≤32:=Nat.le_trans hl hel
  refine Qe (l:=BQ es s.up id es.length) (B:=B) (s0:=s) hK ol (fun j hj=>(J0 hj).1) hl32 hok hBl hid (fun s1 s' m' h1 h2 hm'=>⟨0,s',rfl,?_,hm'⟩) (BQ es s.up id es.length).length 0 s _ _ gg _ (by omega) (by rw[List.take_zero];rfl) hm (List.Perm.trans hp (List.perm_append_comm.append_right gg))
  unfold wo
  rw[if_neg (by rw[hok.len];simpa using hid)]
  exact⟨rfl,s1,h1,h2⟩
 |succ k ih=>
  intro i A5 c5 ml h gg u hi ol hp
  have hlt:i<es.length:=by omega
  obtain⟨e,he⟩: ∃e,es[i]? =some e:=⟨_,List.getElem?_eq_getElem hlt⟩
  obtain⟨u0,hu0⟩: ∃u,s.up[i]? =some u:=⟨_,List.getElem?_eq_getElem (by omega)⟩
  obtain⟨ae,hae,hce⟩:=EM ha.oe he
  obtain⟨au,hau,hcu⟩: ∃au,AU=some au∧ ∀J k,(∀z∈mU,z∈k)→df J k au (s.up.map Value.bool):=by
   have oU2:=oU
   obtain⟨h1,h2,⟨_,h3,_⟩|⟨b,arr,h3,_⟩⟩:=oU2
   ·omega
   ·refine⟨_,h3,fun J k hk=>?_⟩
    obtain⟨a2,e1,e2⟩:=oU.rd (I:=J) hk (fun e=>by rw[List.map_eq_nil_iff]at e;rw[e]at hu0;simp at hu0)
    rw[h3]at e1
    injection e1 with e1
    subst e1
    exact e2
  have hci: ∀J k,(∀z∈mU,z∈k)→bh J k (au.add i) (.bool u0):=fun J k hk=>hcu J k hk _ _ (by rw[List.getElem?_map,hu0];rfl)
  have hcond:K9 es s.up id i=(u0&&(e.a==id||e.b==id)):=by unfold K9;rw[hu0,he]
  have hil:=BV es s.up id i
  refine Wp.perm (h:=((q,.cells (kC n es a AR AU s.bs.length cR s.up.length cU G s.now) 60 (0,0))::(a.mN++(a.hN++(a.mE++(mR++(mU++(mG++mB)))))))++(ml++gg)) ?_ ((List.Perm.trans hp cE).symm)
  simp only[List.cons_append,List.append_assoc]
  rw[hae]
  refine i8 _ _ _ _ _ _ _ _ _ _ _ ?_
  refine aX (by simp;omega) ?_
  refine aI ae rfl (sz:=4) kE (by omega) (by omega) rfl ?_
  dsimp only
  rw[Int.toNat_natCast]
  refine bL (cs:=Ed.C e) (ag [{i:=0},{i:=e.a},{i:=e.b},{i:=e.c}]) kE kE (hce _ _ sE) rfl ?_
  dsimp only[ag]
  refine bt u4 fun y _ _=>?_
  refine stU uE kE rE vE ?_;dsimp only[ag];refine ldL mE rE kE ?_;dsimp only[ag]
  rw[hau]
  refine aI au rfl (sz:=1) kE (by omega) (by omega) rfl ?_
  dsimp only
  rw[Int.toNat_natCast,Nat.mul_one]
  refine Is kE (hci _ _ sE) ?_
  rw[←hau,←hae]
  refine ay (fun t1=>?_) (fun t1=>?_)
  ·have t1:u0=true:=t1
   refine ldI mE rE kE ?_;dsimp only[ag]
   refine ay (fun t2=>?_) (fun t2=>?_)
   ·refine gK (e:=3) #[.int .i64 ((i:Nat):Int)] kE fun g hg hIg=>?_
    dsimp only
    refine bP (cl_.aff _) IH kE (cs2:=[.int .i64 ((i:Nat):Int)]) (fun _=>⟨_,rfl,cw mE rfl⟩) (fun h=>by cases h) rfl (by simp) (m:=ml) qE ol (by omega) (by omega) ?_
    intro A2 c2 m2 ho2
    refine aj fun _ _=>?_
    rw[dT (by omega)]
    have ihh:=ih (i+1) A2 c2 m2
    rw[yD,if_pos (by rw[hcond,t1];simp at t2;simp[t2]),List.length_append,show No (BQ es s.up id i++[i])=No (BQ es s.up id i)++[Value.int .i64 ((i:Nat):Int)]from List.flatMap_append]at ihh
    exact ihh _ _ _ (by omega) ho2 pE
   ·refine ldI mE rE kE ?_;dsimp only[ag]
    refine ay (fun t3=>?_) (fun t3=>?_)
    ·refine gK (e:=3) #[.int .i64 ((i:Nat):Int)] kE fun g hg hIg=>?_
     dsimp only
     refine bP (cl_.aff _) IH kE (cs2:=[.int .i64 ((i:Nat):Int)]) (fun _=>⟨_,rfl,cw mE rfl⟩) (fun h=>by cases h) rfl (by simp) (m:=ml) qE ol (by omega) (by omega) ?_
     intro A2 c2 m2 ho2
     refine aj fun _ _=>?_
     rw[dT (by omega)]
     have ihh:=ih (i+1) A2 c2 m2
     rw[yD,if_pos (by rw[hcond,t1];simp at t3;simp[t3]),List.length_append,show No (BQ es s.up id i++[i])=No (BQ es s.up id i)++[Value.int .i64 ((i:Nat):Int)]from List.flatMap_append]at ihh
     exact ihh _ _ _ (by omega) ho2 pE
    ·refine aj fun _ _=>?_
     rw[dT (by omega)]
     have ihh:=ih (i+1) A5 c5 ml
     rw[yD,if_neg (by rw[hcond,t1];simp at t2 t3;simp[t2,t3]),List.append_nil]at ihh
     exact ihh _ _ _ (by omega) ol pE
  ·have t1:u0=false:=t1
   refine aj fun _ _=>?_
   rw[dT (by omega)]
   have ihh:=ih (i+1) A5 c5 ml
   rw[yD,if_neg (by rw[hcond,t1];simp),List.append_nil]at ihh
   exact ihh _ _ _ (by omega) ol pE
theorem H3{I:Ctx}{K:az}(hK:br K){n:Nat}{es:List Ed}{B:Nat}{s:en K}{q:Nat}{m:Mem}{id:Int}(hm:iB K n es s q m)(hok:i5 K n es B s)(hB:B+es.length*400000≤800000000):
  Fn Tryz.prog 27 #[ptV q,.int .i64 id] I m (fun v h'=> ∃e s',v= .int .i64 e∧wo K es id s s' e∧iB K n es s' q h'):=by
 have hm0:=hm
 obtain⟨a,AR,cR,AU,cU,G,ps,mR,mU,mG,mB,rfl,ha,oR,oU,hG,hBB⟩:=hm
 have hpl:=hBB.len
 have hn16:=hok.n16
 have hlen:=hok.len
 refine rt _ _ ?_
 refine ak [] _ bb (List.Perm.refl _) (fun hl=>kc (id:=id) (aF hl (.inl mE)) (by rw[←hpl];rfl) ((oR.rd sE).all hl) (by omega)) ?_
 rintro w h ⟨rfl,rfl⟩
 refine⟨fun _=>{A:=(yX ps id).map fun b=>⟨b,0,none⟩},rfl,?_⟩
 dsimp only
 rw[List.nil_append]
 refine kb kE ?_
 by_cases hA:Nn s.bs.length id
 ·obtain⟨b,hb⟩:=sJ (bs:=s.bs) rfl hA
  obtain⟨p1,m1,mz1,hp1,_⟩:=hBB.get hb
  have hf1:yX ps id=some p1:=by unfold yX;rw[if_pos hA.1];exact hp1
  rw[hf1]
  refine b7 rfl ?_
  refine ldL mE rE kE ?_;dsimp only[ag]
  refine aj fun _ _=>?_
  exact Qq hK ha oU hm0 hok hB (by rwa[hlen]at hA) es.length 0 none 0 [] _ [] _ (by omega) (Own.nil _ _) (by simp[aM])
 ·rw[FQ (by rw[hpl];exact hA)]
  refine aX rfl ?_
  refine aY (h1:=_) (g:=[]) (by rw[List.append_nil]) ⟨5,s,rfl,?_,hm0⟩
  unfold wo
  rw[if_pos hA]
  exact⟨rfl,rfl⟩
def xa(K:az)(es:List Ed)(kd A B C:Int)(s s1:en K)(e:Int):Prop:=
 if kd=0 then GF K A B s s1 e
 else if kd=1∨kd=2∨kd=3 then nA K kd A s s1 e
 else if kd=4∨kd=5 then xh K es kd A s s1 e
 else if kd=6∨kd=7 then yu K kd A B C s s1 e
 else if kd=8 then wo K es A s s1 e
 else s1=s∧e=1
def doR(K:az)(es:List Ed)(kd A B C:Int)(s s':en K)(e:Int):Prop:= ∃s1,xa K es kd A B C s s1 e∧s'=lW s1
theorem jK{L:List Pk}{i:Nat}:(∀p∈L.eraseIdx i,p∈L)∧(L.eraseIdx i).length≤L.length:=⟨fun p hp=>(List.eraseIdx_sublist L i).subset hp,(List.eraseIdx_sublist L i).length_le⟩
theorem KC{K:az}(hK:br K){n:Nat}{es:List Ed}{B:Nat}{kd A e:Int}{s s':en K}(h:i5 K n es B s)(hr:nA K kd A s s' e):i5 K n es (B+200000) s':=by
 unfold nA at hr
 split at hr
 ·rw[hr.1];exact h.more (by omega)
 ·split at hr
  ·obtain⟨pk,b,b',h1,h2,h3,rfl⟩:=hr
   have hp:=h.bag pk (List.mem_of_getElem? h1)
   have g:=(h.set h2 (HJ hK hp.2.2 (h.bok b (List.mem_of_getElem? h2)) h3)).bagS (L:=s.bag.eraseIdx (idx A s.bag.length).toNat) jK.1 jK.2
   exact g.more (by omega)
  ·split at hr
   ·rw[hr.1];exact(h.bagS jK.1 jK.2).more (by omega)
   ·split at hr
    ·rw[hr.1]
     have hd:(∀p∈dbl s.bag (idx A s.bag.length),p∈s.bag)∧(dbl s.bag (idx A s.bag.length)).length≤s.bag.length+1:=by
      unfold dbl
      split
      ·refine⟨fun p hp=>?_,?_⟩
       ·rcases List.mem_append.1 hp with hp|hp
        ·exact hp
        ·rw[Option.mem_toList]at hp
         exact List.mem_of_getElem? hp
       ·rw[List.length_append]
        cases s.bag[(idx A s.bag.length).toNat]? <;>simp
      ·exact⟨fun p hp=>hp,by omega⟩
     exact {h with bag:=fun p hp=>h.bag p (hd.1 p hp),wt:=by have:=h.wt;have:=hd.2;show(dbl s.bag _).length+_≤_;dsimp only;omega}
    ·rw[hr.1];exact h.more (by omega)
theorem i5.time{K:az}{n:Nat}{es:List Ed}{B:Nat}{s:en K}(h:i5 K n es B s)(t:Int):i5 K n es B {s with now:=t}:={h with}
theorem Pi{K:az}(hK:br K){n:Nat}{es:List Ed}{B:Nat}{A T e:Int}{s s':en K}(h:i5 K n es B s)(hr:GF K A T s s' e):i5 K n es (B+200000) s':=by
 unfold GF at hr
 split at hr
 ·obtain⟨b,b',h1,h2,rfl,_⟩:=hr
  exact((h.time (ot s.now T)).set h1 (Ii hK (h.bok b (List.mem_of_getElem? h1)) h2)).more (by omega)
 ·rw[hr.1];exact(h.time _).more (by omega)
theorem OI{K:az}(hK:br K){n:Nat}{es:List Ed}{B:Nat}{kd A T C e:Int}{s s':en K}(h:i5 K n es B s)(hr:yu K kd A T C s s' e):i5 K n es (B+200000) s':=by
 unfold yu at hr
 split at hr
 ·rw[hr.1];exact h.more (by omega)
 ·split at hr
  ·rw[hr.1];exact h.more (by omega)
  ·obtain⟨b,b',h1,h2,rfl⟩:=hr
   have hb:=h.bok b (List.mem_of_getElem? h1)
   have g:za K n 100000 b b':=by
    split at h2
    ·exact H5 hK (Cd C) hb h2
    ·exact J5 hK (Cd C) hb h2
   exact(h.set h1 g).more (by omega)
theorem OS{K:az}(hK:br K){n:Nat}{es:List Ed}{B:Nat}{kd A e:Int}{s s':en K}(h:i5 K n es B s)(hr:xh K es kd A s s' e):i5 K n es (B+200000) s':=by
 unfold xh at hr
 split at hr
 ·rw[hr.1];exact h.more (by omega)
 ·split at hr
  ·obtain⟨_,x,hx,hc⟩:=hr;exact HA hK h hc
  ·split at hr
   ·obtain⟨_,x,hx,hc⟩:=hr;exact C2 hK h hx hc
   ·rw[hr.1];exact h.more (by omega)
abbrev vP(es:List Ed):Nat:=200000+es.length*400000
theorem I8{K:az}(hK:br K){n:Nat}{es:List Ed}{B:Nat}{kd A T C e:Int}{s s':en K}(h:i5 K n es B s)(hr:xa K es kd A T C s s' e):i5 K n es (B+vP es) s':=by
 unfold xa at hr
 split at hr
 ·exact(Pi hK h hr).more (by unfold vP;omega)
 ·split at hr
  ·exact(KC hK h hr).more (by unfold vP;omega)
  ·split at hr
   ·exact(OS hK h hr).more (by unfold vP;omega)
   ·split at hr
    ·exact(OI hK h hr).more (by unfold vP;omega)
    ·split at hr
     ·exact(NF hK h hr).more (by unfold vP;omega)
     ·rw[hr.1];exact h.more (by unfold vP;omega)
theorem PQ{K:az}(hK:br K){n:Nat}{es:List Ed}{B:Nat}{kd A T C e:Int}{s s':en K}(h:i5 K n es B s)(hr:doR K es kd A T C s s' e):i5 K n es (B+vP es) s':=by
 obtain⟨s1,h1,rfl⟩:=hr
 exact(I8 hK h h1).settle
theorem IV{I:Ctx}{K:az}(hK:br K){n:Nat}{es:List Ed}{Bd:Nat}{s:en K}{q:Nat}{m:Mem}{kd A B C:Int}(hm:iB K n es s q m)(hok:i5 K n es Bd s)(hB:Bd+vP es≤800000000):
  Fn Tryz.prog 10 #[ptV q,.agg #[.int .i64 kd,.int .i64 A,.int .i64 B,.int .i64 C]] I m (fun v h'=> ∃e s',v= .int .i64 e∧doR K es kd A B C s s' e∧iB K n es s' q h'):=by
 have hB1:Bd+200000≤800000000:=by unfold vP at hB;omega
 have hB2:Bd+es.length*400000≤800000000:=by unfold vP at hB;omega
 have hokN:=hok.ok (by omega)
 have fin: ∀e h s1 m1 gg,xa K es kd A B C s s1 e→iB K n es s1 q m1→aM h m1 gg→holds Tryz.prog 10 I (cl_ fun v h'=> ∃e s',v= .int .i64 e∧doR K es kd A B C s s' e∧iB K n es s' q h') (.stopU aa (ab ⟨q,0,none⟩ e)) h:=by
  intro e h s1 m1 gg hr hm1 hp
  have g:=I8 hK hok hr
  have gw:=g.wt
  refine aj fun _ _=>?_
  refine tw _ _ _ ?_
  refine ak m1 gg fy hp (fun hl=>us hm1 (fun b hb p hp=>by have:=hK.blen ((g.bok b hb).pk p hp).2.2;omega) (by omega) (by have:=g.len;have:=g.n16;omega)) ?_
  rintro w h2 ⟨rfl,hm2⟩
  refine⟨fun _=>{},rfl,?_⟩
  exact aY (List.Perm.refl _) ⟨e,lW s1,rfl,⟨s1,hr,rfl⟩,hm2⟩
 have gen: ∀(F:FuncId) (args:List Value) (R:en K→Int→Prop) h gg kk,af Tryz.prog F→(∀{I},Fn Tryz.prog F ⟨args⟩ I m (fun v h'=> ∃e s',v= .int .i64 e∧R s' e∧iB K n es s' q h'))→(∀s1 e,R s1 e→xa K es kd A B C s s1 e)→aM h m gg→
   (∀e h s1 m1 gg,xa K es kd A B C s s1 e→iB K n es s1 q m1→aM h m1 gg→holds Tryz.prog 10 I (cl_ fun v h'=> ∃e s',v= .int .i64 e∧doR K es kd A B C s s' e∧iB K n es s' q h') (kk fun _=>{i:=e}) h)→
   holds Tryz.prog 10 I (cl_ fun v h'=> ∃e s',v= .int .i64 e∧doR K es kd A B C s s' e∧iB K n es s' q h') (.call F args (.one (.sc (.int .i64))) kk) h:=by
  intro F args R h gg kk hca hf hR hp hk
  refine ak m gg hca hp (fun hl=>hf) ?_
  rintro w h2 ⟨e,s1,rfl,hr,hm1⟩
  exact⟨fun _=>{i:=e},rfl,hk e _ s1 h2 gg (hR s1 e hr) hm1 (List.Perm.refl _)⟩
 refine vr _ _ _ _ _ ?_
 refine aP fun y _ _=>?_
 refine ldI mE rE kE ?_;dsimp only[ag]
 repeat' (refine ay (fun t=>?_) (fun t=>?_)<;>simp only[beq_iff_eq,beq_eq_false_iff_ne,ne_eq]at t)
 all_goals first
  |(exfalso;omega)
  |exact fin 1 _ s m _ (by unfold xa;rw[if_neg (by omega),if_neg (by omega),if_neg (by omega),if_neg (by omega),if_neg (by omega)];exact⟨rfl,rfl⟩) hm pE
  |((refine la6 mE rE kE ?_;dsimp only[ag]);refine gen 23 _ (GF K A B s) _ _ _ rZ (Kw hK hm hokN) (fun s1 e h=>by unfold xa;rw[if_pos (by omega)];exact h) pE (fun e h s1 m1 gg a b c=>fin e h s1 m1 gg a b c))
  |((refine la6 mE rE kE ?_;dsimp only[ag]);refine gen 24 _ (nA K kd A s) _ _ _ pG (It hK hm hokN) (fun s1 e h=>by unfold xa;rw[if_neg (by omega),if_pos (by omega)];exact h) pE (fun e h s1 m1 gg a b c=>fin e h s1 m1 gg a b c))
  |((refine la6 mE rE kE ?_;dsimp only[ag]);refine gen 25 _ (xh K es kd A s) _ _ _ rm (Kb hK hm hok hB1) (fun s1 e h=>by unfold xa;rw[if_neg (by omega),if_neg (by omega),if_pos (by omega)];exact h) pE (fun e h s1 m1 gg a b c=>fin e h s1 m1 gg a b c))
  |((refine la6 mE rE kE ?_;dsimp only[ag]);refine gen 26 _ (yu K kd A B C s) _ _ _ sT (MH hK hm hokN) (fun s1 e h=>by unfold xa;rw[if_neg (by omega),if_neg (by omega),if_neg (by omega),if_pos (by omega)];exact h) pE (fun e h s1 m1 gg a b c=>fin e h s1 m1 gg a b c))
  |((refine ldI mE rE kE ?_;dsimp only[ag]);refine gen 27 _ (wo K es A s) _ _ _ qS (H3 hK hm hok hB2) (fun s1 e h=>by unfold xa;rw[if_neg (by omega),if_neg (by omega),if_neg (by omega),if_neg (by omega),if_pos (by omega)];exact h) pE (fun e h s1 m1 gg a b c=>fin e h s1 m1 gg a b c))
def Ri{K:az}(s:en K)(id:Int)(rs:List Rt):Prop:=if Nn s.bs.length id then∃b,s.bs[(id - 1).toNat]? =some b∧rs.Perm (QY b.tab)else rs=[]
theorem CI{I:Ctx}{K:az}{n:Nat}{es:List Ed}{s:en K}{q:Nat}{m:Mem}{id:Int}(hm:iB K n es s q m)(hn:s.bs.length≤1000):
  Fn Tryz.prog 12 #[ptV q,.int .i64 id] I m (fun v h'=> ∃rs m1 m2,h'=m1++m2∧Ri s id rs∧iB K n es s q m1∧rN rs v m2):=by
 have hm0:=hm
 obtain⟨a,AR,cR,AU,cU,G,ps,mR,mU,mG,mB,rfl,ha,oR,oU,hG,hB⟩:=hm
 have hpl:=hB.len
 refine rD _ _ ?_
 refine ak [] _ bb (List.Perm.refl _) (fun hl=>kc (id:=id) (aF hl (.inl mE)) (by rw[←hpl];rfl) ((oR.rd sE).all hl) (by omega)) ?_
 rintro w h ⟨rfl,rfl⟩
 refine⟨fun _=>{A:=(yX ps id).map fun b=>⟨b,0,none⟩},rfl,?_⟩
 dsimp only
 rw[List.nil_append]
 refine zZ kE ?_
 by_cases hA:Nn s.bs.length id
 ·obtain⟨b,hb⟩:=sJ (bs:=s.bs) rfl hA
  obtain⟨p1,m1,mz1,hp1,hperm1,hb1,hset1⟩:=hB.get hb
  have hf1:yX ps id=some p1:=by unfold yX;rw[if_pos hA.1];exact hp1
  rw[hf1]
  refine aX rfl ?_
  refine C5 (a:=(q,.cells (kC n es a AR AU s.bs.length cR s.up.length cU G s.now) 60 (0,0))::(a.mN++(a.hN++(a.mE++(mR++(mU++mG)))))) (c:=mB) pE hperm1 ?_
  refine ak m1 _ tv (aM.perm (m:=m1) pE) (fun hl=>Gy hb1) ?_
  rintro w h3 ⟨rs,n1,n2,rfl,hrs,hM2,A,c,rfl,ho⟩
  refine⟨fun _=>{A:=A,n:=rs.length,c:=c},rfl,?_⟩
  obtain⟨mB1,hB1,hq1⟩:=hset1 b p1 n1 hM2
  rw[iy hp1,iy hb]at hB1
  simp only[List.append_assoc]
  refine dl (h1:=(q,.cells (kC n es a AR AU s.bs.length cR s.up.length cU G s.now) 60 (0,0))::(a.mN++(a.hN++(a.mE++(mR++(mU++(mG++(n1++(mz1++n2))))))))) pE (h2:=((q,.cells (kC n es a AR AU s.bs.length cR s.up.length cU G s.now) 60 (0,0))::(a.mN++(a.hN++(a.mE++(mR++(mU++(mG++(mB1))))))))++n2) (aD fun D_ a_=>by have e0_:=List.Perm.count_eq (hq1) a_;simp only[Value.cells,List.count_append,List.count_cons,List.count_nil,List.nil_append,List.cons_append,List.append_nil,List.append_assoc]at e0_;simp only[Value.cells,List.count_append,List.count_cons,List.count_nil,List.nil_append,List.cons_append,List.append_nil,List.append_assoc]<;>omega)
   ⟨rs,_,n2,rfl,?_,⟨a,AR,cR,AU,cU,G,ps,mR,mU,mG,mB1,rfl,ha,oR,oU,hG,hB1⟩,A,c,rfl,ho⟩
  unfold Ri
  rw[if_pos hA]
  exact⟨b,hb,hrs⟩
 ·rw[FQ (by rw[hpl];exact hA)]
  refine b7 rfl ?_
  refine aY (h1:=((q,.cells (kC n es a AR AU s.bs.length cR s.up.length cU G s.now) 60 (0,0))::(a.mN++(a.hN++(a.mE++(mR++(mU++(mG++(mB))))))))++[]) (g:=[]) (by simp) ⟨[],_,[],rfl,?_,hm0,none,0,rfl,Own.nil _ _⟩
  unfold Ri
  rw[if_neg hA]
theorem Nc{I:Ctx}{K:az}{n:Nat}{es:List Ed}{s:en K}{q:Nat}{m:Mem}(hm:iB K n es s q m):
  Fn Tryz.prog 28 #[ptV q] I m (fun v h'=>v= .int .i64 (s.bs.length:Nat)∧iB K n es s q h'):=by
 have hm0:=hm
 obtain⟨a,AR,cR,AU,cU,G,ps,mR,mU,mG,mB,rfl,ha,oR,oU,hG,hB⟩:=hm
 refine ul _ ?_
 refine ldL mE rE kE ?_;dsimp only[ag]
 exact aY (h1:=_) (g:=[]) (by rw[List.append_nil]) ⟨rfl,hm0⟩
theorem J6{I:Ctx}{K:az}{n:Nat}{es:List Ed}{s:en K}{q:Nat}{m:Mem}(hm:iB K n es s q m):
  Fn Tryz.prog 15 #[ptV q] I m (fun v h'=>v= .int .i64 (s.bag.length:Nat)∧iB K n es s q h'):=by
 have hm0:=hm
 obtain⟨a,AR,cR,AU,cU,G,ps,mR,mU,mG,mB,rfl,ha,oR,oU,hG,hB⟩:=hm
 refine pX _ ?_
 refine ldP mE rE kE ?_;dsimp only[ag]
 refine ak [] _ uv (List.Perm.refl _) (fun hl=>GR (iN.read hG hl sE)) ?_
 rintro w h1 ⟨rfl,rfl⟩
 refine⟨fun _=>{i:=s.bag.length},rfl,?_⟩
 exact aY (h1:=_) (g:=[]) (by rw[List.append_nil,List.nil_append]) ⟨rfl,hm0⟩
theorem DA{I:Ctx}{A:Option Addr}{n c:Nat}{cs:List Value}(hr:RdC I [] A cs)(hl:cs.length=n*2)(hA:A=none→n=0)(hp: ∀v∈cs,(∀x,v≠ .agg x)∧ ∀x,v≠ .tuple x)(hb:n≤1000):
  Fn Tryz.prog 16 #[.slice A n c] I [] (fun v h'=> ∃A' c',v= .slice A' n c'∧Own 54 2 A' n c' cs h'):=by
 refine wK _ _ _ ?_
 refine k8 (fun _=>{b:=A.isNone}) (yv (.inl rfl) kE rfl) ?_
 refine ay (fun hb'=>?_) (fun hb'=>?_)
 ·have hA0:A=none:=by simpa using hb'
  subst hA0
  have hn:=hA rfl
  subst hn
  have hl0:cs=[]:=List.eq_nil_of_length_eq_zero (by omega)
  subst hl0
  exact aC ⟨none,0,rfl,Own.nil _ _⟩
 ·refine gK (e:=54) #[] kE fun g hg hI=>?_
  refine bP (cl_.aff _) LN kE (hr.sub Sub.self) hA (by simp[hl]) hp (m:=[(g,.cells #[] 54 (0,0))]) (hr:=[]) (List.Perm.refl _) (Own.row (n:=0) rfl) (by omega) (by omega) ?_
  intro A' c' m' ho
  refine aY (h1:=m') (g:=[]) (by simp) ⟨A',c',?_,?_⟩
  ·simp
  ·simpa using ho
theorem DH{I:Ctx}{A:Option Addr}{n c:Nat}{cs:List Value}(hr:RdC I [] A cs)(hl:cs.length=n*4)(hA:A=none→n=0)(hp: ∀v∈cs,(∀x,v≠ .agg x)∧ ∀x,v≠ .tuple x)(hb:n≤1000):
  Fn Tryz.prog 17 #[.slice A n c] I [] (fun v h'=> ∃A' c',v= .slice A' n c'∧Own 42 4 A' n c' cs h'):=by
 refine wz _ _ _ ?_
 refine k8 (fun _=>{b:=A.isNone}) (yv (.inl rfl) kE rfl) ?_
 refine ay (fun hb'=>?_) (fun hb'=>?_)
 ·have hA0:A=none:=by simpa using hb'
  subst hA0
  have hn:=hA rfl
  subst hn
  have hl0:cs=[]:=List.eq_nil_of_length_eq_zero (by omega)
  subst hl0
  exact aC ⟨none,0,rfl,Own.nil _ _⟩
 ·refine gK (e:=42) #[] kE fun g hg hI=>?_
  refine bP (cl_.aff _) NN kE (hr.sub Sub.self) hA (by simp[hl]) hp (m:=[(g,.cells #[] 42 (0,0))]) (hr:=[]) (List.Perm.refl _) (Own.row (n:=0) rfl) (by omega) (by omega) ?_
  intro A' c' m' ho
  refine aY (h1:=m') (g:=[]) (by simp) ⟨A',c',?_,?_⟩
  ·simp
  ·simpa using ho
theorem Rv(es:List Ed):(es.flatMap Ed.C).length=es.length*4:=by
 induction es with
 |nil=>rfl
 |cons x es ih=>rw[List.flatMap_cons,List.length_append,ih];show 4+es.length*4=(es.length+1)*4;omega
theorem OA(es:List Ed): ∀v∈es.flatMap Ed.C,(∀x,v≠ .agg x)∧ ∀x,v≠ .tuple x:=by
 intro v hv
 obtain⟨r,_,hv⟩:=List.mem_flatMap.1 hv
 simp at hv
 rcases hv with rfl|rfl|rfl|rfl<;>simp
def Bi(I:Ctx)(A:Option Addr)(es:List Ed):Prop:= ∀i e,es[i]? =some e→ ∃a,A=some a∧df I [] (a.add (i*4)) (Ed.C e)
theorem Bi.of{I:Ctx}{A:Option Addr}{es:List Ed}(h:RdC I [] A (es.flatMap Ed.C)):Bi I A es:=by
 intro i e he
 obtain⟨a,rfl,hc⟩:=h (fun x=>by have:=II he 0 _ rfl;rw[x]at this;simp at this)
 exact⟨a,rfl,fun q v hq=>by rw[add_add];exact hc _ v (II he q v hq)⟩
theorem Bi.up{I J:Ctx}{A:Option Addr}{es:List Ed}(h:Bi I A es)(hs: ∀b o,I b=some o→J b=some o):Bi J A es:=fun i e he=>by
 obtain⟨a,h1,h2⟩:=h i e he
 exact⟨a,h1,h2.up hs⟩
def mQ(e x:Ed):Bool:=x.a==e.a&&x.b==e.b||x.a==e.b&&x.b==e.a
def inB(n:Nat)(id:Int):Bool:=decide (id≥1)&&decide (id≤n)
def FF(n:Nat)(ahead:List Ed)(e:Ed):Bool:=inB n e.a&&(inB n e.b&&(e.a !=e.b&&(decide (e.c≥1)&&(decide (e.c≤15)&& !(ahead.any (mQ e))))))
theorem O0{I:Ctx}{g0:Nat}{cs:Array Value}{t:TypeId}{fz:Nat×Nat}{pr:Int}(hg:I g0=some (.cells cs t fz))(hc:cs[0]? =some (.int .i64 0)):Fn Tryz.prog 37 #[.agg #[.int .i64 0,.int .i64 pr],ptV g0] I [] (fun v h'=>v= .bool true∧h'=[]):=by
 refine sZ _ _ _ ?_
 refine aP fun y _ _=>?_
 refine ldI mE rE kE ?_;dsimp only[ag]
 refine aZ kE ⟨rfl,_,_,_,.inr hg,hc⟩ ?_
 exact d9 [_] rfl ⟨rfl,rfl⟩
theorem KH{I:Ctx}{g0:Nat}{cs:Array Value}{t:TypeId}{fz:Nat×Nat}{pr:Int}{A:Option Addr}{c:Nat}(hg:I g0=some (.cells cs t fz))(hc:cs[0]? =some (.int .i64 0))(hj:RdC I [] A [.int .i64 0,.int .i64 pr])(h1:1≤c):
  Fn Tryz.prog 36 #[.slice A 1 c,.func (.func 37) #[] #[ptV g0]] I [] (fun v h'=>v= .bool true∧h'=[]):=by
 obtain⟨ad,rfl,hcell⟩:=hj (by simp)
 refine pd _ _ _ _ ?_
 refine aA (v:= .int .i64 0) (fun _=>{i:=0}) qz (fun hl=>?_) rfl ?_
 ·refine rl _ _ _ _ ?_
  refine aj fun _ _=>?_
  refine p7 _ _ _ _ _ _ ?_
  refine aX (by simp) ?_
  refine aI ad rfl (sz:=2) kE (by omega) (by omega) rfl ?_
  dsimp only
  rw[show(0:Int).toNat*2=0 from rfl,qR]
  refine bL (cs:=[.int .i64 0,.int .i64 pr]) (ag [{i:=0},{i:=pr}]) kE kE ((hcell.up (Sub.self.up hl)).sub Sub.self) rfl ?_
  dsimp only[ag]
  refine aA (v:= .bool true) (fun _=>{b:=true}) rg (fun hl2=>O0 (Sub.self.up hl2 _ _ (Sub.self.up hl _ _ hg)) hc) rfl ?_
  refine aX rfl ?_
  exact aC ⟨rfl,rfl⟩
 ·exact aC ⟨rfl,rfl⟩
theorem Ni{I:Ctx}{K:az}{g0 g1:Nat}{cs1:Array Value}{t0 t1:TypeId}{fz0 fz1:Nat×Nat}{A:Option Addr}{n c:Nat}{csn:List Value}{id:Int}(hg0:I g0=some (.cells #[.slice A n c] t0 fz0))(hg1:I g1=some (.cells cs1 t1 fz1))(hc1:cs1[0]? =some (.int .i64 0))(hr:RdC I [] A csn)(hn:nE K I n csn)(hn16:n≤1000):
  Fn Tryz.prog 35 #[.int .i64 id,ptV g0,ptV g1] I [] (fun v h'=>v= .bool (inB n id)∧h'=[]):=by
 unfold inB
 refine yH _ _ _ ?_
 refine ay (fun h1=>?_) (fun h1=>?_)
 ·refine dS kE (uB hg0 rfl) ?_
  dsimp only
  refine ay (fun h2=>?_) (fun h2=>?_)
  ·have g1':id≥1:=by simpa using h1
   have g2':id≤(n:Int):=by simpa using h2
   refine dS kE (uB hg0 rfl) ?_
   dsimp only
   rw[cr (by omega)]
   obtain⟨Aj,cj,k1,k2,k3⟩:=hn.get (i:=(id - 1).toNat) (by omega)
   obtain⟨ad,rfl,hcell⟩:=hr (fun e=>by have:=k3 0 _ rfl;rw[e]at this;simp at this)
   refine aI ad rfl (sz:=2) kE (by omega) (by omega) rfl ?_
   dsimp only
   refine dS kE ((hcell _ _ (k3 0 _ rfl)).sub Sub.self) ?_
   dsimp only
   refine aA (v:= .bool true) (fun _=>{b:=true}) nV (fun hl=>KH (Sub.self.up hl _ _ hg1) hc1 (k2.up (Sub.self.up hl)) k1) rfl ?_
   exact aC ⟨by rw[h1,h2];rfl,rfl⟩
  ·exact aC ⟨by rw[h2,Bool.and_false],rfl⟩
 ·exact aC ⟨by rw[h1,Bool.false_and],rfl⟩
theorem Lc{I:Ctx}{g0:Nat}{t:TypeId}{fz:Nat×Nat}{e x:Ed}(hg:I g0=some (.cells ⟨Ed.C e⟩ t fz)):Fn Tryz.prog 38 #[x.V,ptV g0] I [] (fun v h'=>v= .bool (mQ e x)∧h'=[]):=by
 have hc: ∀{h:Mem} (o:Nat) v,(Ed.C e)[o]? =some v→bh I h ⟨g0,o,none⟩ v:=fun o v hv=>⟨rfl,_,_,_,.inr hg,by simpa using hv⟩
 unfold mQ
 refine xR _ _ _ _ _ ?_
 refine aP fun y _ _=>?_
 have fin: ∀b,b=(x.a==e.a&&x.b==e.b||x.a==e.b&&x.b==e.a)→holds Tryz.prog 38 I (cl_ fun v h'=>v= .bool (x.a==e.a&&x.b==e.b||x.a==e.b&&x.b==e.a)∧h'=[]) (.done (.bool b)) [(y,.cells (Ed.V x).cells 42 (0,0))]:=fun b hb=>aC ⟨by rw[hb],rfl⟩
 refine ldI mE rE kE ?_;dsimp only[ag]
 refine aZ kE (hc 0 _ rfl) ?_
 refine aX rfl ?_
 refine ldI mE rE kE ?_;dsimp only[ag]
 refine aZ kE (hc 1 _ rfl) ?_
 refine ay (fun t1=>?_) (fun t1=>?_)
 ·have t1:(x.a==e.a)=true:=t1
  refine ldI mE rE kE ?_;dsimp only[ag]
  refine aZ kE (hc 2 _ rfl) ?_
  refine ay (fun t2=>?_) (fun t2=>?_)
  ·have t2:(x.b==e.b)=true:=t2
   exact fin _ (by rw[t1,t2];rfl)
  ·have t2:(x.b==e.b)=false:=t2
   refine ldI mE rE kE ?_;dsimp only[ag]
   refine aZ kE (hc 2 _ rfl) ?_
   refine ay (fun t3=>?_) (fun t3=>?_)
   ·have t3:(x.a==e.b)=true:=t3
    refine ldI mE rE kE ?_;dsimp only[ag]
    refine aZ kE (hc 1 _ rfl) ?_
    exact fin _ (by rw[t1,t2,t3];rfl)
   ·have t3:(x.a==e.b)=false:=t3
    exact fin _ (by rw[t1,t2,t3];rfl)
 ·have t1:(x.a==e.a)=false:=t1
  refine ldI mE rE kE ?_;dsimp only[ag]
  refine aZ kE (hc 2 _ rfl) ?_
  refine ay (fun t3=>?_) (fun t3=>?_)
  ·have t3:(x.a==e.b)=true:=t3
   refine ldI mE rE kE ?_;dsimp only[ag]
   refine aZ kE (hc 1 _ rfl) ?_
   exact fin _ (by rw[t1,t3];rfl)
  ·have t3:(x.a==e.b)=false:=t3
   exact fin _ (by rw[t1,t3];rfl)
def Ra(e:Ed):List Ed→Int→Int
 |[],_=> -1
 |x::l,i=>if mQ e x=true then i else Ra e l (i+1)
theorem IT{e:Ed}: ∀{l:List Ed} {i:Int},0≤i→(decide (Ra e l i≥0)=l.any (mQ e))
 |[],i,h=>by rfl
 |x::l,i,h=>by
  rw[Ra,List.any_cons]
  split
  ·rename_i hx;rw[hx,Bool.true_or];simpa using h
  ·rename_i hx
   rw[Bool.not_eq_true]at hx
   rw[hx,Bool.false_or]
   exact IT (by omega)
theorem HB{I:Ctx}{g0:Nat}{t:TypeId}{fz:Nat×Nat}{A:Option Addr}{c:Nat}{es:List Ed}{e:Ed}(hg:I g0=some (.cells ⟨Ed.C e⟩ t fz))(hin:Bi I A es)(hbd:es.length≤1000):
  ∀(n i:Nat) (h:Mem) (u:Nat→Value),i+n=es.length→Wp Tryz.prog 59 dE (dF A es.length c g0 i u) I h (cl_ fun v h'=>v= .int .i64 (Ra e (es.drop i) i)∧h'=[]):=by
 intro n
 induction n with
 |zero=>
  intro i h u hi
  rw[List.drop_of_length_le (by omega)]
  refine jf _ _ _ _ _ _ ?_
  refine b7 (by simp;omega) ?_
  exact aC ⟨rfl,rfl⟩
 |succ n ih=>
  intro i h u hi
  obtain⟨x,hx⟩: ∃x,es[i]? =some x:=⟨_,List.getElem?_eq_getElem (show i<es.length by omega)⟩
  have hd:es.drop i=x::es.drop (i+1):=by
   rw[List.drop_eq_getElem_cons (show i<es.length by omega)]
   congr 1
   exact(List.getElem?_eq_some_iff.1 hx).2
  obtain⟨ad,rfl,hc⟩:=hin i x hx
  refine jf _ _ _ _ _ _ ?_
  refine aX (by simp;omega) ?_
  refine aI ad rfl (sz:=4) kE (by omega) (by omega) rfl ?_
  dsimp only
  rw[Int.toNat_natCast]
  refine bL (cs:=Ed.C x) (ag [{i:=0},{i:=x.a},{i:=x.b},{i:=x.c}]) kE kE (hc.sub Sub.self) rfl ?_
  dsimp only[ag]
  refine aA (v:= .bool (mQ e x)) (fun _=>{b:=mQ e x}) wN (fun hl=>Lc (Sub.self.up hl _ _ hg)) rfl ?_
  rw[hd,Ra]
  refine ay (fun t1=>?_) (fun t1=>?_)
  ·have t1:mQ e x=true:=t1
   rw[if_pos t1]
   exact aC ⟨rfl,rfl⟩
  ·have t1:mQ e x=false:=t1
   rw[if_neg (by rw[t1];exact Bool.false_ne_true)]
   refine aj fun _ _=>?_
   rw[dT (by omega)]
   exact ih (i+1) _ _ (by omega)
theorem Nv{I:Ctx}{g0:Nat}{t:TypeId}{fz:Nat×Nat}{A:Option Addr}{c:Nat}{es:List Ed}{e:Ed}(hg:I g0=some (.cells ⟨Ed.C e⟩ t fz))(hin:Bi I A es)(hbd:es.length≤1000):
  Fn Tryz.prog 39 #[.slice A es.length c,.func (.func 38) #[] #[ptV g0]] I [] (fun v h'=>v= .bool (es.any (mQ e))∧h'=[]):=by
 refine oW _ _ _ _ ?_
 refine aA (v:= .int .i64 (Ra e es 0)) (fun _=>{i:=Ra e es 0}) qv (fun hl=>?_) rfl ?_
 ·refine rv _ _ _ _ ?_
  refine aj fun _ _=>?_
  exact HB (Sub.self.up hl _ _ hg) (hin.up (Sub.self.up hl)) hbd es.length 0 _ _ (by omega)
 ·exact aC ⟨by rw[←IT (i:=0) (Int.le_refl _)],rfl⟩
theorem NB{I:Ctx}{K:az}{A A2:Option Addr}{n c c2:Nat}{csn:List Value}{ahead:List Ed}{e:Ed}(hr:RdC I [] A csn)(hn:nE K I n csn)(hn16:n≤1000)(hin:Bi I A2 ahead)(hbd:ahead.length≤1000):
  Fn Tryz.prog 20 #[.slice A n c,.slice A2 ahead.length c2,e.V] I [] (fun v h'=>v= .bool (FF n ahead e)∧h'=[]):=by
 unfold FF
 refine Dy _ _ _ _ _ _ _ _ _ _ ?_
 refine aP fun g0 _ _=>?_
 refine aP fun g1 _ _=>?_
 refine ldI mE rE kE ?_;dsimp only[ag]
 have up: ∀{h:Mem},dJ I h→ ∀b o,I b=some o→plus I h b=some o:=fun hl=>Sub.self.up hl
 refine aA (v:= .bool (inB n e.a)) (fun _=>{b:=inB n e.a}) nY (fun hl=>Ni (aF hl (.inl (mq1 mq0))) (aF hl (.inl mq0)) (by rfl) (hr.up (up hl)) (hn.up (up hl)) hn16) rfl ?_
 have fin: ∀{b:Bool} {h:Mem},b=(inB n e.a&&(inB n e.b&&(e.a !=e.b&&(decide (e.c≥1)&&(decide (e.c≤15)&& !(ahead.any (mQ e)))))))→holds Tryz.prog 20 I (cl_ fun v h'=>v= .bool (inB n e.a&&(inB n e.b&&(e.a !=e.b&&(decide (e.c≥1)&&(decide (e.c≤15)&& !(ahead.any (mQ e)))))))∧h'=[]) (.done (.bool b)) h:=fun hb=>aC ⟨by rw[hb],rfl⟩
 refine ay (fun t1=>?_) (fun t1=>?_)
 ·have t1:inB n e.a=true:=t1
  refine ldI mE rE kE ?_;dsimp only[ag]
  refine aA (v:= .bool (inB n e.b)) (fun _=>{b:=inB n e.b}) nY (fun hl=>Ni (aF hl (.inl (mq1 mq0))) (aF hl (.inl mq0)) (by rfl) (hr.up (up hl)) (hn.up (up hl)) hn16) rfl ?_
  refine ay (fun t2=>?_) (fun t2=>?_)
  ·have t2:inB n e.b=true:=t2
   refine ldI mE rE kE ?_;dsimp only[ag];refine ldI mE rE kE ?_;dsimp only[ag]
   refine ay (fun t3=>?_) (fun t3=>?_)
   ·have t3:(e.a !=e.b)=true:=t3
    refine ldI mE rE kE ?_;dsimp only[ag]
    refine ay (fun t4=>?_) (fun t4=>?_)
    ·have t4:decide (e.c≥1)=true:=t4
     refine ldI mE rE kE ?_;dsimp only[ag]
     refine ay (fun t5=>?_) (fun t5=>?_)
     ·have t5:decide (e.c≤15)=true:=t5
      refine aA (v:= .bool (ahead.any (mQ e))) (fun _=>{b:=ahead.any (mQ e)}) nl (fun hl=>Nv (aF hl (.inl mq0)) (hin.up (up hl)) hbd) rfl ?_
      exact fin (by rw[t1,t2,t3,t4,t5];rfl)
     ·exact fin (by rw[t1,t2,t3,t4,show decide (e.c≤15)=false from t5];rfl)
    ·exact fin (by rw[t1,t2,t3,show decide (e.c≥1)=false from t4];rfl)
   ·exact fin (by rw[t1,t2,show(e.a !=e.b)=false from t3];rfl)
  ·exact fin (by rw[t1,show inB n e.b=false from t2];rfl)
 ·exact fin (by rw[show inB n e.a=false from t1];rfl)
def pN(K:az)(i:Nat):List (dm K.S):=(List.range i).map fun j=>DD K ((j:Nat)+1)
theorem K5(K:az)(i:Nat):pN K (i+1)=pN K i++[DD K ((i:Nat)+1)]:=by unfold pN;rw[List.range_succ,List.map_append];rfl
theorem GN(K:az)(i:Nat):(pN K i).length=i:=by simp[pN]
def PU(K:az)(i:Nat)(es:List Ed):en K:=⟨pN K i,List.replicate es.length false,[],0⟩
def ir(n:Nat)(es:List Ed):Prop:= ∀i e,es[i]? =some e→FF n (es.take i) e=true
def PY(K:az)(n:Nat)(es:List Ed)(s':en K):Prop:= ∃s1,nS K es (List.range es.length) (PU K n es) s1∧s'=lW s1
theorem Jd{n:Nat}{l:List Ed}{e:Ed}(h:FF n l e=true):(Nn n e.a∧Nn n e.b∧e.a≠e.b∧1≤e.c∧e.c≤15)∧l.any (mQ e)=false:=by
 unfold FF inB at h
 simp only[Bool.and_eq_true,decide_eq_true_eq,bne_iff_ne,ne_eq,Bool.not_eq_true']at h
 obtain⟨⟨a1,a2⟩,⟨b1,b2⟩,c,d1,d2,e1⟩:=h
 exact⟨⟨⟨a1,a2⟩,⟨b1,b2⟩,c,d1,d2⟩,e1⟩
theorem Fh{K:az}(hK:br K){n:Nat}{es:List Ed}(hn:n≤16)(he:es.length≤32)(hf:ir n es):i5 K n es 0 (PU K n es)where
 len:=GN K n
 n16:=hn
 bok:=fun b hb=>by
  obtain⟨j,hj,rfl⟩:=List.mem_map.1 hb
  have:=List.mem_range.1 hj
  exact⟨hK.new_ok (by omega),(fun x hx=>by cases hx),(fun k hk=>by simp[ah]at hk),(fun p hp=>by cases hp),List.nodup_nil⟩
 bag:=fun p hp=>by cases hp
 wt:=by
  have e:(pN K n).flatMap (·.out)=[]:=by unfold pN;rw[List.flatMap_map];simp
  show 0+((pN K n).flatMap (·.out)).length≤0
  rw[e];exact Nat.le_refl _
 up:=by show(List.replicate _ _).length=_;rw[List.length_replicate]
 el:=he
 ed:=fun e hm=>by
  obtain⟨i,hi⟩:=List.getElem?_of_mem hm
  exact(Jd (hf i e hi)).1
theorem HS{K:az}(hK:br K){n:Nat}{es:List Ed}{s:en K}(hn:n≤16)(he:es.length≤32)(hf:ir n es)(h:PY K n es s):i5 K n es (es.length*200000) s:=by
 obtain⟨s1,h1,rfl⟩:=h
 have:=(nc hK (Fh hK hn he hf) h1).settle
 rw[List.length_range]at this
 exact this.more (by omega)
theorem S1{I:Ctx}{K:az}(hK:br K){n:Nat}{es:List Ed}{q:Nat}{Q:Value→Mem→Prop}(hn:n≤16)(hes:es.length≤32)(hf:ir n es)
  (hQ: ∀s' m,PY K n es s'→iB K n es s' q m→Q (.tuple #[ptV q,.int .i64 0]) m):
  ∀(k i:Nat) (s:en K) (m h gg:Mem) (u:Nat→Value),i+k=es.length→nS K es (List.range i) (PU K n es) s→iB K n es s q m→aM h m gg→
  Wp Tryz.prog 7 jW (kz es.length q i u) I h (cl_ Q):=by
 intro k
 induction k with
 |zero=>
  intro i s m h gg u hi hr hm hp
  obtain rfl:i=es.length:=by omega
  have g:=nc hK (Fh hK hn hes hf) hr
  have gw:=g.wt
  rw[List.length_range]at gw
  have gl:=g.len
  refine tP _ _ _ _ ?_
  refine b7 (by simp) ?_
  refine ak m gg fy hp (fun hl=>us hm (fun b hb p hp=>by have:=hK.blen ((g.bok b hb).pk p hp).2.2;omega) (by omega) (by omega)) ?_
  rintro w h2 ⟨rfl,hm2⟩
  refine⟨fun _=>{},rfl,?_⟩
  exact aY (List.Perm.refl _) (hQ _ h2 ⟨s,hr,rfl⟩ hm2)
 |succ k ih=>
  intro i s m h gg u hi hr hm hp
  obtain⟨e,he⟩: ∃e,es[i]? =some e:=⟨_,List.getElem?_eq_getElem (show i<es.length by omega)⟩
  have g:=nc hK (Fh hK hn hes hf) hr
  rw[List.length_range]at g
  refine tP _ _ _ _ ?_
  refine aX (by simp;omega) ?_
  refine ak m gg fR hp (fun hl=>w8 hK hm g (by omega) he) ?_
  rintro w h2 ⟨rfl,s',hr2,hm2⟩
  refine⟨fun _=>{},rfl,?_⟩
  refine aj fun _ _=>?_
  rw[dT (by omega)]
  refine ih (i+1) s' h2 _ gg _ (by omega) ?_ hm2 (List.Perm.refl _)
  rw[List.range_succ]
  exact ud hr he hr2
theorem ST{I:Ctx}{K:az}(hK:br K){n:Nat}{es:List Ed}{q:Nat}{A A2:Option Addr}{c c2:Nat}{csn:List Value}{hN:Mem}{Q:Value→Mem→Prop}(hr:RdC I [] A csn)(hnd:nE K (plus noC hN) n csn)(hE:Bi I A2 es)(hc2:es.length≤c2)(hAc:A2=none→es=[])(hn:n≤16)(hes:es.length≤32){m:Mem}(hsub: ∀x∈hN,x∈m)(hm:iB K n es (PU K n es) q m)
  (hQ: ∀s' m,ir n es→PY K n es s'→iB K n es s' q m→Q (.tuple #[ptV q,.int .i64 0]) m)(hbad: ¬ir n es→Q (.tuple #[.pointer none,.int .i64 1]) []):
  ∀(k i:Nat) (h gg:Mem) (u:Nat→Value),i+k=es.length→(∀j e,j<i→es[j]? =some e→FF n (es.take j) e=true)→aM h m gg→
  Wp Tryz.prog 7 ku (jY A n c A2 es.length c2 q i u) I h (cl_ Q):=by
 intro k
 induction k with
 |zero=>
  intro i h gg u hi hf hp
  refine ur _ _ _ _ _ _ _ _ _ ?_
  refine b7 (by simp;omega) ?_
  refine aj fun _ _=>?_
  have hf':ir n es:=fun j e hj=>hf j e (by have:=(List.getElem?_eq_some_iff.1 hj).1;omega) hj
  exact S1 hK hn hes hf' (fun s' m'=>hQ s' m' hf') es.length 0 _ m _ gg _ (by omega) rfl hm hp
 |succ k ih=>
  intro i h gg u hi hf hp
  obtain⟨e,he⟩: ∃e,es[i]? =some e:=⟨_,List.getElem?_eq_getElem (show i<es.length by omega)⟩
  obtain⟨ad,rfl,hce⟩:=hE i e he
  refine Wp.perm (h:=m++gg) ?_ (List.Perm.symm hp)
  refine ur _ _ _ _ _ _ _ _ _ ?_
  refine aX (by simp;omega) ?_
  refine aI ad rfl (sz:=4) kE (by omega) (by omega) rfl ?_
  dsimp only
  rw[Int.toNat_natCast]
  refine bL (cs:=Ed.C e) (ag [{i:=0},{i:=e.a},{i:=e.b},{i:=e.c}]) kE kE (hce.sub Sub.self) rfl ?_
  dsimp only[ag]
  refine bt u4 fun y _ _=>?_
  refine stU uE kE rE vE ?_;dsimp only[ag]
  refine uK (e:=42) (sz:=4) 0 i c2 kE kE rfl rfl rfl (by simp) (by omega) (by omega) (by omega) ?_
  simp only[nB,Nat.sub_zero]
  refine la6 mE rE kE ?_;dsimp only[ag]
  have hlt:(es.take i).length=i:=by rw[List.length_take];omega
  have hE2:Bi I (some ad) (es.take i):=fun j e' hj=>by
   rw[List.getElem?_take]at hj
   split at hj
   ·exact hE j e' hj
   ·cases hj
  refine aA (v:= .bool (FF n (es.take i) e)) (fun _=>{b:=FF n (es.take i) e}) Ct (fun hl=>by
   have:=NB (I:=_root_.Go.Proofs.YtadanegddceleaaGreatS.plus I _) (A:=A) (c:=c) (c2:=c2) (e:=e) (hr.up (Sub.self.up hl)) (hnd.up fun b o hb=>aF hl (.inl (mq1 (List.mem_append_left _ (hsub _ (p9 hb)))))) (by omega) (hE2.up (Sub.self.up hl)) (by omega)
   rwa[hlt]at this) rfl ?_
  refine ay (fun t1=>?_) (fun t1=>?_)
  ·exact aY (h1:=[]) (by simp;exact List.Perm.refl _) (hbad fun hf=>by rw[hf i e he]at t1;cases t1)
  ·have t1:FF n (es.take i) e=true:=by simpa using t1
   refine aj fun _ _=>?_
   rw[dT (by omega)]
   refine ih (i+1) _ _ _ (by omega) (fun j e' hj he'=>?_) pE
   by_cases hji:j<i
   ·exact hf j e' hji he'
   ·obtain rfl:j=i:=by omega
    rw[he]at he'
    injection he' with he'
    subst he'
    exact t1
theorem Tb{I:Ctx}{K:az}(hK:br K){n:Nat}{es:List Ed}{q:Nat}{A A2:Option Addr}{c c2:Nat}{csn:List Value}{a:NAd}{AU:Option Addr}{cU G:Nat}{mU mG:Mem}{Q:Value→Mem→Prop}(hr:RdC I [] A csn)(hnd:nE K (plus noC a.hN) n csn)(hE:Bi I A2 es)(hc2:es.length≤c2)(hAc:A2=none→es=[])(hn:n≤16)(hes:es.length≤32)
  (ha:OH K n es a)(oU:Own 4 1 AU es.length cU ((List.replicate es.length false).map Value.bool) mU)(hG:iN 76 G [] mG)
  (hQ: ∀s' m,ir n es→PY K n es s'→iB K n es s' q m→Q (.tuple #[ptV q,.int .i64 0]) m)(hbad: ¬ir n es→Q (.tuple #[.pointer none,.int .i64 1]) []):
  ∀(k i:Nat) (AR:Option Addr) (cR:Nat) (ps:List Nat) (mR mB h gg:Mem) (u:Nat→Value),i+k=n→Own 61 1 AR (pN K i).length cR (ps.map ptV) mR→I1 K (pN K i) ps mB→aM h ((q,.cells (kC n es a AR AU (pN K i).length cR es.length cU G 0) 60 (0,0))::(a.mN++(a.hN++(a.mE++(mR++(mU++(mG++mB))))))) gg→
  Wp Tryz.prog 7 ka (ke A n c A2 es.length c2 q i u) I h (cl_ Q):=by
 intro k
 induction k with
 |zero=>
  intro i AR cR ps mR mB h gg u hi oR hB hp
  obtain rfl:i=n:=by omega
  refine ux _ _ _ _ _ _ _ _ _ ?_
  refine b7 (by simp) ?_
  refine aj fun _ _=>?_
  have hm:iB K i es (PU K i es) q ((q,.cells (kC i es a AR AU (pN K i).length cR es.length cU G 0) 60 (0,0))::(a.mN++(a.hN++(a.mE++(mR++(mU++(mG++mB))))))):=
   ⟨a,AR,cR,AU,cU,G,ps,mR,mU,mG,mB,by unfold PU;dsimp only;rw[List.length_replicate],ha,oR,by unfold PU;dsimp only;rw[List.length_replicate];exact oU,hG,hB⟩
  exact ST hK hr hnd hE hc2 hAc hn hes (fun x hx=>by simp[hx]) hm hQ hbad es.length 0 _ gg _ (by omega) (fun j e hj=>by omega) hp
 |succ k ih=>
  intro i AR cR ps mR mB h gg u hi oR hB hp
  have hil:=GN K i
  refine Wp.perm (h:=(q,.cells (kC n es a AR AU (pN K i).length cR es.length cU G 0) 60 (0,0))::(a.mN++(a.hN++(a.mE++(mR++(mU++(mG++(mB++gg)))))))) ?_ ((List.Perm.trans hp cE).symm)
  refine ux _ _ _ _ _ _ _ _ _ ?_
  refine aX (by simp;omega) ?_
  rw[cr (by omega)]
  refine ak [] _ jb (List.Perm.refl _) (fun hl=>CJ hK (id:=(i:Int)+1) (c:=a.cN) (csn:=a.csn) (A:=a.AN) (aF hl (.inl mE)) (by rfl) ((ha.on.rd sE).all hl) (ha.nods.up fun b o hb=>aF hl (.inl (by have:=p9 hb;simp[this]))) ⟨by omega,by omega⟩ hn) ?_
  rintro w hw ⟨p',rfl,hbn⟩
  refine⟨ag [{A:=some ⟨p',0,none⟩},{i:=0}],rfl,?_⟩
  dsimp only[ag]
  refine b7 rfl ?_
  refine ldL mE rE kE ?_;dsimp only[ag]
  refine gK (e:=61) #[ptV p'] kE fun g hg hIg=>?_
  dsimp only
  refine bP (cl_.aff _) Ma kE (cs2:=[ptV p']) (fun _=>⟨_,rfl,cw mE rfl⟩) (fun h=>by cases h) rfl (by simp) (m:=mR) qE oR (by omega) (by omega) ?_
  intro AR2 cR2 mR2 oR2
  refine stU uE kE rE vE ?_;dsimp only[ag]
  refine aj fun _ _=>?_
  have ihh:=ih (i+1) AR2 cR2 (ps++[p']) mR2 (mB++hw)
  rw[K5,List.length_append,List.map_append]at ihh
  exact ihh _ _ _ (by omega) oR2 (hB.app hbn) pE
theorem PB(n:Nat):(Builtin.zeroCells (Value.bool false).cells n).toList=(List.replicate n false).map Value.bool:=by
 apply List.ext_getElem?
 intro i
 rw[List.getElem?_map,List.getElem?_replicate,Array.getElem?_toList]
 unfold Builtin.zeroCells
 simp only[Array.getElem?_map,Array.getElem?_range]
 by_cases h:i<n
 ·rw[if_pos h,if_pos (by simpa[Value.cells]using h)]
  simp[Value.cells,Nat.mod_one]
 ·rw[if_neg h,if_neg (by simpa[Value.cells]using h)]
  rfl
theorem JN{I:Ctx}{K:az}(hK:br K){n:Nat}{es:List Ed}{A A2:Option Addr}{c c2:Nat}{csn:List Value}{hN:Mem}(hr:RdC I [] A csn)(hnd:nE K (plus noC hN) n csn)(hA:A=none→n=0)(hE:RdC I [] A2 (es.flatMap Ed.C))(hA2:A2=none→es.length=0)(hc2:es.length≤c2)(hn1:1≤n)(hn:n≤16)(hes:es.length≤32):
  Fn Tryz.prog 7 #[.slice A n c,.slice A2 es.length c2] I hN (fun v h'=>(v= .tuple #[.pointer none,.int .i64 1]∧ ¬ir n es)∨ ∃q s',v= .tuple #[ptV q,.int .i64 0]∧ir n es∧PY K n es s'∧iB K n es s' q h'):=by
 refine Fz _ _ _ _ _ _ ?_
 refine b7 (by simp;omega) ?_
 refine b7 (by simp;omega) ?_
 refine b7 (by simp;omega) ?_
 refine ak [] _ vH (List.Perm.refl _) (fun hl=>DA (hr.up (Sub.self.up hl)) hnd.len hA hnd.plain (by omega)) ?_
 rintro w mN ⟨AN,cN,rfl,oN⟩
 refine⟨fun _=>{A:=AN,n:=n,c:=cN},rfl,?_⟩
 refine ak [] _ vo (List.Perm.refl _) (fun hl=>DH (hE.up (Sub.self.up hl)) (Rv es) hA2 (OA es) (by omega)) ?_
 rintro w mE ⟨AE,cE,rfl,oE⟩
 refine⟨fun _=>{A:=AE,n:=es.length,c:=cE},rfl,?_⟩
 refine ak [] _ Ip (List.Perm.refl _) (fun hl=>Mk) ?_
 rintro w mG ⟨G,rfl,hG⟩
 refine⟨fun _=>{A:=some ⟨G,0,none⟩},rfl,?_⟩
 refine JP Qz (Nat.le_refl _) (by omega) (by omega) fun gu hgu hIgu oU=>?_
 dsimp only
 refine aP fun q _ _=>?_
 refine aj fun _ _=>?_
 rw[PB]at oU
 refine Tb hK (a:=⟨AN,cN,csn,mN,hN,AE,cE,mE⟩) hr hnd (Bi.of hE) hc2 (fun h=>List.eq_nil_of_length_eq_zero (hA2 h)) hn hes ⟨oN,hnd,oE⟩ oU hG (fun s' m h1 h2 h3=> .inr ⟨q,s',rfl,h1,h2,h3⟩) (fun hf=> .inl ⟨rfl,hf⟩) n 0 none 0 [] [] [] _ _ _ (by omega) (Own.nil _ _) rfl pE
def isR(p:Int×Int)(x:Rt):Bool:=x.dom==0&&(x.p.1==p.1&&x.p.2==p.2)
theorem Pq{I:Ctx}{g0 g1:Nat}{fz0 fz1:Nat×Nat}{p:Int×Int}{x:Rt}(h0:I g0=some (.cells #[.int .i64 0] 3 fz0))(h1:I g1=some (.cells ⟨pfC p⟩ 45 fz1)):Fn Tryz.prog 73 #[x.V,ptV g0,ptV g1] I [] (fun v h'=>v= .bool (isR p x)∧h'=[]):=by
 unfold isR
 refine DV _ _ _ _ _ _ _ _ _ ?_
 refine aP fun y _ _=>?_
 refine ldI mE rE kE ?_;dsimp only[ag]
 refine aZ kE ⟨rfl,_,_,_,.inr h0,rfl⟩ ?_
 refine ay (fun t1=>?_) (fun t1=>?_)
 ·have t1:(x.dom==0)=true:=t1
  refine lz mE rE kE ?_;dsimp only[ag]
  refine bL (cs:=pfC p) (ag [{i:=p.1},{i:=p.2}]) kE kE (fun q v hq=>by rw[kp];exact⟨rfl,_,_,_,.inr h1,by simpa using hq⟩) rfl ?_
  dsimp only[ag]
  refine Jz [(x.p.1==p.1),(x.p.2==p.2)] kE kE ?_
  exact d9 [_] rfl ⟨by rw[t1];simp,rfl⟩
 ·have t1:(x.dom==0)=false:=t1
  exact d9 [_] rfl ⟨by rw[t1];rfl,rfl⟩
def J3(p:Int×Int):List Rt→Int→Int
 |[],_=> -1
 |x::l,i=>if isR p x=true then i else J3 p l (i+1)
theorem Js{p:Int×Int}: ∀{l:List Rt} {i:Int},0≤i→ ¬J3 p l i<0→ ∃x,l[(J3 p l i - i).toNat]? =some x∧isR p x=true∧i≤J3 p l i∧J3 p l i<i+l.length
 |[],i,h,hn=>absurd (show(-1:Int)<0 by decide) hn
 |x::l,i,h,hn=>by
  rw[J3]at hn⊢
  split at hn
  ·rename_i hx
   rw[if_pos hx]
   refine⟨x,by rw[Int.sub_self];rfl,hx,Int.le_refl _,by rw[List.length_cons];omega⟩
  ·rename_i hx
   rw[if_neg hx]
   obtain⟨y,h1,h2,h3,h4⟩:=Js (by omega) hn
   refine⟨y,?_,h2,by omega,by rw[List.length_cons];omega⟩
   rw[show(J3 p l (i+1) - i).toNat=(J3 p l (i+1) - (i+1)).toNat+1 by omega,List.getElem?_cons_succ]
   exact h1
theorem In{I:Ctx}{g0 g1:Nat}{fz0 fz1:Nat×Nat}{p:Int×Int}{A:Option Addr}{c:Nat}{rs:List Rt}(h0:I g0=some (.cells #[.int .i64 0] 3 fz0))(h1:I g1=some (.cells ⟨pfC p⟩ 45 fz1))(hin:RdC I [] A (rs.flatMap Rt.C))(hbd:rs.length≤1000000):
  ∀(n i:Nat) (h:Mem) (u:Nat→Value),i+n=rs.length→Wp Tryz.prog 72 cY (da A rs.length c g0 g1 i u) I h (cl_ fun v h'=>v= .int .i64 (J3 p (rs.drop i) i)∧h'=[]):=by
 intro n
 induction n with
 |zero=>
  intro i h u hi
  rw[List.drop_of_length_le (by omega)]
  refine iQ _ _ _ _ _ _ _ ?_
  refine b7 (by simp;omega) ?_
  exact aC ⟨rfl,rfl⟩
 |succ n ih=>
  intro i h u hi
  obtain⟨x,hx⟩: ∃x,rs[i]? =some x:=⟨_,List.getElem?_eq_getElem (show i<rs.length by omega)⟩
  have hd:rs.drop i=x::rs.drop (i+1):=by
   rw[List.drop_eq_getElem_cons (show i<rs.length by omega)]
   congr 1
   exact(List.getElem?_eq_some_iff.1 hx).2
  obtain⟨ad,rfl,hc⟩:=hin (fun e=>by have:=JX hx 0 _ rfl;rw[e]at this;simp at this)
  refine iQ _ _ _ _ _ _ _ ?_
  refine aX (by simp;omega) ?_
  refine aI ad rfl (sz:=7) kE (by omega) (by omega) rfl ?_
  dsimp only
  rw[Int.toNat_natCast]
  refine bL (cs:=Rt.C x) (ag [{i:=x.p.1},{i:=x.p.2},{i:=x.dom},{i:=x.dist},{i:=x.met},{i:=x.next},{i:=x.tag}]) kE kE (fun q v hq=>by rw[add_add];exact(hc _ v (JX hx q v hq)).sub Sub.self) rfl ?_
  dsimp only[ag]
  refine aA (v:= .bool (isR p x)) (fun _=>{b:=isR p x}) CK (fun hl=>Pq (Sub.self.up hl _ _ h0) (Sub.self.up hl _ _ h1)) rfl ?_
  rw[hd,J3]
  refine ay (fun t1=>?_) (fun t1=>?_)
  ·have t1:isR p x=true:=t1
   rw[if_pos t1]
   exact aC ⟨rfl,rfl⟩
  ·have t1:isR p x=false:=t1
   rw[if_neg (by rw[t1];exact Bool.false_ne_true)]
   refine aj fun _ _=>?_
   rw[dT (by omega)]
   exact ih (i+1) _ _ (by omega)
def Tf{K:az}(s:en K)(id:Int)(p:Int×Int)(o:Option Rt):Prop:= ∀r,o=some r→Nn s.bs.length id∧ ∃b,s.bs[(id - 1).toNat]? =some b∧r∈QY b.tab∧r.p=p
abbrev Tp(o:Option Rt):Value:= .tuple #[(o.getD rt0).V,.bool o.isSome]
theorem Pj{I:Ctx}{K:az}{n:Nat}{es:List Ed}{s:en K}{q:Nat}{m:Mem}{id:Int}{p:Int×Int}(hm:iB K n es s q m)(hn:s.bs.length≤1000)(htl: ∀b∈s.bs,b.tab.length≤1000):
  Fn Tryz.prog 51 #[ptV q,.int .i64 id,.int .i64 0,pfV p] I m (fun v h'=> ∃o,v=Tp o∧Tf s id p o∧iB K n es s q h'):=by
 refine KU _ _ _ _ _ ?_
 refine aP fun g0 _ _=>?_
 refine aP fun g1 _ _=>?_
 refine bt gC fun y _ _=>?_
 refine ak m _ jI (aM.perm (m:=m) pE) (fun hl=>CI (id:=id) hm hn) ?_
 rintro w h2 ⟨rs,m1,m2,rfl,htab,hm1,A,c,rfl,ho⟩
 refine⟨fun _=>{A:=A,n:=rs.length,c:=c},rfl,?_⟩
 have hrl:rs.length≤1000000:=by
  unfold Ri at htab
  split at htab
  ·obtain⟨b,hb,hp⟩:=htab
   have:=htl b (List.mem_of_getElem? hb)
   have:=hp.length_eq
   simp at this
   omega
  ·rw[htab];simp
 simp only[List.append_assoc]
 refine aA (v:= .int .i64 (J3 p rs 0)) (fun _=>{i:=J3 p rs 0}) pH (fun hl=>?_) rfl ?_
 ·refine qV _ _ _ _ _ ?_
  refine aj fun _ _=>?_
  exact In (aF hl (.inl mE)) (aF hl (.inl mE)) ((ho.rd sE).all hl) hrl rs.length 0 _ _ (by omega)
 refine ay (fun t1=>?_) (fun t1=>?_)
 ·refine stU uE kE rE vE ?_;refine Ti mE rE kE ?_;dsimp only[ag]
  refine aY (aM.perm (m:=m1) pE) ⟨none,rfl,(fun r hr=>by cases hr),hm1⟩
 ·have t1: ¬J3 p rs 0<0:=by simpa using t1
  obtain⟨x,hx,hisr,hi0,hi1⟩:=Js (Int.le_refl _) t1
  rw[Int.sub_zero]at hx
  obtain⟨ad,rfl,hcell⟩:=yO ho hx
  dsimp only
  refine aI ad rfl (sz:=7) kE (by omega) (by omega) rfl ?_
  dsimp only
  refine bL (cs:=Rt.C x) (ag [{i:=x.p.1},{i:=x.p.2},{i:=x.dom},{i:=x.dist},{i:=x.met},{i:=x.next},{i:=x.tag}]) kE kE (hcell _ _ sE) rfl ?_
  dsimp only[ag]
  refine stU uE kE rE vE ?_;refine Ti mE rE kE ?_;dsimp only[ag]
  refine aY (aM.perm (m:=m1) pE) ⟨some x,rfl,?_,hm1⟩
  intro r hr
  injection hr with hr
  subst hr
  have hxm:=List.mem_of_getElem? hx
  unfold Ri at htab
  split at htab
  ·rename_i hA
   obtain⟨b,hb,hp⟩:=htab
   refine⟨hA,b,hb,hp.mem_iff.1 hxm,?_⟩
   unfold isR at hisr
   simp only[Bool.and_eq_true,beq_iff_eq]at hisr
   exact Prod.ext hisr.2.1 hisr.2.2
  ·rw[htab]at hxm;cases hxm
theorem I1.few{K:az}: ∀{bs:List (dm K.S)} {ps:List Nat} {m:Mem},I1 K bs ps m→ ∀b∈bs,b.tab.length≤64
 |b::bs,p::ps,_,⟨m1,m2,_,h1,h2⟩,x,hx=>by
  rcases List.mem_cons.1 hx with rfl|hx
  ·exact h1.few
  ·exact h2.few x hx
 |[],_,_,_,x,hx=>by cases hx
 |_::_,[],_,h,_,_=>h.elim
theorem iB.few{K:az}{n:Nat}{es:List Ed}{s:en K}{q:Nat}{m:Mem}(h:iB K n es s q m): ∀b∈s.bs,b.tab.length≤64:=by
 obtain⟨a,AR,cR,AU,cU,G,ps,mR,mU,mG,mB,rfl,ha,oR,oU,hG,hB⟩:=h
 exact hB.few
theorem N9{l:List (Int×Bool)}{n:Nat}(hn:(am l).Nodup)(h: ∀k∈am l,Nn n k):l.length≤n:=by
 have:=Cy hn h
 simpa[am]using this
def Ig{K:az}(s:en K)(p:Int×Int)(rk:Int→Int):Prop:= ∀id r,Tf s id p (some r)→r.next≠0→rk r.next<rk id
theorem PD{I:Ctx}{K:az}{n:Nat}{es:List Ed}{s:en K}{q g0:Nat}{p:Int×Int}{rk:Int→Int}{y13 x14:Int}{M:Nat}{Q:Value→Mem→Prop}(hl:s.bs.length=n)(hn:n≤1000)(hf:Ig s p rk)
  (hk: ∀m h gg u,iB K n es s q m→aM h ([(g0,.cells ⟨pfC p⟩ 45 (0,0))]++m) gg→Wp Tryz.prog 31 fX (fU ⟨q,0,none⟩ 0 g0 y13 (IntKind.wrap .i64 (x14+1)) u) I h (cl_ Q)):
  ∀(k:Nat) (l:List (Int×Bool)) (at_:Int) (m h gg:Mem) (mo:Obj) (u:Nat→Value),l.length+k=n+1→ky yr Value.bool l mo→(∀i∈am l,Nn n i∧rk at_<rk i)→iB K n es s q m→aM h ([(g0,.cells ⟨pfC p⟩ 45 (0,0))]++([(M,mo)]++m)) gg→
  Wp Tryz.prog 31 jU (ki ⟨q,0,none⟩ 0 g0 y13 x14 (some M) at_ u) I h (cl_ Q):=by
 intro k
 induction k with
 |zero=>
  intro l at_ m h gg mo u hlk hmo hall hm hp
  exfalso
  have:=N9 hmo.nd fun i hi=>(hall i hi).1
  omega
 |succ k ih=>
  intro l at_ m h gg mo u hlk hmo hall hm hp
  have hno:ah l at_=none:=bW.2 fun hi=>by have:=(hall at_ hi).2;omega
  refine Wp.perm (h:=(g0,.cells ⟨pfC p⟩ 45 (0,0))::(M,mo)::(m++gg)) ?_ ((List.Perm.trans hp cE).symm)
  refine CX _ _ _ _ _ _ _ _ ?_
  refine dZ E1 rfl Im (.inl mE) hmo (x:=at_) (ok:=false) (fun _=>{b:=false}) (by rw[hno];rfl) ?_
  refine b7 rfl ?_
  refine uw (cl_.aff _) E1 rfl (aM.perm1 pE) hmo (x:=at_) true rfl fun mo' hmo'=>?_
  refine lz mE rE kE ?_;dsimp only[ag]
  refine ak m _ HC (aM.perm (m:=m) pE) (fun hl2=>Pj (id:=at_) (p:=p) hm (by omega) (fun b hb=>by have:=hm.few b hb;omega)) ?_
  rintro w h2 ⟨o,rfl,hw,hm2⟩
  refine⟨ag (rtL (o.getD rt0) o.isSome),rfl,?_⟩
  dsimp only[ag]
  refine bt gC fun y _ _=>?_
  refine stU uE kE rE vE ?_;dsimp only[ag]
  cases o with
  |none=>
   refine aX rfl ?_
   refine aj fun _ _=>?_
   exact hk h2 _ _ _ hm2 pE
  |some r=>
   refine b7 rfl ?_
   refine ldI mE rE kE ?_;dsimp only[ag]
   refine ay (fun t1=>?_) (fun t1=>?_)
   ·refine aj fun _ _=>?_
    exact hk h2 _ _ _ hm2 pE
   ·have t1:r.next≠0:=by simpa using t1
    refine ldI mE rE kE ?_;dsimp only[ag]
    refine aj fun _ _=>?_
    have hlt:=hf at_ r hw t1
    have hat:Nn n at_:=by have:=(hw r rfl).1;rwa[hl]at this
    have hnk:at_∉am l:=bW.1 hno
    refine ih (aL l at_ true) r.next h2 _ _ mo' _ ?_ hmo' ?_ hm2 pE
    ·rw[pM,if_neg hnk];omega
    ·intro i hi
     rw[gL,if_neg hnk]at hi
     rcases List.mem_append.1 hi with hi|hi
     ·have:=hall i hi;exact⟨this.1,by show rk r.next<_;omega⟩
     ·rw[List.mem_singleton.1 hi];exact⟨hat,hlt⟩
theorem OB{I:Ctx}{K:az}{n:Nat}{es:List Ed}{s:en K}{q g0:Nat}{p:Int×Int}{rk:Int→Int}(hl:s.bs.length=n)(hn:n≤1000)(hf:Ig s p rk):
  ∀(k i:Nat) (m h gg:Mem) (u:Nat→Value),i+k=n→iB K n es s q m→aM h ([(g0,.cells ⟨pfC p⟩ 45 (0,0))]++m) gg→
  Wp Tryz.prog 31 fX (fU ⟨q,0,none⟩ 0 g0 n i u) I h (cl_ fun v h'=>v= .bool false∧iB K n es s q h'):=by
 intro k
 induction k with
 |zero=>
  intro i m h gg u hi hm hp
  refine uy _ _ _ _ _ _ ?_
  refine b7 (by simp;omega) ?_
  exact aY (h1:=m) (g:=[(g0,.cells ⟨pfC p⟩ 45 (0,0))]++gg) (List.Perm.trans hp cE) ⟨rfl,hm⟩
 |succ k ih=>
  intro i m h gg u hi hm hp
  refine Wp.perm (h:=(g0,.cells ⟨pfC p⟩ 45 (0,0))::(m++gg)) ?_ ((List.Perm.trans hp cE).symm)
  refine uy _ _ _ _ _ _ ?_
  refine aX (by simp;omega) ?_
  refine ip fun M _ _=>?_
  refine aj fun _ _=>?_
  refine PD (n:=n) hl hn hf (fun m' h' gg' u' hm' hp'=>?_) (n+1) [] _ m _ _ _ _ (by simp) (ky.nil _ _) (fun i hi=>by cases hi) hm pE
  rw[dT (by omega)]
  exact ih (i+1) m' h' gg' _ (by omega) hm' hp'
theorem HL{I:Ctx}{K:az}{n:Nat}{es:List Ed}{s:en K}{q:Nat}{m:Mem}{p:Int×Int}{rk:Int→Int}(hm:iB K n es s q m)(hl:s.bs.length=n)(hn:n≤1000)(hf:Ig s p rk):
  Fn Tryz.prog 31 #[ptV q,.int .i64 0,pfV p] I m (fun v h'=>v= .bool false∧iB K n es s q h'):=by
 refine FL _ _ _ _ ?_
 refine aP fun g0 _ _=>?_
 refine ak m _ s6 (aM.perm (m:=m) pE) (fun hl2=>Nc hm) ?_
 rintro w h2 ⟨rfl,hm2⟩
 refine⟨fun _=>{i:=(s.bs.length:Nat)},rfl,?_⟩
 dsimp only
 rw[hl]
 refine aj fun _ _=>?_
 exact OB hl hn hf n 0 h2 _ _ _ (by omega) hm2 pE
def Nj(c:Int):Int×Int:=(IntKind.wrap .u32 ((IntKind.wrap .u32 (IntKind.wrap .i64 (2560+c)))*65536),16)
theorem HF{I:Ctx}{c:Int}:Fn Tryz.prog 32 #[.int .i64 c] I [] (fun v h'=>v=pfV (Nj c)∧h'=[]):=by
 refine yz _ ?_
 refine aP fun _ _ _=>?_;dsimp only[ag];refine stU uE kE rE vE ?_;refine Tl mE rE kE ?_;dsimp only[ag]
 exact d9 [_] rfl ⟨rfl,rfl⟩
theorem Gr{I:Ctx}{K:az}{n:Nat}{es:List Ed}{s:en K}{q:Nat}{m:Mem}(hm:iB K n es s q m)(hl:s.bs.length=n)(hn:n≤1000)(hf: ∀p,∃rk,Ig s p rk):
  Fn Tryz.prog 14 #[ptV q] I m (fun v h'=>v= .bool false∧iB K n es s q h'):=by
 refine xb _ ?_
 refine aj fun _ _=>?_
 have key: ∀(k i:Nat) (m h:Mem) (u:Nat→Value),i+k=4→iB K n es s q m→h.Perm m→Wp Tryz.prog 14 fj (eW ⟨q,0,none⟩ i u) I h (cl_ fun v h'=>v= .bool false∧iB K n es s q h'):=by
  intro k
  induction k with
  |zero=>
   intro i m h u hi hm hp
   refine lK _ _ _ ?_
   refine b7 (by simp;omega) ?_
   exact aY (h1:=m) (g:=[]) (by rw[List.append_nil];exact hp) ⟨rfl,hm⟩
  |succ k ih=>
   intro i m h u hi hm hp
   refine Wp.perm (h:=m) ?_ hp.symm
   refine lK _ _ _ ?_
   refine aX (by simp;omega) ?_
   refine ak [] _ wY (List.Perm.refl _) (fun hl2=>HF) ?_
   rintro w h2 ⟨rfl,rfl⟩
   refine⟨ag [{i:=(Nj i).1},{i:=(Nj i).2}],rfl,?_⟩
   dsimp only[ag]
   rw[List.nil_append]
   obtain⟨rk,hrk⟩:=hf (Nj i)
   refine ak m [] Ds (by rw[List.append_nil]) (fun hl2=>HL (p:=Nj i) hm hl hn hrk) ?_
   rintro w h3 ⟨rfl,hm3⟩
   refine⟨fun _=>{b:=false},rfl,?_⟩
   refine b7 rfl ?_
   refine aj fun _ _=>?_
   rw[dT (by omega)]
   exact ih (i+1) h3 _ _ (by omega) hm3 (by rw[List.append_nil])
 exact key 4 0 m m _ (by omega) hm (List.Perm.refl _)
structure Q4 where
 x:Int
 y:Int
 z:Int
 w:Int
abbrev Q4.C(e:Q4):List Value:=[.int .i64 e.x,.int .i64 e.y,.int .i64 e.z,.int .i64 e.w]
def Q4.ed(e:Q4):Ed:=⟨e.y,e.z,e.w⟩
theorem PG{l:List Q4}{i:Nat}{e:Q4}(h:l[i]? =some e): ∀q v,(Q4.C e)[q]? =some v→(l.flatMap Q4.C)[i*4+q]? =some v:=by
 induction l generalizing i with
 |nil=>simp at h
 |cons x l ih=>
  intro q v hq
  have hq4:q<4:=(List.getElem?_eq_some_iff.1 hq).1
  rw[List.flatMap_cons]
  cases i with
  |zero=>
   simp at h
   subst h
   rw[Nat.zero_mul,Nat.zero_add,List.getElem?_append_left (show q<(Q4.C x).length from hq4)]
   exact hq
  |succ i=>
   rw[List.getElem?_append_right (show(Q4.C x).length≤_ by show 4≤_;omega),show(i+1)*4+q - (Q4.C x).length=i*4+q by show _ - 4=_;omega]
   exact ih (by simpa using h) q v hq
theorem SC{I:Ctx}{A:Option Addr}{l:List Q4}{i:Nat}{e:Q4}(h:RdC I [] A (l.flatMap Q4.C))(he:l[i]? =some e): ∃a,A=some a∧df I [] (a.add (i*4)) (Q4.C e):=by
 obtain⟨a,rfl,hc⟩:=h (fun x=>by have:=PG he 0 _ rfl;rw[x]at this;simp at this)
 exact⟨a,rfl,fun q v hq=>by rw[add_add];exact hc _ v (PG he q v hq)⟩
theorem nE.app{K:az}{J:Ctx}: ∀{n:Nat} {cs:List Value} {A:Option Addr} {c:Nat},nE K J n cs→1≤c→RdC J [] A [.int .i64 0,.int .i64 K.proto]→nE K J (n+1) (cs++[.slice A 1 c,.slice none 0 0])
 |0,cs,A,c,h,h1,h2=>by rw[show cs=[]from h];exact⟨A,c,[],rfl,h1,h2,rfl⟩
 |n+1,_,A,c,⟨A',c',r,e,g1,g2,g3⟩,h1,h2=>by subst e;exact⟨A',c',r++[.slice A 1 c,.slice none 0 0],rfl,g1,g2,g3.app h1 h2⟩
abbrev PL(K:az)(n:Nat)(v:Value)(h':Mem):Prop:= ∃A c csn mN hN,v= .slice A n c∧h'=mN++hN∧Own 54 2 A n c csn mN∧nE K (plus noC hN) n csn
theorem Lk{I:Ctx}{K:az}{n:Nat}(hn:n≤16): ∀(k i:Nat) (A:Option Addr) (c:Nat) (csn:List Value) (mN hN h gg:Mem) (u:Nat→Value),i+k=n→Own 54 2 A i c csn mN→nE K (plus noC hN) i csn→aM h (mN++hN) gg→
  Wp Tryz.prog 8 gD (gp K.proto n A i c i u) I h (cl_ (PL K n)):=by
 intro k
 induction k with
 |zero=>
  intro i A c csn mN hN h gg u hi ho hc hp
  obtain rfl:i=n:=by omega
  refine oz _ _ _ _ _ _ _ ?_
  refine b7 (by simp) ?_
  exact aY hp ⟨A,c,csn,mN,hN,rfl,rfl,ho,hc⟩
 |succ k ih=>
  intro i A c csn mN hN h gg u hi ho hc hp
  refine Wp.perm (h:=mN++(hN++gg)) ?_ ((List.Perm.trans hp cE).symm)
  refine oz _ _ _ _ _ _ _ ?_
  refine aX (by simp;omega) ?_
  refine gK (e:=67) #[.int .i64 0,.int .i64 K.proto] kE fun j hj hjI=>?_
  dsimp only
  refine gK (e:=54) #[.slice (some ⟨j,0,none⟩) 1 1,.slice none 0 0] kE fun g hg hgI=>?_
  dsimp only
  refine bP (cl_.aff _) LN kE (cs2:=[.slice (some ⟨j,0,none⟩) 1 1,.slice none 0 0]) (fun _=>⟨_,rfl,cw mE rfl⟩) (fun h=>by cases h) rfl (by simp) (m:=mN) qE ho (by omega) (by omega) ?_
  intro A2 c2 m2 ho2
  refine aj fun _ hl=>?_
  rw[dT (by omega)]
  refine ih (i+1) A2 c2 _ m2 (hN++[(j,.cells #[.int .i64 0,.int .i64 K.proto] 67 (0,0))]) _ _ _ (by omega) ho2 ?_ pE
  have hl2:dJ noC (hN++[(j,.cells #[.int .i64 0,.int .i64 K.proto] 67 (0,0))]):=(hl.perm (aM.perm (m:=hN++[(j,.cells #[.int .i64 0,.int .i64 K.proto] 67 (0,0))]) pE)).left.no
  refine nE.app (hc.up fun b o hb=>aF hl2 (.inl (List.mem_append_left _ (p9 hb)))) (by omega) ?_
  exact RdC.all hl2 (fun _=>⟨_,rfl,cw (List.mem_append_right _ mq0) rfl⟩)
theorem Eh{I:Ctx}{K:az}{n:Nat}(hn:n≤16):Fn Tryz.prog 8 #[.int .i64 K.proto,.int .i64 n] I [] (PL K n):=by
 refine zx _ _ ?_
 refine aj fun _ _=>?_
 exact Lk hn n 0 none 0 [] [] [] [] [] _ (by omega) (Own.nil _ _) rfl pE
abbrev LU(l:List Q4)(v:Value)(h':Mem):Prop:= ∃A c,v= .slice A l.length c∧Own 42 4 A l.length c ((l.map Q4.ed).flatMap Ed.C) h'
theorem Le{I:Ctx}{l:List Q4}{Aa:Option Addr}{ca:Nat}(hin:RdC I [] Aa (l.flatMap Q4.C))(hbd:l.length≤1000): ∀(k i:Nat) (A:Option Addr) (c:Nat) (m h gg:Mem) (u:Nat→Value),i+k=l.length→Own 42 4 A i c (((l.take i).map Q4.ed).flatMap Ed.C) m→aM h m gg→
  Wp Tryz.prog 9 gz (gj Aa l.length ca A i c i u) I h (cl_ (LU l)):=by
 intro k
 induction k with
 |zero=>
  intro i A c m h gg u hi ho hp
  obtain rfl:i=l.length:=by omega
  rw[List.take_length]at ho
  refine nC _ _ _ _ _ _ _ _ ?_
  refine b7 (by simp) ?_
  exact aY hp ⟨A,c,rfl,ho⟩
 |succ k ih=>
  intro i A c m h gg u hi ho hp
  obtain⟨e,he⟩: ∃e,l[i]? =some e:=⟨_,List.getElem?_eq_getElem (show i<l.length by omega)⟩
  have htk:l.take (i+1)=l.take i++[e]:=(ep (List.Perm.refl l) he).2
  obtain⟨ad,rfl,hc⟩:=SC hin he
  refine Wp.perm (h:=m++gg) ?_ (List.Perm.symm hp)
  refine nC _ _ _ _ _ _ _ _ ?_
  refine aX (by simp;omega) ?_
  refine aI ad rfl (sz:=4) kE (by omega) (by omega) rfl ?_
  dsimp only
  rw[Int.toNat_natCast]
  refine aZ kE ((hc 1 _ rfl).sub Sub.self) ?_
  refine aI ad rfl (sz:=4) kE (by omega) (by omega) rfl ?_
  dsimp only
  rw[Int.toNat_natCast]
  refine aZ kE ((hc 2 _ rfl).sub Sub.self) ?_
  refine aI ad rfl (sz:=4) kE (by omega) (by omega) rfl ?_
  dsimp only
  rw[Int.toNat_natCast]
  refine aZ kE ((hc 3 _ rfl).sub Sub.self) ?_
  dsimp only
  refine gK (e:=42) ⟨Ed.C e.ed⟩ kE fun g hg hgI=>?_
  dsimp only
  refine bP (cl_.aff _) NN kE (cs2:=Ed.C e.ed) (fun _=>⟨_,rfl,cw mE rfl⟩) (fun h=>by cases h) rfl (by simp) (m:=m) qE ho (by omega) (by omega) ?_
  intro A2 c2 m2 ho2
  refine aj fun _ hl=>?_
  rw[dT (by omega)]
  refine ih (i+1) A2 c2 m2 _ _ _ (by omega) ?_ pE
  rw[htk,List.map_append,List.flatMap_append]
  exact ho2
theorem Lb{I:Ctx}{l:List Q4}{Aa:Option Addr}{ca:Nat}(hin:RdC I [] Aa (l.flatMap Q4.C))(hbd:l.length≤1000):Fn Tryz.prog 9 #[.slice Aa l.length ca] I [] (LU l):=by
 refine zg _ _ _ ?_
 refine aj fun _ _=>?_
 exact Le hin hbd l.length 0 none 0 [] [] [] _ (by omega) (Own.nil _ _) pE
end Go.Proofs.YtadanegddceleaaGreatS
