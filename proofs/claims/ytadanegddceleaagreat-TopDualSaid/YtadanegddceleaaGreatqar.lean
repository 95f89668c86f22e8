import Derived.Test.YtadanegddceleaaGreatqae
import Derived.Test.YtadanegddceleaaGreatqam
import Derived.Test.YtadanegddceleaaGreatqan
import Derived.Test.YtadanegddceleaaGreatqaq
set_option linter.unusedSimpArgs false
set_option linter.unusedVariables false
set_option maxRecDepth 20000
namespace Go.Proofs.YtadanegddceleaaGreatS
theorem Fd{P:Program}{f:Ctl}{I:Ctx}{h:Mem}{Q:Value→Mem→Prop}{a:Addr}{T:Tr}(hk:holds P f I Q T h):holds P f I Q (.pin (FU (.pointer (some a))) (.pointer (some a)) T) h:=
 DN (show rwp P I h (FU (.pointer (some a))) (fun v=>v= .value (.pointer (some a))) by unfold FU;rfl) hk
def DuY(d:ao)(out:List Ltr)(a:DAd)(lo:Obj)(m:Mem):Prop:= ∃A c ml mo,
 m=(a.b,.cells (duC d a A out.length c) 204 (0,0))::(a.L,lo)::(ml++mo)∧ky yr ptV a.lk lo∧pQ SQ d.links a.lk ml∧Own 171 10 A out.length c (out.flatMap Ltr.C) mo
theorem DuX.y{d:ao}{out:List Ltr}{a:DAd}{lo po:Obj}{m:Mem}(h:DuX d out a lo po m): ∃m0 mp,m.Perm (m0++(a.P,po)::mp)∧DuY d out a lo m0∧ky BR ptV a.pk po∧pQ KnM d.pre a.pk mp:=by
 obtain⟨A,c,ml,mp,mo,rfl,h1,h2,h3,h4,h5⟩:=h
 exact⟨_,mp,cE,⟨A,c,ml,mo,rfl,h1,h2,h5⟩,h3,h4⟩
theorem DuY.x{d:ao}{out:List Ltr}{a:DAd}{lo po:Obj}{m0 mp:Mem}(h:DuY d out a lo m0)(h3:ky BR ptV a.pk po){pre:List ((Int×Int)×di)}(h4:pQ KnM pre a.pk mp): ∃m,m.Perm (m0++(a.P,po)::mp)∧DuX {d with pre:=pre} out a lo po m:=by
 obtain⟨A,c,ml,mo,rfl,h1,h2,h5⟩:=h
 exact⟨(a.b,.cells (duC d a A out.length c) 204 (0,0))::(a.L,lo)::(a.P,po)::(ml++(mp++mo)),cE,A,c,ml,mp,mo,rfl,h1,h2,h3,h4,h5⟩
theorem Kv{I:Ctx}{d:ao}{out:List Ltr}{a:DAd}{lo:Obj}{m:Mem}{k code ack:Int}{p:Int×Int}{w:Way}{l:Lnk}(hd:DuY d out a lo m)(hl:ah d.links k=some l)(hbd:out.length≤1000000):
  Fn Tryz.prog 341 #[ptV a.b,.int .i64 k,.int .i64 code,.int .u32 ack,pfV p,w.V] I m (fun v h'=>v= .int .u32 (aW l).sent∧
   DuY {d with links:=aL d.links k (aW l)} (out++[⟨k,code,(aW l).sent,ack,p,w.v,w.tag⟩]) a lo h'):=by
 obtain⟨A,c,ml,mo,rfl,h1,h2,h5⟩:=hd
 obtain⟨b,m1,mr,hb,hp1,rfl,hput⟩:=h2.get hl
 refine Fn.perm (h:=(a.b,.cells (duC d a A out.length c) 204 (0,0))::(a.L,lo)::(b,.cells #[.int .i64 l.v.b,.int .i64 l.v.d,.int .i64 l.v.p,.int .u32 l.sent,.int .u32 l.got] 417 (0,0))::(mo++mr)) ?_ (aD fun D_ a_=>by have e0_:=List.Perm.count_eq (hp1) a_;simp only[Value.cells,List.count_append,List.count_cons,List.count_nil,List.nil_append,List.cons_append,List.append_nil,List.append_assoc]at e0_;simp only[Value.cells,List.count_append,List.count_cons,List.count_nil,List.nil_append,List.cons_append,List.append_nil,List.append_assoc]<;>omega)
 refine sq _ _ _ _ _ _ _ _ _ _ _ ?_
 refine aP fun _ _ _=>?_;dsimp only[ag];refine aP fun _ _ _=>?_;dsimp only[ag];refine ldM mE rE kE ?_;dsimp only[ag]
 refine dZ E1 rfl kZ (.inl mE) h1 (x:=k) (ok:=false) (fun _=>{A:=some ⟨b,0,none⟩}) (by rw[hb];rfl) ?_
 dsimp only
 refine dH ?_;dsimp only[ag];refine ldI mE rE kE ?_;dsimp only[ag];refine dH ?_;dsimp only[ag];refine stU uE kE rE vE ?_;dsimp only[ag];refine ldL mE rE kE ?_;dsimp only[ag];refine dH ?_;dsimp only[ag];refine ldI mE rE kE ?_;dsimp only[ag];refine lz mE rE kE ?_;dsimp only[ag];refine la4 mE rE kE ?_;dsimp only[ag];refine ldI mE rE kE ?_;dsimp only[ag]
 refine gK (e:=171) ⟨Ltr.C ⟨k,code,(aW l).sent,ack,p,w.v,w.tag⟩⟩ kE fun g hg hI=>?_
 dsimp only
 refine bP (cl_.aff _) GG kE (cs2:=Ltr.C ⟨k,code,(aW l).sent,ack,p,w.v,w.tag⟩) (fun _=>⟨_,rfl,cw mE rfl⟩) (fun h=>by cases h) rfl (by simp) (m:=mo) p1E h5 (by omega) (by omega) ?_
 intro A2 c2 m2 ho2
 refine stU uE kE rE vE ?_;dsimp only[ag];refine dH ?_;dsimp only[ag];refine ldI mE rE kE ?_;dsimp only[ag]
 obtain⟨ml',hml,hml2⟩:=hput (aW l) _ rfl
 refine dl (h1:=(a.b,.cells (duC d a A2 (out.length+1) c2) 204 (0,0))::(a.L,lo)::([(b,.cells #[.int .i64 (aW l).v.b,.int .i64 (aW l).v.d,.int .i64 (aW l).v.p,.int .u32 (aW l).sent,.int .u32 (aW l).got] 417 (0,0))]++(mr++m2))) pE
  (h2:=(a.b,.cells (duC d a A2 (out.length+1) c2) 204 (0,0))::(a.L,lo)::(ml'++m2)) (aD fun D_ a_=>by have e0_:=List.Perm.count_eq (hml) a_;simp only[Value.cells,List.count_append,List.count_cons,List.count_nil,List.nil_append,List.cons_append,List.append_nil,List.append_assoc]at e0_;simp only[Value.cells,List.count_append,List.count_cons,List.count_nil,List.nil_append,List.cons_append,List.append_nil,List.append_assoc]<;>omega) ⟨rfl,A2,c2,ml',m2,by simp,h1,hml2,?_⟩
 simpa using ho2
section
variable {κ:Type} [DecidableEq κ] {α:Type}
def PZ(g:κ→α)(done:List κ)(l:List (κ×α)):List (κ×α):=l.map fun q=>(q.1,if q.1∈done then g q.1 else q.2)
theorem L5(g:κ→α)(done:List κ)(l:List (κ×α)):am (PZ g done l)=am l:=by simp[PZ,am]
theorem OE{g:κ→α}{done:List κ}{l:List (κ×α)}{k:κ}(hn:(am l).Nodup)(hk:k∈am l):aL (PZ g done l) k (g k)=PZ g (done++[k]) l:=by
 induction l with
 |nil=>cases hk
 |cons p l ih=>
  rw[am,List.map_cons,List.nodup_cons]at hn
  show aL ((p.1,if p.1∈done then g p.1 else p.2)::PZ g done l) k (g k)=(p.1,if p.1∈done++[k]then g p.1 else p.2)::PZ g (done++[k]) l
  rw[aL]
  by_cases h:k=p.1
  ·rw[if_pos h,if_pos (by simp[h]),h]
   congr 1
   unfold PZ
   refine List.map_congr_left fun q hq=>?_
   have:q.1≠p.1:=fun e=>hn.1 (e▸List.mem_map_of_mem (f:=(·.1)) hq)
   simp[this]
  ·rw[am,List.map_cons,List.mem_cons]at hk
   rw[if_neg h,ih hn.2 (hk.resolve_left h)]
   congr 2
   simp[show p.1≠k from fun e=>h e.symm]
end
def K7(d:ao):Prop:= ∀p x,ah d.pre p=some x→ ∀k∈am x.opn,k∈am d.links
def H6(d:ao)(p:Int×Int)(x:di)(done:List Int):ao:={d with links:=xl aW done d.links,pre:=aL d.pre p (jO d x done)}
def pK(d:ao)(x:di)(done:List Int):List Ltr:=done.map fun k=>⟨k,2,cC d k,0,x.p,x.told.v,x.told.tag⟩
theorem KI{I:Ctx}{d:ao}{out:List Ltr}{a:DAd}{lo po:Obj}{p:Int×Int}{x:di}{bx y1 L c:Nat}{r:Loop}{A:Option Addr}{A2:Option Addr}{n2 c2:Nat}{ks:List Int}{hx:Mem}{Q0:Value→Mem→Prop}(hx0:ah d.pre p=some x)(hbx:ah a.pk p=some bx)(hnd:(am d.links).Nodup)(hno:(am x.opn).Nodup)
  (hks:ks.Perm (am x.opn))(hsub: ∀k∈ks,k∈am d.links)(hbd:out.length+ks.length≤1000000)(hrd: ∀I,RdC I hx A (ks.flatMap fun k=>[Value.int .i64 k]))
  (hk: ∀h m u,DuX (H6 d p x ks) (out++pK d x ks) a lo po m→h.Perm ((L,.loop {r with state:= .busy})::(y1,.cells #[ptV a.b] 160 (0,0))::(m++hx))→Wp Tryz.prog {fn:=332,rd:=some L} nL (n7 A2 n2 c2 (some ⟨bx,0,none⟩) u) I h (cl_ Q0)):
  ∀(n i:Nat) (m h:Mem) (u:Nat→Value),i+n=ks.length→DuX (H6 d p x (ks.take i)) (out++pK d x (ks.take i)) a lo po m→h.Perm ((L,.loop {r with state:= .busy})::(y1,.cells #[ptV a.b] 160 (0,0))::(m++hx))→
  Wp Tryz.prog {fn:=332,rd:=some L} gF (gy y1 A2 n2 c2 (some ⟨bx,0,none⟩) A ks.length c ks.length i u) I h (cl_ Q0):=by
 intro n
 induction n with
 |zero=>
  intro i m h u hi hd hp
  refine ng _ _ _ _ _ _ _ _ _ _ _ ?_
  refine b7 (by simp;omega) ?_
  rw[List.take_of_length_le (by omega)]at hd
  exact aj fun _ _=>hk _ _ _ hd hp
 |succ n ih=>
  intro i m h u hi hd hp
  have hlt:i<ks.length:=by omega
  obtain⟨k,hk1⟩: ∃k,ks[i]? =some k:=⟨_,List.getElem?_eq_getElem hlt⟩
  have htk:ks.take (i+1)=ks.take i++[k]:=(ep hks hk1).2
  have hkm:k∈ks:=List.mem_of_getElem? hk1
  have hnk:k∉ks.take i:=by
   have h1:=(ep hks hk1).1.nodup_iff.2 hno
   rw[List.nodup_append]at h1
   exact fun hm=>h1.2.2 _ hm _ List.mem_cons_self rfl
  obtain⟨ad,rfl,hcell⟩:=Sj (hrd I) (Na hk1)
  have hxh: ∀x∈hx,x∈h:=fun x hx'=>hp.mem_iff.2 (mq1 (mq1 (List.mem_append_right _ hx')))
  obtain⟨l,hl⟩:=Option.isSome_iff_exists.1 (aO.2 (hsub k hkm))
  have hl1:ah (H6 d p x (ks.take i)).links k=some l:=by
   show ah (xl aW _ d.links) k=_
   rw[tJ,hl]
   simp[hnk]
  have hx1:ah (H6 d p x (ks.take i)).pre p=some (jO d x (ks.take i)):=by
   show ah (aL _ _ _) p=_
   rw[aJ,if_pos rfl]
  have hso:(aW l).sent=cC d k:=by unfold cC;rw[hl]
  obtain⟨m0,mp,hpm,hdy,hpo,hpt⟩:=hd.y
  obtain⟨bx',m1,mr,hb1,hp1,hkn,hput⟩:=hpt.get hx1
  obtain rfl:bx'=bx:=by rw[hb1]at hbx;injection hbx
  obtain⟨A0,r0,o0,ro0,oo0,mo0,rfl,hrep0,hopn0,hown0⟩:=hkn
  refine ng _ _ _ _ _ _ _ _ _ _ _ ?_
  refine aX (by simp;omega) ?_
  refine aI ad rfl (sz:=1) kE (by omega) (by omega) rfl ?_
  dsimp only
  rw[Int.toNat_natCast,Nat.mul_one]
  refine aZ kE (hcell.mono hxh) ?_
  refine aN (cl_.aff _) (g:=(L,.loop {r with state:= .busy})::(y1,.cells #[ptV a.b] 160 (0,0))::(bx',.cells (knC (jO d x (ks.take i)) A0 r0 o0) 407 (0,0))::(r0,ro0)::(o0,oo0)::(mo0++(mr++((a.P,po)::(m0++hx))))) (aD fun D_ a_=>by have e0_:=List.Perm.count_eq (hp) a_;simp only[Value.cells,List.count_append,List.count_cons,List.count_nil,List.nil_append,List.cons_append,List.append_nil,List.append_assoc]at e0_;have e1_:=List.Perm.count_eq (hpm) a_;simp only[Value.cells,List.count_append,List.count_cons,List.count_nil,List.nil_append,List.cons_append,List.append_nil,List.append_assoc]at e1_;have e2_:=List.Perm.count_eq (hp1) a_;simp only[Value.cells,List.count_append,List.count_cons,List.count_nil,List.nil_append,List.cons_append,List.append_nil,List.append_assoc]at e2_;simp only[Value.cells,List.count_append,List.count_cons,List.count_nil,List.nil_append,List.cons_append,List.append_nil,List.append_assoc]<;>omega) ?_
  refine dH ?_;dsimp only[ag];refine ldM mE rE kE ?_;dsimp only[ag];refine ldP mE rE kE ?_;dsimp only[ag];refine dH ?_;dsimp only[ag];refine lz mE rE kE ?_;dsimp only[ag];refine dH ?_;dsimp only[ag];refine la7 mE rE kE ?_;dsimp only[ag]
  have hlt2:(out++pK d x (ks.take i)).length≤1000000:=by simp[pK];omega
  refine ak m0 _ iD qE (fun hl3=>Kv (p:=x.p) (w:=x.told) (code:=2) (ack:=0) hdy hl1 hlt2) ?_
  rintro v m2 ⟨rfl,hdy2⟩
  refine⟨fun _=>{i:=(aW l).sent},rfl,?_⟩
  dsimp only
  refine pn1 mE rE kE ?_;refine Fd ?_
  refine uw (cl_.aff _) E1 rfl (aM.perm1 pE) hopn0 (x:=k) (cC d k) (by rw[hso]) fun o' ho'=>?_
  refine aj fun _ _=>?_
  rw[dT (by omega)]
  have e1:aL (xl aW (ks.take i) d.links) k (aW l)=xl aW (ks.take (i+1)) d.links:=by rw[htk];exact JI hnd hl
  have e2:aL (jO d x (ks.take i)).opn k (cC d k)=(jO d x (ks.take (i+1))).opn:=by rw[htk];exact OE (g:=cC d) hno (hks.mem_iff.1 hkm)
  rw[e2]at ho'
  obtain⟨mp',hmp',hpt'⟩:=hput (jO d x (ks.take (i+1))) _ ⟨A0,r0,o0,ro0,o',mo0,rfl,hrep0,ho',hown0⟩
  obtain⟨m',hm',hd'⟩:=hdy2.x hpo hpt'
  have e3:aL (H6 d p x (ks.take i)).pre p (jO d x (ks.take (i+1)))=aL d.pre p (jO d x (ks.take (i+1))):=tO
  have e4:({({H6 d p x (ks.take i)with links:=aL (H6 d p x (ks.take i)).links k (aW l)}:ao)with pre:=aL (H6 d p x (ks.take i)).pre p (jO d x (ks.take (i+1)))}:ao)=H6 d p x (ks.take (i+1)):=by
   rw[e3]
   show({d with links:=aL (xl aW (ks.take i) d.links) k (aW l),pre:=_}:ao)=_
   rw[e1]
   rfl
  have e5:out++pK d x (ks.take i)++[⟨k,2,(aW l).sent,0,x.p,x.told.v,x.told.tag⟩]=out++pK d x (ks.take (i+1)):=by
   rw[List.append_assoc,hso,htk]
   unfold pK
   rw[List.map_append]
   rfl
  have hd2:DuX (H6 d p x (ks.take (i+1))) (out++pK d x (ks.take (i+1))) a lo po m':=by
   rw[←e4,←e5];exact hd'
  refine ih (i+1) m' _ _ (by omega) hd2 ?_
  refine(aM.perm (m:=(L,.loop {r with state:= .busy})::(y1,.cells #[ptV a.b] 160 (0,0))::(bx',.cells (knC (jO d x (ks.take (i+1))) A0 r0 o0) 407 (0,0))::(r0,ro0)::([(o0,o')]++(mo0++(mr++((a.P,po)::(m2++hx)))))) (g:=[]) pE).trans (by rw[List.append_nil];exact(aD fun D_ a_=>by have e0_:=List.Perm.count_eq (hmp') a_;simp only[Value.cells,List.count_append,List.count_cons,List.count_nil,List.nil_append,List.cons_append,List.append_nil,List.append_assoc]at e0_;have e1_:=List.Perm.count_eq (hm') a_;simp only[Value.cells,List.count_append,List.count_cons,List.count_nil,List.nil_append,List.cons_append,List.append_nil,List.append_assoc]at e1_;simp only[Value.cells,List.count_append,List.count_cons,List.count_nil,List.nil_append,List.cons_append,List.append_nil,List.append_assoc]<;>omega))
theorem qJ{κ:Type}[DecidableEq κ]: ∀{l m:List κ},l.Nodup→(∀x∈l,x∈m)→l.length≤m.length
 |[],_,_,_=>Nat.zero_le _
 |x::l,m,hn,hs=>by
  rw[List.nodup_cons]at hn
  have hx:x∈m:=hs x List.mem_cons_self
  have:=qJ (m:=m.erase x) hn.2 (fun y hy=>(List.mem_erase_of_ne (fun e=>hn.1 (by rw[←e];exact hy))).2 (hs y (List.mem_cons_of_mem _ hy)))
  rw[List.length_erase_of_mem hx]at this
  have hp:=List.length_pos_of_mem hx
  rw[List.length_cons]
  omega
theorem Ph{d:ao}(h:K7 d){p:Int×Int}{x:di}{ks:List Int}(hx:ah d.pre p=some x):K7 (H6 d p x ks):=by
 intro q y hy k hk
 show k∈am (xl _ _ _)
 rw[qc]
 replace hy:ah (aL d.pre p (jO d x ks)) q=some y:=hy
 rw[aJ]at hy
 by_cases e:q=p
 ·rw[if_pos e]at hy
  injection hy with hy
  subst hy
  have:k∈am (PZ (cC d) ks x.opn):=hk
  rw[L5]at this
  exact h _ _ hx _ this
 ·rw[if_neg e]at hy
  exact h _ _ hy _ hk
def JG(d0:ao)(a:DAd)(lo po:Obj)(y1:Nat)(done:List (Int×Int))(mm:Mem):Prop:= ∃d1 ls m,ld uV done d0 d1 ls∧ls.length≤done.length*1000∧K7 d1∧am d1.pre=am d0.pre∧am d1.links=am d0.links∧DuX d1 ls a lo po m∧
 mm=(y1,.cells #[ptV a.b] 160 (0,0))::m
noncomputable abbrev raG:Code:=ra (bd (sr (sl (sr bf))))
noncomputable abbrev rbG:Code:=rb (bd (sr (sl (sr bf))))
noncomputable abbrev Hx(τ:List Value)(D:Nat):Loop:=kH 332 τ #[8] raG rbG D
theorem Hw{I:Ctx}{d0:ao}{a:DAd}{lo po:Obj}{y1 L D:Nat}{τ:List Value}{p:Int×Int}{done:List (Int×Int)}{mm:Mem}{A2:Option Addr}{n2 c2:Nat}(hj:JG d0 a lo po y1 done mm)
  (hk:p∈am a.pk)(hkk:am a.pk=am d0.pre)(hbd:done.length≤100)(hbl:d0.links.length≤1000)(u:Nat→Value):
  Wp Tryz.prog {fn:=332,rd:=some L} oq (gq y1 A2 n2 c2 (some ⟨(ah a.pk p).getD 0,0,none⟩) u) I ((L,.loop (Hx τ D))::mm)
   (cl_ fun v' m'=>v'= .bool true∧ ∃m2,m'=(L,.loop (Hx τ D))::m2∧JG d0 a lo po y1 (done++[p]) m2):=by
 obtain⟨d1,ls,m,hf,hln,hok,f1,f2,hd,rfl⟩:=hj
 have hll:d1.links.length=d0.links.length:=by simpa[am]using congrArg List.length f2
 obtain⟨x,hx⟩:=Option.isSome_iff_exists.1 (aO.2 (f1▸hkk▸hk))
 obtain⟨bx,hbx⟩:=hd.ptr hx
 rw[hbx]
 obtain⟨hnl,_,_,_⟩:=hd.nd
 obtain⟨A0,r0,o0,ro0,oo0,mo0,mz0,hp0,hrep0,hopn0,hown0,hput0⟩:=hd.kn hx hbx
 have hnd:=hopn0.nd
 have hsub:=hok _ _ hx
 have hol:x.opn.length≤d1.links.length:=by have:=qJ hnd hsub;simpa[am]using this
 have hmx:(bx,Obj.cells (knC x A0 r0 o0) 407 (0,0))∈m:=hp0.mem_iff.2 mq0
 have hmo:(o0,oo0)∈m:=hp0.mem_iff.2 (mq1 (mq1 mq0))
 refine wU _ _ _ _ _ _ ?_
 refine aj fun _ hl2=>?_
 refine Wp.beginRound (l:=L) (i:=0) (r:=Hx τ D) rfl rfl rfl ?_
 refine xj _ _ _ _ _ _ ?_
 show holds _ _ _ _ _ ((L,.loop {Hx τ D with state:= .busy})::(y1,.cells #[ptV a.b] 160 (0,0))::m)
 refine dH ?_;dsimp only[ag]
 refine ldM (by repeat (first|exact hmx|exact List.mem_append_left _ (hmx)|apply mq1|apply mq2)) rfl kE ?_
 dsimp only
 refine ak [] _ wH (List.Perm.refl _) (fun hl=>BA) ?_
 rintro v h1 ⟨g1,rfl,rfl⟩
 refine⟨fun _=>{v:= .func (.func 343) #[] #[ptV g1]},rfl,?_⟩
 dsimp only
 refine ak [] _ mf (List.Perm.refl _) (fun hl=>ut (caps:=[ptV g1]) (keys:=(mpv (Value.int .u32) x.opn).map (·.1)) rf (AY (M:=o0) (om:=oo0) (aF hl (.inl mq0)) (aF hl (.inl (mq1 (mq1 (mq1 hmo))))) hopn0) (by simp;omega)) ?_
 rintro v h2 ⟨A,c,ks,rfl,hper,ho⟩
 rw[mpv_keys]at hper
 have hkl:ks.length≤1000:=by have:=hper.length_eq;simp[am]at this;omega
 refine⟨fun _=>{A:=A,n:=ks.length,c:=c},rfl,?_⟩
 refine aj fun _ hl=>?_
 have hln2:ls.length≤100*1000:=Nat.le_trans hln (Nat.mul_le_mul_right _ hbd)
 have e0:H6 d1 p x []=d1:=by
  unfold H6
  rw[IZ]
  have:jO d1 x []=x:=by unfold jO;simp
  rw[this,Ce hx]
 refine KI (out:=ls) (lo:=lo) (po:=po) (r:=Hx τ D) (hx:=h2++[(g1,.cells #[.map (some o0)] 405 (0,0))]) hx hbx hnl hnd hper (fun k hk=>hsub k (hper.mem_iff.1 hk)) (by omega) (fun I=>ho.rd fun x hx=>List.mem_append_left _ hx) ?_ ks.length 0 m _ _ (by omega) ?_ ?_
 ·intro h m3 u hd3 hp3
  have hp4:aM h ((L,.loop {Hx τ D with state:= .busy})::(y1,.cells #[ptV a.b] 160 (0,0))::m3) (h2++[(g1,.cells #[.map (some o0)] 405 (0,0))]):=hp3
  refine Wp.roundQ rfl rfl rfl hp4 (List.Perm.refl _) ⟨H6 d1 p x ks,ls++pK d1 x ks,m3,hf.snoc ⟨x,ks,hx,hper,rfl,rfl⟩,?_,Ph hok hx,?_,?_,hd3,rfl⟩
  ·simp[pK];omega
  ·show am (aL _ _ _)=_
   rw[gL,if_pos (aO.1 (by rw[hx];rfl)),f1]
  ·show am (xl _ _ _)=_
   rw[qc,f2]
 ·show DuX (H6 d1 p x []) (ls++[]) a lo po m
  rw[e0,List.append_nil]
  exact hd
 ·exact(aM.perm (m:=(L,.loop {Hx τ D with state:= .busy})::(y1,.cells #[ptV a.b] 160 (0,0))::(m++(h2++[(g1,.cells #[.map (some o0)] 405 (0,0))]))) (g:=[]++[]) pE).trans (by rw[List.append_nil,List.append_nil])
theorem Kx{y1 b:Nat}{v:Value}{A6:Option Addr}{n6 c6:Nat}(u:Nat→Value):
  ((#[8]:Array Tmp).zip ⟨[ptV b]⟩).foldl (fun tmps (t,a)=>tmps.setIfInBounds t a) (⟨ee y1 v A6 n6 c6 u⟩:Array Value)=⟨gq y1 A6 n6 c6 (some ⟨b,0,none⟩) (fun i=>if i=7 then v else u i)⟩:=by
 simp[ee,gq]
theorem Iw{I:Ctx}{d:ao}{a:DAd}{lo po:Obj}{y1 g:Nat}{m h:Mem}{R:ao→List Ltr→Prop}(hd:DuX d [] a lo po m)(hok:K7 d)(hbd:d.pre.length≤100)(hbl:d.links.length≤1000)
  (hR: ∀d' ls,Ju d d' ls→R d' ls)(hp:h.Perm (((y1,.cells #[ptV a.b] 160 (0,0))::m)++[(g,.cells #[ptV a.b] 160 (0,0))]))(u:Nat→Value):
  Wp Tryz.prog 332 js (ee y1 (.func (.func 288) #[] #[ptV g]) none 0 0 u) I h (cl_ (Fj R a.b)):=by
 obtain⟨_,_,_,hkk⟩:=hd.nd
 have hpl:=hd.len.2
 have hpo:ky BR ptV a.pk po:=by
  obtain⟨_,_,_,_,_,_,_,_,h1,_⟩:=hd
  exact h1
 rw[show js= .code (.rangeFunc (.tmp 7) #[8] raG rbG)::nk by kernel_rfl]
 refine Wp.rangeIter (S:=AtP a po) (args:=fun k=>[ptV ((ah a.pk k).getD 0)]) (keys:=am a.pk) (caps:=[ptV g]) rfl rfl fL ((y1,.cells #[ptV a.b] 160 (0,0))::m) [(g,.cells #[ptV a.b] 160 (0,0))] hp (fun hl=>BC (u5 hl hp _ mq0) hpo (by omega))
  (fun done m=>JG d a lo po y1 done m) ⟨d,[],m,⟨rfl,rfl⟩,by simp,hok,rfl,rfl,hd,rfl⟩ (fun k=>rfl) ?_ ?_ ?_
 ·rintro done m I' ⟨d1,ls,m2,_,_,_,_,_,hd,rfl⟩ hI' m' hm'
  obtain⟨h1,_,h2⟩:=hd.at I'
  have hs: ∀x∈m2,x∈m':=fun x hx=>hm' _ (mq1 hx)
  exact⟨h1.mono hs (fun _ _ h=>h),h2.mono hs⟩
 ·intro L D done k rest m hper hj I' hI'
  have hlen:=hper.length_eq
  rw[Kx]
  exact bU.of (Hw hj (hper.mem_iff.1 (by simp)) hkk (by simp[am]at hlen;omega) hbl _)
 ·rintro L D ks m hper ⟨d1,ls,m2,hf,_,_,_,_,hd,rfl⟩
  refine xe y1 (fun i=>(ee y1 (.func (.func 288) #[] #[ptV g]) none 0 0 u).getD i undef) ?_
  simp only[List.cons_append]
  refine ldP mE rE kE ?_;dsimp only[ag]
  refine ak m2 _ ec qE (fun hl=>qH hd) ?_
  rintro r m4 ⟨m5,m6,rfl,hd4,A2,c2,rfl,ho2⟩
  refine⟨fun _=>{A:=A2,n:=ls.length,c:=c2},rfl,?_⟩
  refine aj fun _ hl=>?_
  rw[show nF= .code .ret::[] by kernel_rfl]
  refine Wp.retDP (D:=D) rfl rfl (.inr ⟨_,rfl⟩) Tryz.func332 pE ?_
  refine zL (t:=2) rfl rfl ?_
  exact⟨m5++m6,_,List.perm_middle.symm,d1,ls,m5,m6,hR _ _ ⟨ks,hkk▸hper,hf⟩,rfl,⟨_,_,_,rfl,hd4⟩,A2,c2,rfl,ho2⟩
theorem Lm{I:Ctx}{d:ao}{b:Nat}{m:Mem}(hd:DuB d b m)(hok:K7 d)(hbd:d.pre.length≤100)(hbl:d.links.length≤1000):
  Fn Tryz.prog 332 #[ptV b] I m (Fj (Ju d) b):=by
 obtain⟨a,lo,po,rfl,hd⟩:=hd
 refine zH _ ?_
 refine aP fun y1 _ _=>?_
 refine ldP mE rE kE ?_;dsimp only[ag]
 refine ak [] _ jn (List.Perm.refl _) (fun hl=>BD) ?_
 rintro w hg ⟨g,rfl,rfl⟩
 refine⟨fun _=>{v:= .func (.func 288) #[] #[ptV g]},rfl,?_⟩
 exact aj fun _ hl=>Iw hd hok hbd hbl (fun _ _ h=>h) List.perm_append_comm _
def NX(d:ao)(x:di)(w:Way):Rt:=⟨x.p,d.dom,90,ofV w.v,w.next,w.tag⟩
def NY(d:ao):List (Int×Int)→List Rt→Prop
 |[],rs=>rs=[]
 |p::ps,rs=> ∃x r rs2,ah d.pre p=some x∧vK d x x.least r∧NY d ps rs2∧rs=(r.map (NX d x)).toList++rs2
def Rn(d:ao)(rs:List Rt):Prop:= ∃ps,ps.Perm (am d.pre)∧NY d ps rs
theorem NY.snoc{d:ao}: ∀{ps:List (Int×Int)} {p:Int×Int} {rs:List Rt} {x:di} {r:Option Way},NY d ps rs→ah d.pre p=some x→vK d x x.least r→NY d (ps++[p]) (rs++(r.map (NX d x)).toList)
 |[],p,_,x,r,e,hx,hr=>by subst e;exact⟨x,r,[],hx,hr,rfl,by simp⟩
 |q::ps,p,_,x,r,⟨y,r2,rs2,h1,h2,h3,e⟩,hx,hr=>by subst e;exact⟨y,r2,_,h1,h2,h3.snoc hx hr,by rw[List.append_assoc]⟩
theorem NY.len{d:ao}: ∀{ps:List (Int×Int)} {rs:List Rt},NY d ps rs→rs.length≤ps.length
 |[],_,e=>by subst e;simp
 |p::ps,_,⟨x,r,rs2,_,_,h,e⟩=>by subst e;have:=h.len;cases r<;>simp<;>omega
abbrev rN(rs:List Rt)(v:Value)(m:Mem):Prop:= ∃A c,v= .slice A rs.length c∧Own 48 7 A rs.length c (rs.flatMap Rt.C) m
def JR(d:ao)(a:DAd)(lo po:Obj)(y1 y3:Nat)(done:List (Int×Int))(mm:Mem):Prop:= ∃rs A c m ms,NY d done rs∧Own 48 7 A rs.length c (rs.flatMap Rt.C) ms∧DuX d [] a lo po m∧
 mm=(y1,.cells #[ptV a.b] 160 (0,0))::(y3,.cells #[.slice A rs.length c] 36 (0,0))::(m++ms)
noncomputable abbrev raR:Code:=ra (bd (sr (sl (sr (sr cm)))))
noncomputable abbrev rbR:Code:=rb (bd (sr (sl (sr (sr cm)))))
noncomputable abbrev OP(τ:List Value)(D:Nat):Loop:=kH 283 τ #[9] raR rbR D
theorem M7{I:Ctx}{d:ao}{a:DAd}{lo po:Obj}{y1 y3 L D:Nat}{τ:List Value}{p:Int×Int}{done:List (Int×Int)}{mm:Mem}{A2:Option Addr}{n2 c2:Nat}(hj:JR d a lo po y1 y3 done mm)
  (hk:p∈am a.pk)(hkk:am a.pk=am d.pre)(hbd:done.length≤100)(hbl:d.links.length≤1000)(u:Nat→Value):
  Wp Tryz.prog {fn:=283,rd:=some L} qm (iG y1 y3 A2 n2 c2 (some ⟨(ah a.pk p).getD 0,0,none⟩) u) I ((L,.loop (OP τ D))::mm)
   (cl_ fun v' m'=>v'= .bool true∧ ∃m2,m'=(L,.loop (OP τ D))::m2∧JR d a lo po y1 y3 (done++[p]) m2):=by
 obtain⟨rs,A,c,m,ms,hal,ho,hd,rfl⟩:=hj
 obtain⟨x,hx⟩:=Option.isSome_iff_exists.1 (aO.2 (hkk▸hk))
 obtain⟨bx,hbx⟩:=hd.ptr hx
 rw[hbx]
 have hlen:=hd.len
 obtain⟨A0,r0,o0,ro0,oo0,mo0,mz0,hp0,hrep0,hopn0,hown0,hput0⟩:=hd.kn hx hbx
 have hmx:(bx,Obj.cells (knC x A0 r0 o0) 407 (0,0))∈m:=hp0.mem_iff.2 mq0
 refine zd _ _ _ _ _ _ _ ?_
 refine aj fun _ hl2=>?_
 refine Wp.beginRound (l:=L) (i:=0) (r:=OP τ D) rfl rfl rfl ?_
 refine zR _ _ _ _ _ _ _ ?_
 show holds _ _ _ _ _ ((L,.loop {OP τ D with state:= .busy})::(y1,.cells #[ptV a.b] 160 (0,0))::(y3,.cells #[.slice A rs.length c] 36 (0,0))::(m++ms))
 refine ldP mE rE kE ?_;dsimp only[ag]
 refine dH ?_;dsimp only[ag]
 refine ldI (by repeat (first|exact hmx|exact List.mem_append_left _ (hmx)|apply mq1|apply mq2)) rfl kE ?_
 dsimp only
 refine ak m _ qB qE (fun hl=>Ho (below:=x.least) hd hx hbx (by omega)) ?_
 rintro v m1 ⟨r,rfl,hr,hd1⟩
 refine⟨ag [{i:=(r.getD fe).v.b},{i:=(r.getD fe).v.d},{i:=(r.getD fe).v.p},{i:=(r.getD fe).tag},{i:=(r.getD fe).next},{b:=r.isSome}],rfl,?_⟩
 dsimp only[ag]
 obtain⟨A0,r0,o0,ro0,oo0,mo0,mz0,hp0,hrep0,hopn0,hown0,hput0⟩:=hd1.kn hx hbx
 have hmx:(bx,Obj.cells (knC x A0 r0 o0) 407 (0,0))∈m1:=hp0.mem_iff.2 mq0
 obtain⟨A1,c1,mz1,hpd,_,_⟩:=hd1.du
 have hmd:(a.b,Obj.cells (duC d a A1 ([]:List Ltr).length c1) 204 (0,0))∈m1:=hpd.mem_iff.2 mq0
 refine bt JE fun y12 _ _=>?_
 refine stU uE kE rE vE ?_;dsimp only[ag]
 have hlr:=hal.len
 cases r with
 |none=>
  refine b7 rfl ?_
  refine aj fun _ _=>?_
  refine Wp.roundQ rfl rfl rfl (h1:=(y1,.cells #[ptV a.b] 160 (0,0))::([(y3,.cells #[.slice A rs.length c] 36 (0,0))]++(m1++ms))) pE (List.Perm.refl _) ⟨rs++[],A,c,m1,ms,hal.snoc hx hr,by rwa[List.append_nil],hd1,by rw[List.append_nil];rfl⟩
 |some w=>
  refine aX rfl ?_
  refine ldL mE rE kE ?_;dsimp only[ag]
  refine dH ?_;dsimp only[ag]
  refine laG (b:=bx) (off:=0) (pfC x.p) (ag [{i:=x.p.1},{i:=x.p.2}]) (by repeat (first|exact hmx|exact List.mem_append_left _ (hmx)|apply mq1|apply mq2)) rfl kE rfl ?_
  dsimp only[ag]
  refine ldP mE rE kE ?_;dsimp only[ag]
  refine dH ?_;dsimp only[ag]
  refine ldI (by repeat (first|exact hmd|exact List.mem_append_left _ (hmd)|apply mq1|apply mq2)) rfl kE ?_
  dsimp only
  refine la4 mE rE kE ?_;dsimp only[ag];refine ldI mE rE kE ?_;dsimp only[ag];refine ldI mE rE kE ?_;dsimp only[ag]
  refine aA (v:= .int .i64 (ofV w.v)) (fun _=>{i:=ofV w.v}) iu (fun hl=>wT) rfl ?_
  refine pn1 mE rE kE ?_;dsimp only[ag]
  refine pn1 mE rE kE ?_
  refine pn1 (by repeat (first|exact hmd|exact List.mem_append_left _ (hmd)|apply mq1|apply mq2)) rfl kE ?_
  refine Fd ?_
  refine pn1 mE rE kE ?_
  refine pnA (cs:=pfC x.p) (by repeat (first|exact hmx|exact List.mem_append_left _ (hmx)|apply mq1|apply mq2)) rfl kE ?_
  refine Fd ?_
  refine pn1 mE rE kE ?_
  refine gK (e:=48) ⟨(NX d x w).C⟩ kE fun g hg hI=>?_
  dsimp only
  refine bP (cl_.aff _) Fc kE (cs2:=(NX d x w).C) (fun _=>⟨_,rfl,cw mE rfl⟩) (fun h=>by cases h) rfl (by simp) (m:=ms) p1E ho (by omega) (by omega) ?_
  intro A3 c3 m3 ho3
  refine stU uE kE rE vE ?_;dsimp only[ag]
  refine aj fun _ _=>?_
  refine Wp.roundQ rfl rfl rfl (h1:=(y1,.cells #[ptV a.b] 160 (0,0))::([(y3,.cells #[.slice A3 (rs.length+1) c3] 36 (0,0))]++(m1++m3))) pE (List.Perm.refl _) ⟨rs++[NX d x w],A3,c3,m1,m3,hal.snoc hx hr,?_,hd1,by simp⟩
  simpa using ho3
theorem Ox{y1 y3 b:Nat}{v:Value}{A6:Option Addr}{n6 c6:Nat}(u:Nat→Value):
  ((#[9]:Array Tmp).zip ⟨[ptV b]⟩).foldl (fun tmps (t,a)=>tmps.setIfInBounds t a) (⟨fS y1 y3 v A6 n6 c6 u⟩:Array Value)=⟨iG y1 y3 A6 n6 c6 (some ⟨b,0,none⟩) (fun i=>if i=8 then v else u i)⟩:=by
 simp[fS,iG]
theorem Mc{I:Ctx}{d:ao}{a:DAd}{lo po:Obj}{y1 y3 g:Nat}{m h:Mem}(hd:DuX d [] a lo po m)(hbd:d.pre.length≤100)(hbl:d.links.length≤1000)
  (hp:h.Perm (((y1,.cells #[ptV a.b] 160 (0,0))::(y3,.cells #[.slice none 0 0] 36 (0,0))::(m++[]))++[(g,.cells #[ptV a.b] 160 (0,0))]))(u:Nat→Value):
  Wp Tryz.prog 283 lj (fS y1 y3 (.func (.func 288) #[] #[ptV g]) none 0 0 u) I h (cl_ fun v h'=> ∃rs m1 m2,Rn d rs∧h'=m1++m2∧DuB d a.b m1∧rN rs v m2):=by
 obtain⟨_,_,_,hkk⟩:=hd.nd
 have hpl:=hd.len.2
 have hpo:ky BR ptV a.pk po:=by
  obtain⟨_,_,_,_,_,_,_,_,h1,_⟩:=hd
  exact h1
 rw[show lj= .code (.rangeFunc (.tmp 8) #[9] raR rbR)::qq by kernel_rfl]
 refine Wp.rangeIter (S:=AtP a po) (args:=fun k=>[ptV ((ah a.pk k).getD 0)]) (keys:=am a.pk) (caps:=[ptV g]) rfl rfl fL ((y1,.cells #[ptV a.b] 160 (0,0))::(y3,.cells #[.slice none 0 0] 36 (0,0))::(m++[])) [(g,.cells #[ptV a.b] 160 (0,0))] hp (fun hl=>BC (u5 hl hp _ mq0) hpo (by omega))
  (fun done m=>JR d a lo po y1 y3 done m) ⟨[],none,0,m,[],rfl,Own.nil _ _,hd,rfl⟩ (fun k=>rfl) ?_ ?_ ?_
 ·rintro done m I' ⟨rs,A,c,m2,ms,_,_,hd,rfl⟩ hI' m' hm'
  obtain⟨h1,_,h2⟩:=hd.at I'
  have hs: ∀x∈m2,x∈m':=fun x hx=>hm' _ (mq1 (mq1 (List.mem_append_left _ hx)))
  exact⟨h1.mono hs (fun _ _ h=>h),h2.mono hs⟩
 ·intro L D done k rest m hper hj I' hI'
  have hlen:=hper.length_eq
  rw[Ox]
  exact bU.of (M7 hj (hper.mem_iff.1 (by simp)) hkk (by simp[am]at hlen;omega) hbl _)
 ·rintro L D ks m hper ⟨rs,A,c,m2,ms,hal,ho,hd,rfl⟩
  refine y9 y3 (fun i=>(fS y1 y3 (.func (.func 288) #[] #[ptV g]) none 0 0 u).getD i undef) ?_
  simp only[List.cons_append,List.append_assoc]
  refine ldL mE rE kE ?_;dsimp only[ag]
  refine aj fun _ hl=>?_
  rw[show qr= .code .ret::[] by kernel_rfl]
  refine Wp.retDP (D:=D) rfl rfl (.inr ⟨_,rfl⟩) Tryz.func283 pE ?_
  refine zL (t:=2) rfl rfl ?_
  exact⟨m2++ms,_,qE,rs,m2,ms,⟨ks,hkk▸hper,hal⟩,rfl,⟨_,_,_,rfl,hd⟩,A,c,rfl,ho⟩
theorem MK{I:Ctx}{d:ao}{b:Nat}{m:Mem}(hd:DuB d b m)(hbd:d.pre.length≤100)(hbl:d.links.length≤1000):
  Fn Tryz.prog 283 #[ptV b] I m (fun v h'=> ∃rs m1 m2,Rn d rs∧h'=m1++m2∧DuB d b m1∧rN rs v m2):=by
 obtain⟨a,lo,po,rfl,hd⟩:=hd
 refine CH _ ?_
 refine aP fun y1 _ _=>?_
 refine bt Oc fun y3 _ _=>?_
 refine ldP mE rE kE ?_;dsimp only[ag]
 refine ak [] _ jn (List.Perm.refl _) (fun hl=>BD) ?_
 rintro w hg ⟨g,rfl,rfl⟩
 refine⟨fun _=>{v:= .func (.func 288) #[] #[ptV g]},rfl,?_⟩
 refine aj fun _ hl=>Mc hd hbd hbl (y1:=y1) (y3:=y3) (g:=g) ?_ _
 exact(aM.perm (m:=(y1,.cells #[ptV a.b] 160 (0,0))::(y3,.cells #[.slice none 0 0] 36 (0,0))::(m++[(g,.cells #[ptV a.b] 160 (0,0))])) (g:=[]) pE).trans (by simp)
abbrev wE(t:Int):Prop:=0≤t∧t<65536
structure nw (N:Int→Prop) (l:Ltr):Prop where
 to:N l.to
 seq:0≤l.seq∧l.seq<4294967296
 ack:0≤l.ack∧l.ack<4294967296
 p:qb l.p
 tag:wE l.tag
structure wR (L:List Int) (p:Int×Int) (x:di):Prop where
 px:x.p=p
 pf:qb p
 own: ∀w,x.own=some w→wE w.tag∧w.next=0
 rep: ∀k w,ah x.rep k=some w→wE w.tag
 told:wE x.told.tag
 opn: ∀k∈am x.opn,k∈L
 ndr:(am x.rep).Nodup
 ndo:(am x.opn).Nodup
structure aV (N:Int→Prop) (d:ao):Prop where
 lnd:(am d.links).Nodup
 pnd:(am d.pre).Nodup
 lk: ∀k∈am d.links,N k∧1≤k∧k≤32
 sent: ∀k l,ah d.links k=some l→(0≤l.sent∧l.sent<4294967296)∧(0≤l.got∧l.got<4294967296)
 dom:d.dom=0
 most:d.most=64
 few:d.pre.length≤64
 kn: ∀p x,ah d.pre p=some x→wR (am d.links) p x
theorem Cy{l:List Int}{n:Nat}(hn:l.Nodup)(h: ∀k∈l,1≤k∧k≤n):l.length≤n:=by
 have h2:=qJ (m:=(List.range n).map fun i=>((i:Nat):Int)+1) hn fun k hk=>by
  obtain⟨a,b⟩:=h k hk
  refine List.mem_map.2 ⟨(k - 1).toNat,List.mem_range.2 (by omega),by omega⟩
 simpa using h2
theorem aV.lkn{N:Int→Prop}{d:ao}(h:aV N d):d.links.length≤32:=by
 have:=Cy (n:=32) h.lnd fun k hk=>(h.lk k hk).2
 simpa[am]using this
theorem aV.opn{N:Int→Prop}{d:ao}(h:aV N d):K7 d:=fun p x hx k hk=>(h.kn p x hx).opn k hk
theorem wR.sub{L L':List Int}{p:Int×Int}{x:di}(h:wR L p x)(hs: ∀k∈am x.opn,k∈L'):wR L' p x:={h with opn:=hs}
theorem aV.set{N:Int→Prop}{d:ao}(h:aV N d){p:Int×Int}{x x':di}(hx:ah d.pre p=some x)(hk:wR (am d.links) p x'):aV N {d with pre:=aL d.pre p x'}where
 lnd:=h.lnd
 pnd:=jg h.pnd
 lk:=h.lk
 sent:=h.sent
 dom:=h.dom
 most:=h.most
 few:=by
  show(aL _ _ _).length≤64
  rw[pM,if_pos (aO.1 (by rw[hx];rfl))]
  exact h.few
 kn:=by
  intro q y hy
  replace hy:ah (aL d.pre p x') q=some y:=hy
  rw[aJ]at hy
  by_cases e:q=p
  ·rw[if_pos e]at hy
   injection hy with hy
   subst hy;subst e
   exact hk
  ·rw[if_neg e]at hy
   exact h.kn q y hy
theorem aV.lks{N:Int→Prop}{d:ao}(h:aV N d){ls:List (Int×Lnk)}(hk:am ls=am d.links)(hs: ∀k l,ah ls k=some l→(0≤l.sent∧l.sent<4294967296)∧(0≤l.got∧l.got<4294967296)):aV N {d with links:=ls}where
 lnd:=hk▸h.lnd
 pnd:=h.pnd
 lk:=fun k hk'=>h.lk k (hk▸hk')
 sent:=hs
 dom:=h.dom
 most:=h.most
 few:=h.few
 kn:=fun p x hx=>(h.kn p x hx).sub (fun k hk'=>by show k∈am ls;rw[hk];exact(h.kn p x hx).opn k hk')
theorem rc(l:Lnk):0≤(aW l).sent∧(aW l).sent<4294967296:=by
 show 0≤(l.sent+1)%4294967296∧_
 exact⟨Int.emod_nonneg _ (by decide),Int.emod_lt_of_pos _ (by decide)⟩
theorem aV.sput{N:Int→Prop}{d:ao}(h:aV N d){k:Int}{l l':Lnk}(hl:ah d.links k=some l)(h1:0≤l'.sent∧l'.sent<4294967296)(h2:0≤l'.got∧l'.got<4294967296):aV N {d with links:=aL d.links k l'}:=by
 refine h.lks (by rw[gL,if_pos (aO.1 (by rw[hl];rfl))]) fun i y hy=>?_
 rw[aJ]at hy
 by_cases e:i=k
 ·rw[if_pos e]at hy
  injection hy with hy
  subst hy
  exact⟨h1,h2⟩
 ·rw[if_neg e]at hy
  exact h.sent i y hy
theorem aV.smap{N:Int→Prop}{d:ao}(h:aV N d)(done:List Int):aV N {d with links:=xl aW done d.links}:=by
 refine h.lks (qc _ _ _) fun i y hy=>?_
 rw[tJ]at hy
 obtain⟨l,hl,rfl⟩:=Option.map_eq_some_iff.1 hy
 split
 ·exact⟨rc l,(h.sent i l hl).2⟩
 ·exact h.sent i l hl
theorem SF(g:Lnk→Lnk)(l:List (Int×Lnk)):mpv g l=xl g (am l) l:=(I3 (fun k hk=>hk)).symm
theorem zu(d:ao)(k:Int):0≤cC d k∧cC d k<4294967296:=by
 unfold cC
 split
 ·exact rc _
 ·omega
theorem G0{L:List Int}{d:ao}{p:Int×Int}{x:di}{b:Int}{r:Option Way}(hk:wR L p x)(h:vK d x b r):wE (r.getD fe).tag:=by
 cases r with
 |none=>exact⟨by decide,by decide⟩
 |some w=>
  rcases h.2 w rfl with h|⟨k,l,rp,h1,h2,h3,h4,h5⟩
  ·exact(hk.own w h).1
  ·subst h4;exact hk.rep k rp h2
theorem Dn{N:Int→Prop}{p:Int×Int}{d d':ao}{ls:List Ltr}(h:aV N d)(hs:ju p d d' ls):aV N d'∧ls.length≤32∧ ∀l∈ls,nw N l:=by
 obtain⟨x,r,hx,hr,⟨_,rfl,rfl⟩|⟨_,ks,hks,rfl,rfl⟩⟩:=hs
 ·exact⟨h,by decide,fun l hl=>by cases hl⟩
 ·have hk:=h.kn p x hx
  have hll:=h.lkn
  have ht:=G0 hk hr
  have hkl:=hks.length_eq
  refine⟨?_,?_,?_⟩
  ·rw[SF]
   refine aV.set (h.smap _) hx ?_
   exact {hk with
    told:=ht
    opn:=by
     intro k hk'
     show k∈am (xl _ _ _)
     rw[qc]
     unfold dX at hk'
     dsimp only at hk'
     split at hk'
     ·rw[am,List.map_map]at hk'
      obtain⟨a,ha,e⟩:=List.mem_map.1 hk'
      dsimp at e
      subst e
      exact hks.mem_iff.1 ha
     ·cases hk'
    ndo:=by
     unfold dX
     dsimp only
     split
     ·rw[am,List.map_map]
      show(ks.map fun k=>k).Nodup
      rw[List.map_id']
      exact hks.nodup_iff.2 h.lnd
     ·exact List.nodup_nil}
  ·simp[g9,am]at hkl⊢
   omega
  ·intro l hl
   obtain⟨k,hkm,rfl⟩:=List.mem_map.1 hl
   exact⟨(h.lk k (hks.mem_iff.1 hkm)).1,zu d k,by dsimp;omega,by rw[show x.p=p from hk.px];exact hk.pf,ht⟩
theorem Jb{L:List Int}{p:Int×Int}{x:di}{k:Int}(h:wR L p x):wR L p (gi x k):=by
 unfold gi
 split
 ·exact h
 ·exact {h with opn:=fun i hi=>h.opn i ((pB.map _).subset hi),ndo:=lM h.ndo}
theorem LX{x:di}{k:Int}(hn:(am x.opn).Nodup):k∉am (gi x k).opn:=by
 unfold gi
 split
 ·rename_i h;exact bW.1 h
 ·show k∉am (dq x.opn k)
  rw[←bW,db hn,if_pos rfl]
theorem L7{L:List Int}{p:Int×Int}{x:di}{k:Int}(h:wR L p x):wR L p {x with rep:=dq x.rep k}:=
 {h with
  rep:=fun i w hw=>by
   replace hw:ah (dq x.rep k) i=some w:=hw
   rw[db h.ndr]at hw
   split at hw
   ·cases hw
   ·exact h.rep i w hw
  ndr:=lM h.ndr}
theorem P6{L:List Int}{p:Int×Int}{x:di}{k:Int}{w:Way}(h:wR L p x)(hw:wE w.tag):wR L p {x with rep:=aL x.rep k w}:=
 {h with
  rep:=fun i v hv=>by
   replace hv:ah (aL x.rep k w) i=some v:=hv
   rw[aJ]at hv
   split at hv
   ·injection hv with hv;subst hv;exact hw
   ·exact h.rep i v hv
  ndr:=jg h.ndr}
theorem PM{N:Int→Prop}{d:ao}{p:Int×Int}(h:aV N d)(hp:qb p):aV N (sH d p):=by
 unfold sH
 split
 ·rename_i hc
  obtain⟨hn,hl⟩:=hc
  have hm:=h.most
  exact {
   lnd:=h.lnd
   pnd:=jg h.pnd
   lk:=h.lk
   sent:=h.sent
   dom:=h.dom
   most:=h.most
   few:=by
    show(aL _ _ _).length≤64
    rw[pM,if_neg (bW.1 hn)]
    omega
   kn:=by
    intro q y hy
    replace hy:ah (aL d.pre p (L8 p)) q=some y:=hy
    rw[aJ]at hy
    by_cases e:q=p
    ·rw[if_pos e]at hy
     injection hy with hy
     subst hy;subst e
     exact⟨rfl,hp,(fun w hw=>by cases hw),(fun k w hw=>by cases hw),(show wE 0 from⟨by decide,by decide⟩),(fun k hk=>by cases hk),List.nodup_nil,List.nodup_nil⟩
    ·rw[if_neg e]at hy
     exact h.kn q y hy}
 ·exact h
theorem Gl{N:Int→Prop}{d:ao}{k:Int}{p:Int×Int}{v:Vec}{tag:Int}(h:aV N d)(hp:qb p)(ht:wE tag):aV N (eo k p v tag d):=by
 unfold eo
 dsimp only
 generalize hf:(!Ht tag d.dom&&gd v)=fine
 have h1:aV N (if fine=true then sH d p else d):=by split;exact PM h hp;exact h
 generalize(if fine=true then sH d p else d)=d1 at h1
 split
 ·exact h1
 ·rename_i x hx
  refine h1.set hx ?_
  cases fine
  ·exact L7 (h1.kn p x hx)
  ·exact P6 (h1.kn p x hx) ht
theorem M5{N:Int→Prop}{k:Int}{p:Int×Int}{d d':ao}{ls:List Ltr}(h:aV N d)(hs:wi k p d d' ls):aV N d'∧ls.length≤1∧ ∀l∈ls,nw N l:=by
 have hlen:=PT hs
 obtain⟨x,hx,hs⟩:=hs
 have hk:=h.kn p x hx
 split at hs
 ·obtain⟨l,hl,rfl,rfl⟩:=hs
  refine⟨h.sput hl (rc l) (h.sent k l hl).2,hlen,fun y hy=>?_⟩
  rw[List.mem_singleton]at hy
  subst hy
  exact⟨(h.lk k (aO.1 (by rw[hl];rfl))).1,rc l,by dsimp;omega,by rw[show x.p=p from hk.px];exact hk.pf,hk.told⟩
 ·obtain⟨rfl,rfl⟩:=hs
  exact⟨h,hlen,fun l hl=>by cases hl⟩
theorem HU{N:Int→Prop}{n:Nat}{step:Int×Int→ao→ao→List Ltr→Prop}(hs: ∀p d d' ls,aV N d→step p d d' ls→aV N d'∧ls.length≤n∧ ∀l∈ls,nw N l): ∀{ps:List (Int×Int)} {d d':ao} {ls:List Ltr},aV N d→ld step ps d d' ls→aV N d'∧ls.length≤ps.length*n∧ ∀l∈ls,nw N l
 |[],_,_,_,h,⟨e,e2⟩=>by subst e;subst e2;exact⟨h,by simp,fun l hl=>by cases hl⟩
 |p::ps,d,_,_,h,⟨d1,l1,l2,h1,h2,e⟩=>by
  subst e
  obtain⟨a1,a2,a3⟩:=hs _ _ _ _ h h1
  obtain⟨b1,b2,b3⟩:=HU hs a1 h2
  refine⟨b1,?_,fun l hl=>(List.mem_append.1 hl).elim (a3 l) (b3 l)⟩
  rw[List.length_append,List.length_cons,Nat.add_mul]
  omega
theorem PW{N:Int→Prop}{k:Int}{v:Vec}{d d':ao}{ls:List Ltr}(h:aV N d)(hN:N k)(hu:UpR k v d d' ls):aV N d'∧ls.length≤64∧ ∀l∈ls,nw N l:=by
 unfold UpR at hu
 split at hu
 ·obtain⟨rfl,rfl⟩:=hu
  exact⟨h,by simp,fun l hl=>by cases hl⟩
 ·rename_i hc
  obtain⟨ps,hps,hf⟩:=hu
  have hk0:ah d.links k=none:=Classical.byContradiction fun hh=>hc (.inr (.inr (.inl hh)))
  have h1:aV N {d with links:=aL d.links k ⟨v,0,0⟩}:=
   {
    lnd:=jg h.lnd
    pnd:=h.pnd
    lk:=by
     intro i hi
     replace hi:i∈am (aL d.links k _):=hi
     rw[gL]at hi
     split at hi
     ·exact h.lk i hi
     ·rcases List.mem_append.1 hi with hi|hi
      ·exact h.lk i hi
      ·rw[List.mem_singleton]at hi
       subst hi
       exact⟨hN,by omega⟩
    sent:=by
     intro i y hy
     replace hy:ah (aL d.links k _) i=some y:=hy
     rw[aJ]at hy
     split at hy
     ·injection hy with hy;subst hy;exact⟨by dsimp;omega,by dsimp;omega⟩
     ·exact h.sent i y hy
    dom:=h.dom
    most:=h.most
    few:=h.few
    kn:=fun p x hx=>(h.kn p x hx).sub fun i hi=>by
     show i∈am (aL d.links k _)
     rw[gL]
     split
     ·exact(h.kn p x hx).opn i hi
     ·exact List.mem_append_left _ ((h.kn p x hx).opn i hi)}
  obtain⟨a,b,c⟩:=HU (n:=1) (fun _ _ _ _ h hs=>M5 h hs) h1 hf
  have:=hps.length_eq
  have hfew:=h.few
  exact⟨a,by simp[am]at this;omega,c⟩
theorem MU{N:Int→Prop}{p:Int×Int}{v:Vec}{tag:Int}{d d':ao}{ls:List Ltr}{e:Int}(h:aV N d)(hp:qb p)(ht:wE tag)(hu:GP p v tag d d' ls e):aV N d'∧ls.length≤32∧ ∀l∈ls,nw N l:=by
 unfold GP at hu
 split at hu
 ·obtain⟨rfl,rfl,_⟩:=hu;exact⟨h,by simp,fun l hl=>by cases hl⟩
 ·split at hu
  ·obtain⟨rfl,rfl,_⟩:=hu;exact⟨h,by simp,fun l hl=>by cases hl⟩
  ·split at hu
   ·obtain⟨rfl,rfl,_⟩:=hu;exact⟨h,by simp,fun l hl=>by cases hl⟩
   ·rename_i x hx
    have ha:=PM h hp
    exact Dn (ha.set (x':={x with own:=some ⟨v,tag,0⟩}) hx {ha.kn p x hx with own:=fun w hw=>by injection hw with hw;subst hw;exact⟨ht,rfl⟩}) hu.2
theorem Je{N:Int→Prop}{p:Int×Int}{d d':ao}{ls:List Ltr}{e:Int}(h:aV N d)(hu:zQ p d d' ls e):aV N d'∧ls.length≤32∧ ∀l∈ls,nw N l:=by
 unfold zQ at hu
 split at hu
 ·obtain⟨rfl,rfl,_⟩:=hu;exact⟨h,by simp,fun l hl=>by cases hl⟩
 ·split at hu
  ·obtain⟨rfl,rfl,_⟩:=hu;exact⟨h,by simp,fun l hl=>by cases hl⟩
  ·rename_i x hx _
   exact Dn (h.set (x':={x with own:=none}) hx {h.kn p x hx with own:=fun w hw=>by cases hw}) hu.2
theorem IM{N:Int→Prop}{k:Int}{l:Ltr}{d d':ao}{ls:List Ltr}(h:aV N d)(hp:qb l.p)(ht:wE l.tag)(hs:0≤l.seq∧l.seq<4294967296)(hu:vq k l d d' ls):aV N d'∧ls.length≤33∧ ∀l∈ls,nw N l:=by
 unfold vq at hu
 split at hu
 ·obtain⟨rfl,rfl⟩:=hu;exact⟨h,by simp,fun l hl=>by cases hl⟩
 ·rename_i f hf
  split at hu
  ·obtain⟨rfl,rfl⟩:=hu;exact⟨h,by simp,fun l hl=>by cases hl⟩
  ·dsimp only at hu
   have h1:aV N (eo k l.p l.v l.tag {d with links:=aL d.links k {f with got:=l.seq}}):=Gl (h.sput hf (h.sent k f hf).1 hs) hp ht
   have hlk:ah (eo k l.p l.v l.tag {d with links:=aL d.links k {f with got:=l.seq}}).links k=some {f with got:=l.seq}:=by
    rw[kq]
    show ah (aL _ _ _) k=_
    rw[aJ,if_pos rfl]
   generalize eo k l.p l.v l.tag {d with links:=aL d.links k {f with got:=l.seq}}=d1 at h1 hu hlk
   have htold:wE (mH d1 l.p).tag:=by
    unfold mH
    split
    ·rename_i x hx;exact(h1.kn _ x hx).told
    ·exact⟨by decide,by decide⟩
   have h2:aV N (if l.code=2 then {d1 with links:=aL d1.links k (aW {f with got:=l.seq})}else d1):=by
    split
    ·exact h1.sput hlk (rc _) hs
    ·exact h1
   have h3: ∀y∈(if l.code=2 then[⟨k,3,(aW {f with got:=l.seq}).sent,l.seq,l.p,(mH d1 l.p).v,(mH d1 l.p).tag⟩]else[]:List Ltr),nw N y:=by
    intro y hy
    split at hy
    ·rw[List.mem_singleton]at hy
     subst hy
     exact⟨(h.lk k (aO.1 (by rw[hf];rfl))).1,rc _,hs,hp,htold⟩
    ·cases hy
   have h4:(if l.code=2 then[⟨k,3,(aW {f with got:=l.seq}).sent,l.seq,l.p,(mH d1 l.p).v,(mH d1 l.p).tag⟩]else[]:List Ltr).length≤1:=by split<;>simp
   generalize(if l.code=2 then {d1 with links:=aL d1.links k (aW {f with got:=l.seq})}else d1)=d2 at h2 hu
   generalize(if l.code=2 then[⟨k,3,(aW {f with got:=l.seq}).sent,l.seq,l.p,(mH d1 l.p).v,(mH d1 l.p).tag⟩]else[]:List Ltr)=ls1 at h3 h4 hu
   split at hu
   ·obtain⟨rfl,rfl⟩:=hu;exact⟨h2,by omega,h3⟩
   ·rename_i x hx
    obtain⟨ls2,hset,rfl⟩:=hu
    have hk:=h2.kn _ x hx
    obtain⟨a,b,c⟩:=Dn (h2.set hx (show wR _ _ (if l.code=3∧ah x.opn k=some l.ack then gi x k else x) by split;exact Jb hk;exact hk)) hset
    exact⟨a,by rw[List.length_append];omega,fun y hy=>(List.mem_append.1 hy).elim (h3 y) (c y)⟩
theorem Af{N:Int→Prop}{p:Int×Int}{d d':ao}{ls:List Ltr}(h:aV N d)(hs:uV p d d' ls):aV N d'∧ls.length≤32∧ ∀l∈ls,nw N l:=by
 obtain⟨x,ks,hx,hks,rfl,rfl⟩:=hs
 have hk:=h.kn p x hx
 have hll:=h.lkn
 have hle:ks.length≤d.links.length:=by
  have:=qJ (hks.nodup_iff.2 hk.ndo) (m:=am d.links) fun k hk'=>hk.opn k (hks.mem_iff.1 hk')
  simpa[am]using this
 refine⟨?_,by rw[List.length_map];omega,?_⟩
 ·refine aV.set (h.smap ks) hx ?_
  have e:am (jO d x ks).opn=am x.opn:=by simp[jO,am]
  exact {hk with
   opn:=fun i hi=>by
    show i∈am (xl _ _ _)
    rw[qc]
    exact hk.opn i (e▸hi)
   ndo:=e▸hk.ndo}
 ·intro l hl
  obtain⟨k,hkm,rfl⟩:=List.mem_map.1 hl
  exact⟨(h.lk k (hk.opn k (hks.mem_iff.1 hkm))).1,zu d k,by dsimp;omega,by rw[show x.p=p from hk.px];exact hk.pf,hk.told⟩
theorem Gm{N:Int→Prop}{d d':ao}{ls:List Ltr}(h:aV N d)(hu:Ju d d' ls):aV N d'∧ls.length≤2048∧ ∀l∈ls,nw N l:=by
 obtain⟨ps,hps,hf⟩:=hu
 obtain⟨a,b,c⟩:=HU (n:=32) (fun _ _ _ _ h hs=>Af h hs) h hf
 have:=hps.length_eq
 have hfew:=h.few
 exact⟨a,by simp[am]at this;omega,c⟩
structure k6 (N:Int→Prop) (k:Int) (done:List (Int×Int)) (d:ao):Prop where
 lnd:(am d.links).Nodup
 pnd:(am d.pre).Nodup
 lk: ∀k∈am d.links,N k∧1≤k∧k≤32
 sent: ∀k l,ah d.links k=some l→(0≤l.sent∧l.sent<4294967296)∧(0≤l.got∧l.got<4294967296)
 dom:d.dom=0
 most:d.most=64
 few:d.pre.length≤64
 no:k∉am d.links
 kn: ∀p x,ah d.pre p=some x→wR (k::am d.links) p x∧(p∈done→k∉am x.opn)
theorem k6.ok{N:Int→Prop}{k:Int}{done:List (Int×Int)}{d:ao}(h:k6 N k done d)(hd: ∀p∈am d.pre,p∈done):aV N d where
 lnd:=h.lnd
 pnd:=h.pnd
 lk:=h.lk
 sent:=h.sent
 dom:=h.dom
 most:=h.most
 few:=h.few
 kn:=fun p x hx=>(h.kn p x hx).1.sub fun i hi=>by
  have h1:=(h.kn p x hx).1.opn i hi
  have h2:=(h.kn p x hx).2 (hd p (aO.1 (by rw[hx];rfl)))
  rcases List.mem_cons.1 h1 with rfl|h1
  ·exact absurd hi h2
  ·exact h1
theorem k6.lkn{N:Int→Prop}{k:Int}{done:List (Int×Int)}{d:ao}(h:k6 N k done d):d.links.length≤32:=by
 have:=Cy (n:=32) h.lnd fun k hk=>(h.lk k hk).2
 simpa[am]using this
theorem I9{N:Int→Prop}{k:Int}{p:Int×Int}{done:List (Int×Int)}{d d':ao}{ls:List Ltr}(h:k6 N k done d)(hs:ln k p d d' ls):k6 N k (done++[p]) d'∧ls.length≤32∧ ∀l∈ls,nw N l:=by
 obtain⟨x0,hx0,hs⟩:=hs
 obtain⟨hk0,_⟩:=h.kn p x0 hx0
 have hk1:=Jb (k:=k) (L7 (k:=k) hk0)
 have hnk:=LX (k:=k) (x:={x0 with rep:=dq x0.rep k}) hk0.ndo
 have hll:=h.lkn
 generalize gi {x0 with rep:=dq x0.rep k} k=x at hk1 hnk hs
 obtain⟨y,r,hx,hr,hc⟩:=hs
 replace hx:ah (aL d.pre p x) p=some y:=hx
 rw[aJ,if_pos rfl]at hx
 injection hx with hx
 subst hx
 have setp: ∀(d1:ao) (z:di),am d1.links=am d.links→(∀k l,ah d1.links k=some l→(0≤l.sent∧l.sent<4294967296)∧(0≤l.got∧l.got<4294967296))→d1.dom=d.dom→d1.most=d.most→d1.pre=aL d.pre p z→wR (k::am d.links) p z→k∉am z.opn→k6 N k (done++[p]) d1:=by
  intro d1 z e1 hsent e3 e4 e2 hz hzk
  refine⟨e1▸h.lnd,by rw[e2];exact jg h.pnd,by rw[e1];exact h.lk,hsent,e3.trans h.dom,e4.trans h.most,?_,by rw[e1];exact h.no,?_⟩
  ·rw[e2,pM,if_pos (aO.1 (by rw[hx0];rfl))]
   exact h.few
  ·intro q w hq
   rw[e2,aJ]at hq
   rw[e1]
   by_cases e:q=p
   ·rw[if_pos e]at hq
    injection hq with hq
    subst hq;subst e
    exact⟨hz,fun _=>hzk⟩
   ·rw[if_neg e]at hq
    obtain⟨a,b⟩:=h.kn q w hq
    refine⟨a,fun hm=>b ?_⟩
    rcases List.mem_append.1 hm with hm|hm
    ·exact hm
    ·exact absurd (List.mem_singleton.1 hm) e
 rcases hc with⟨_,rfl,rfl⟩|⟨_,ks,hks,rfl,rfl⟩
 ·exact⟨setp _ x rfl h.sent rfl rfl rfl hk1 hnk,by simp,fun l hl=>by cases hl⟩
 ·have ht:=G0 hk1 hr
  have hkl:=hks.length_eq
  replace hks:ks.Perm (am d.links):=hks
  generalize hw:({r.getD fe with next:=0}:Way)=w
  have hwt:w.tag=(r.getD fe).tag:=by rw[←hw]
  generalize hd1:({d with pre:=aL d.pre p x}:ao)=d1
  have hl1:d1.links=d.links:=by rw[←hd1]
  refine⟨setp _ (dX d1 x w ks) ?_ ?_ (by rw[←hd1]) (by rw[←hd1]) ?_ ?_ ?_,?_,?_⟩
  ·show am (mpv aW d1.links)=_
   rw[hl1]
   simp[am,mpv]
  ·intro i l hi
   replace hi:ah (mpv aW d1.links) i=some l:=hi
   rw[hl1,SF,tJ]at hi
   obtain⟨y,hy,rfl⟩:=Option.map_eq_some_iff.1 hi
   split
   ·exact⟨rc y,(h.sent i y hy).2⟩
   ·exact h.sent i y hy
  ·show aL d1.pre p _=_
   rw[←hd1]
   exact tO
  ·exact {hk1 with
    told:=by show wE w.tag;rw[hwt];exact ht
    opn:=by
     intro i hi
     unfold dX at hi
     dsimp only at hi
     split at hi
     ·rw[am,List.map_map]at hi
      obtain⟨a,ha,e⟩:=List.mem_map.1 hi
      dsimp at e
      subst e
      exact List.mem_cons_of_mem _ (hks.mem_iff.1 ha)
     ·cases hi
    ndo:=by
     unfold dX
     dsimp only
     split
     ·rw[am,List.map_map]
      show(ks.map fun k=>k).Nodup
      rw[List.map_id']
      exact hks.nodup_iff.2 h.lnd
     ·exact List.nodup_nil}
  ·intro hi
   unfold dX at hi
   dsimp only at hi
   split at hi
   ·rw[am,List.map_map]at hi
    obtain⟨a,ha,e⟩:=List.mem_map.1 hi
    dsimp at e
    subst e
    exact h.no (hks.mem_iff.1 ha)
   ·cases hi
  ·simp[g9,am]at hkl⊢
   omega
  ·intro l hl
   obtain⟨i,hkm,rfl⟩:=List.mem_map.1 hl
   exact⟨(h.lk i (hks.mem_iff.1 hkm)).1,zu _ i,by dsimp;omega,by rw[show x.p=p from hk1.px];exact hk1.pf,by show wE w.tag;rw[hwt];exact ht⟩
theorem Ep{N:Int→Prop}{k:Int}: ∀{ps done:List (Int×Int)} {d d':ao} {ls:List Ltr},k6 N k done d→ld (ln k) ps d d' ls→k6 N k (done++ps) d'∧ls.length≤ps.length*32∧ ∀l∈ls,nw N l
 |[],done,_,_,_,h,⟨e,e2⟩=>by subst e;subst e2;rw[List.append_nil];exact⟨h,by simp,fun l hl=>by cases hl⟩
 |p::ps,done,d,_,_,h,⟨d1,l1,l2,h1,h2,e⟩=>by
  subst e
  obtain⟨a1,a2,a3⟩:=I9 h h1
  obtain⟨b1,b2,b3⟩:=Ep a1 h2
  refine⟨by rw[List.append_assoc]at b1;exact b1,?_,fun l hl=>(List.mem_append.1 hl).elim (a3 l) (b3 l)⟩
  rw[List.length_append,List.length_cons,Nat.add_mul]
  omega
theorem Jc{N:Int→Prop}{k:Int}{d d':ao}{ls:List Ltr}(h:aV N d)(hu:DK k d d' ls):aV N d'∧ls.length≤2048∧ ∀l∈ls,nw N l:=by
 unfold DK at hu
 split at hu
 ·obtain⟨rfl,rfl⟩:=hu;exact⟨h,by simp,fun l hl=>by cases hl⟩
 ·obtain⟨ps,hps,hf⟩:=hu
  have hno:k∉am (dq d.links k):=by rw[←bW,db h.lnd,if_pos rfl]
  have hsub: ∀i∈am (dq d.links k),i∈am d.links:=fun i hi=>(pB.map _).subset hi
  have h1:k6 N k [] {d with links:=dq d.links k}:=
   {
    lnd:=lM h.lnd
    pnd:=h.pnd
    lk:=fun i hi=>h.lk i (hsub i hi)
    sent:=fun i l hi=>by
     replace hi:ah (dq d.links k) i=some l:=hi
     rw[db h.lnd]at hi
     split at hi
     ·cases hi
     ·exact h.sent i l hi
    dom:=h.dom
    most:=h.most
    few:=h.few
    no:=hno
    kn:=fun p x hx=>⟨(h.kn p x hx).sub fun i hi=>by
     by_cases e:i=k
     ·subst e;exact List.mem_cons_self
     ·refine List.mem_cons_of_mem _ (aO.1 ?_)
      show(ah (dq d.links k) i).isSome=true
      rw[db h.lnd,if_neg e]
      exact aO.2 ((h.kn p x hx).opn i hi),fun hm=>by cases hm⟩}
  obtain⟨a,b,c⟩:=Ep h1 hf
  have hl:=hps.length_eq
  have hfew:=h.few
  refine⟨a.ok fun p hp=>?_,by simp[am]at hl;omega,c⟩
  rw[List.nil_append]
  refine hps.mem_iff.2 ?_
  have hk:=(yF hf).1
  rw[hk]at hp
  exact hp
def num(l:List UInt8)(i k:Nat):Nat:=val ((l.drop i).take k)
theorem Ad(l:List UInt8)(i k:Nat):num l i k<256^k:=by
 have h:=NJ ((l.drop i).take k)
 have h2:256^((l.drop i).take k).length≤256^k:=Nat.pow_le_pow_right (by omega) (by simp;omega)
 unfold num
 omega
theorem MC{l:List UInt8}{i k:Nat}(h:i+k≤l.length):Hu l (i:Int) k=some (num l i k):=by
 unfold Hu num
 rw[if_pos (by omega),Int.toNat_natCast]
theorem xI{I:Ctx}{A:Option Addr}{n c:Nat}{l:List UInt8}{i:Nat}(hr:RdB I A n l)(hn:n≤c)(hc:n≤maxLen)(hi:i+4≤l.length)(hi2:i<1000000):
  Fn Tryz.prog 228 #[.slice A n c,.int .i64 (i:Int)] I [] (fun v h'=>v= .tuple #[.int .u32 (num l i 4:Nat),.bool true]∧h'=[]):=by
 have h:=Ka (i:=(i:Int)) hr hn hc (by simp[Lit.wf,IntKind.min,IntKind.max,IntKind.signed,IntKind.bits];omega)
 rw[MC hi]at h
 exact h
theorem Pg{I:Ctx}{A:Option Addr}{n c:Nat}{l:List UInt8}{i:Nat}(hr:RdB I A n l)(hn:n≤c)(hc:n≤maxLen)(hi:i+2≤l.length)(hi2:i<1000000):
  Fn Tryz.prog 229 #[.slice A n c,.int .i64 (i:Int)] I [] (fun v h'=>v= .tuple #[.int .u16 (num l i 2:Nat),.bool true]∧h'=[]):=by
 have h:=Lu (i:=(i:Int)) hr hn hc (by simp[Lit.wf,IntKind.min,IntKind.max,IntKind.signed,IntKind.bits];omega)
 rw[MC hi]at h
 exact h
theorem Ef{l x y:List UInt8}{i k n:Nat}(hl:l=x++(be k n++y))(hx:x.length=i)(hn:n<256^k):num l i k=n:=by
 unfold num
 have h1:(l.drop i).take k=be k n:=by
  rw[hl,←hx,List.drop_left]
  exact List.take_left' (ek k n)
 rw[h1,R4,Nat.mod_eq_of_lt hn]
section
variable {P:Program} {I:Ctx} {f:Ctl} {Q:Value→Mem→Prop} {h:Mem} {k:(Nat→jT)→Tr}
theorem KL{A:Option Addr}{n n2 c sz:Nat}{cs:List Value}{R:Array Value→Prop}(hn:n≤n2)(hl:cs.length=n2*sz)(hc:RdC I h A cs)(hA:A=none→n2=0)(hr:R ⟨cs.take (n*sz)⟩):rwp P I h (Builtin.firstCells sz n (.slice A n2 c)) R:=by
 have hle:n*sz≤n2*sz:=Nat.mul_le_mul_right _ hn
 have key:rwp P I h (Builtin.firstCells sz n (.slice A n c)) R:=m7 (n:=n) (c:=c) (sz:=sz) (by simp;omega) (hc.take _) (fun e=>by have:=hA e;omega) hr
 cases A<;>exact key
theorem SA{ts tx e ty:TypeId}{sz by_:Nat}{z:Value}{cons:Array Bool}(hb:oZ P ts e sz by_ z){a:Addr}{A2:Option Addr}{n c o n' c' n2 c2:Nat}{cs cs2:List Value}{m hr:Mem}{A':Option Addr}(hQ:Aff Q)
  (hp:h.Perm (m++hr))(ho:Own e sz (some a) n c cs m)(had:A'=some (a.add o))(h2:RdC I h A2 cs2)(hA2:A2=none→n2=0)(hl2:cs2.length=n2*sz)(hlen:o+min n2 n'*sz≤n*sz)
  (hv: ∀u∈cs2,(∀x,u≠ .agg x)∧ ∀x,u≠ .tuple x)
  (hk: ∀m',Own e sz (some a) n c (wrL cs o (cs2.take (min n2 n'*sz))) m'→holds P f I Q (k fun _=>{i:=((min n2 n':Nat):Int)}) (m'++hr)):
  holds P f I Q (.nx (builtin .copy #[ts,tx] ty cons #[.slice A' n' c',.slice A2 n2 c2]) (.one (.sc (.int .i64))) k) h:=by
 obtain⟨ti,hi,hti1,hti2,hti3⟩:=hb.info
 have hsz:i4 P e=some sz:=by simp[i4,hi,hti1]
 intro _
 refine yA ?_
 show swp P I (Builtin.copy_ #[ts,tx] ty #[.slice A' n' c',.slice A2 n2 c2]) h _
 unfold Builtin.copy_
 simp only[List.getElem?_toArray,List.getElem?_cons_zero,List.getElem?_cons_succ]
 refine aK (ap hb.u) ?_
 subst had
 show swp P I ((sizeOf e)>>=fun s=>(Builtin.firstCells s (min n2 n') (.slice A2 n2 c2))>>=fun cells=>storeCells (a.add o) cells.toList>>=fun _=>pure (goInt ((min n2 n':Nat):Int))) h _
 refine aK (eV hsz) ?_
 rw[aS]
 refine dj _ (KL (Nat.min_le_left _ _) hl2 h2 hA2 ?_)
 have hle:min n2 n'*sz≤n2*sz:=Nat.mul_le_mul_right _ (Nat.min_le_left _ _)
 rw[aS]
 refine xc hp ho (by simp;omega) (fun u hu=>hv u (List.mem_of_mem_take hu)) fun m' h' hp' ho'=>⟨fun _=>{i:=((min n2 n':Nat):Int)},rfl,aN hQ hp' (hk m' ho')⟩
end
theorem PP{l:List UInt8}{i:Nat}{b:UInt8}(hi:i<l.length):wrL (bC l) i [.int .u8 (b.toNat:Int)]=bC (l.set i b):=by
 apply List.ext_getElem?
 intro q
 rw[QF (by simp;omega)]
 simp only[bC,List.length_singleton,List.getElem?_map,List.getElem?_set]
 by_cases hq:i=q
 ·subst hq
  rw[if_pos ⟨Nat.le_refl _,by omega⟩,if_pos rfl,if_pos hi]
  simp
 ·rw[if_neg (by omega),if_neg hq]
theorem P2(l:List UInt8)(n:Nat):(bC l).take n=bC (l.take n):=by simp[bC,List.map_take]
theorem Q8(l:List UInt8)(n:Nat):(bC l).drop n=bC (l.drop n):=by simp[bC,List.map_drop]
theorem Px{l m:List UInt8}{i:Nat}:wrL (bC l) i (bC m)=bC (l.take i++m++l.drop (i+m.length)):=by
 unfold wrL
 rw[P2,Q8,←bC_append,←bC_append,GJ]
end Go.Proofs.YtadanegddceleaaGreatS
