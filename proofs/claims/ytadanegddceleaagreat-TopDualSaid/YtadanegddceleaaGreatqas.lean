import Derived.Test.YtadanegddceleaaGreatqad
import Derived.Test.YtadanegddceleaaGreatqam
import Derived.Test.YtadanegddceleaaGreatqao
import Derived.Test.YtadanegddceleaaGreatqar
set_option linter.unusedSimpArgs false
set_option linter.unusedVariables false
set_option maxRecDepth 20000
namespace Go.Proofs.YtadanegddceleaaGreatS
theorem My{I:Ctx}{e:mV}(ho:e.ok):Fn Tryz.prog 98 #[e.vv] I [] (wd (gH e)):=by
 refine EP _ _ _ _ _ _ ?_
 refine aP fun _ _ _=>?_;dsimp only[ag];refine ldI mE rE kE ?_;dsimp only[ag];refine ldI mE rE kE ?_;dsimp only[ag];refine ldI mE rE kE ?_;dsimp only[ag];refine ldI mE rE kE ?_;dsimp only[ag];refine ldI mE rE kE ?_;dsimp only[ag];refine ldI mE rE kE ?_;dsimp only[ag]
 simp only[QA,GC]
 refine ak [] _ dM (List.Perm.refl _) (fun hl=>fP ho.a) ?_
 rintro v h1 ⟨A1,c1,rfl,ho1⟩
 refine⟨fun _=>{A:=A1,n:=(be 4 e.a).length,c:=c1},rfl,?_⟩
 dsimp only
 refine pn1 mE rE kE ?_;refine pn1 mE rE kE ?_;refine pn1 mE rE kE ?_;refine pn1 mE rE kE ?_;refine pn1 mE rE kE ?_
 refine ak [] _ Ac (List.Perm.refl _) (fun hl=>Et ho.tag) ?_
 rintro v h2 ⟨A2,c2,rfl,ho2⟩
 refine⟨fun _=>{A:=A2,n:=(be 2 e.tag).length,c:=c2},rfl,?_⟩
 dsimp only
 refine pn1 mE rE kE ?_;refine pn1 mE rE kE ?_;refine pn1 mE rE kE ?_;refine pn1 mE rE kE ?_
 refine ak [] _ dM (List.Perm.refl _) (fun hl=>fP (BN e.v.b)) ?_
 rintro v h3 ⟨A3,c3,rfl,ho3⟩
 refine⟨fun _=>{A:=A3,n:=(be 4 (jR e.v.b)).length,c:=c3},rfl,?_⟩
 dsimp only
 refine pn1 mE rE kE ?_;refine pn1 mE rE kE ?_;refine pn1 mE rE kE ?_
 refine ak [] _ dM (List.Perm.refl _) (fun hl=>fP (BN e.v.d)) ?_
 rintro v h4 ⟨A4,c4,rfl,ho4⟩
 refine⟨fun _=>{A:=A4,n:=(be 4 (jR e.v.d)).length,c:=c4},rfl,?_⟩
 dsimp only
 refine pn1 mE rE kE ?_;refine pn1 mE rE kE ?_
 refine gK (e:=5) #[.int .u8 ((lS e.n).toNat:Int),.int .u8 ((lS e.v.p).toNat:Int)] kE fun g6 hg6 hI6=>?_
 dsimp only
 refine JP (n:=4) (c:=4) pD (Nat.le_refl _) (by omega) (by omega) fun g5 hg5 hI5 ho5=>?_
 rw[show(Builtin.zeroCells (Value.int IntKind.u8 0).cells 4).toList=bC (List.replicate 4 0)from EF 4]at ho5
 dsimp only
 refine gK (e:=85) #[.slice A1 (be 4 e.a).length c1,.slice (some ⟨g6,0,none⟩) 2 2,.slice A2 (be 2 e.tag).length c2,.slice A3 (be 4 (jR e.v.b)).length c3,.slice A4 (be 4 (jR e.v.d)).length c4,.slice (some ⟨g5,0,none⟩) 4 4] kE fun g7 hg7 hI7=>?_
 dsimp only
 refine ak [] _ dL (List.Perm.refl _) (fun hl=>nJ (ls:=[be 4 e.a,[lS e.n,lS e.v.p],be 2 e.tag,be 4 (jR e.v.b),be 4 (jR e.v.d),List.replicate 4 0])
  (cs:=[.slice A1 (be 4 e.a).length c1,.slice (some ⟨g6,0,none⟩) 2 2,.slice A2 (be 2 e.tag).length c2,.slice A3 (be 4 (jR e.v.b)).length c3,.slice A4 (be 4 (jR e.v.d)).length c4,.slice (some ⟨g5,0,none⟩) 4 4])
  (RdC.all hl (fun _=>⟨_,rfl,cw mE rfl⟩)) ?_ (by simp[ly]) (by simp)) ?_
 ·have own6:BI (some ⟨g6,0,none⟩) 2 2 [lS e.n,lS e.v.p] [(g6,.cells #[.int .u8 ((lS e.n).toNat:Int),.int .u8 ((lS e.v.p).toNat:Int)] 5 (0,0))]:=Own.row (n:=2) rfl
  refine⟨_,_,rfl,⟨_,_,rfl,ho1.rdb hl sE⟩,_,_,rfl,⟨_,2,rfl,own6.rdb hl sE⟩,_,_,rfl,⟨_,_,rfl,ho2.rdb hl sE⟩,_,_,rfl,⟨_,_,rfl,ho3.rdb hl sE⟩,_,_,rfl,⟨_,_,rfl,ho4.rdb hl sE⟩,_,_,rfl,⟨_,4,rfl,BI.rdb ho5 hl sE⟩,rfl⟩
 rintro v h8 ⟨A8,c8,rfl,ho8⟩
 have hf:[be 4 e.a,[lS e.n,lS e.v.p],be 2 e.tag,be 4 (jR e.v.b),be 4 (jR e.v.d),List.replicate 4 0].flatten=gH e:=by simp[gH,List.replicate]
 rw[hf]at ho8⊢
 refine⟨fun _=>{A:=A8,n:=(gH e).length,c:=c8},rfl,?_⟩
 exact aY p1E ⟨A8,c8,rfl,ho8⟩
theorem Db(e:mV):(gH e).length=20:=by simp[gH,ek]
def eO(l:List UInt8)(i:Nat):UInt8:=l[i]?.getD 0
theorem uY{l:List UInt8}{i:Nat}(h:i<l.length):l[i]? =some (eO l i):=by
 unfold eO;rw[List.getElem?_eq_getElem h];rfl
def fY(l:List UInt8):mV:=⟨num l 0 4,(((eO l 4).toNat:Nat):Int),⟨(num l 8 4:Nat),(num l 12 4:Nat),(((eO l 5).toNat:Nat):Int)⟩,num l 6 2⟩
theorem Dk(l:List UInt8):(fY l).ok:=by
 have h1:=Ad l 0 4
 have h2:=Ad l 6 2
 have h3:=(eO l 4).toNat_lt
 exact⟨h1,⟨by show _≤(((eO l 4).toNat:Nat):Int);omega,by show(((eO l 4).toNat:Nat):Int)≤_;omega⟩,h2⟩
theorem GE{I:Ctx}{A:Option Addr}{c:Nat}{l:List UInt8}(hr:RdB I A 20 l)(hn:20≤c):
  Fn Tryz.prog 339 #[.slice A 20 c] I [] (fun v h'=>v=(fY l).vv∧h'=[]):=by
 have hlen:=hr.len
 have hc:20≤maxLen:=by unfold maxLen;omega
 have up: ∀{h:Mem},dJ I h→RdB (plus I h) A 20 l:=fun hl=>hr.up (Sub.self.up hl)
 have h4:l[4]? =some (eO l 4):=uY (by omega)
 have h5:l[5]? =some (eO l 5):=uY (by omega)
 have b4:=(eO l 4).toNat_lt
 have b5:=(eO l 5).toNat_lt
 have n8:=Ad l 8 4
 have n12:=Ad l 12 4
 refine FI _ _ _ ?_
 refine aP fun _ _ _=>?_;dsimp only[ag];refine aP fun _ _ _=>?_;dsimp only[ag]
 refine aA (ag [{i:=(num l 0 4:Nat)},{b:=true}]) lB (fun hl=>xI (i:=0) (up hl) hn hc (by omega) (by omega)) rfl ?_
 dsimp only[ag]
 refine stU uE kE rE vE ?_
 refine Jj (e:=5) 4 (hr.rd.sub Sub.self) h4 hr.len rfl kE kE kE fun a4 _=>?_
 dsimp only
 obtain⟨a,hA,hc5⟩:=hr.rd.byte (i:=5) h5
 subst hA
 refine aI (e:=5) a (sz:=1) kE kE (by omega) (by omega) rfl ?_
 refine aZ kE (hc5.sub Sub.self) ?_
 dsimp only
 rw[cr (x:=(((eO l 4).toNat:Nat):Int)) (by omega),cr (x:=(((eO l 5).toNat:Nat):Int)) (by omega)]
 refine stU uE kE rE vE ?_
 refine DN (iq (ia kE (hc5.sub Sub.self) rfl)) ?_
 refine DN (iq (Ja (e:=5) (sz:=1) kE kE (by omega) (by omega) rfl rfl)) ?_
 refine stU uE kE rE vE ?_
 refine aA (ag [{i:=(num l 6 2:Nat)},{b:=true}]) FW (fun hl=>Pg (i:=6) (up hl) hn hc (by omega) (by omega)) rfl ?_
 dsimp only[ag]
 refine stU uE kE rE vE ?_
 refine aA (ag [{i:=(num l 8 4:Nat)},{b:=true}]) lB (fun hl=>xI (i:=8) (up hl) hn hc (by omega) (by omega)) rfl ?_
 refine aA (ag [{i:=(num l 12 4:Nat)},{b:=true}]) lB (fun hl=>xI (i:=12) (up hl) hn hc (by omega) (by omega)) rfl ?_
 dsimp only[ag]
 rw[cr (x:=((num l 8 4:Nat):Int)) (by omega),cr (x:=((num l 12 4:Nat):Int)) (by omega)]
 refine stU uE kE rE vE ?_;refine stU uE kE rE vE ?_;refine RH mE rE kE ?_;dsimp only[ag];refine stU uE kE rE vE ?_;refine To mE rE kE ?_;dsimp only[ag]
 exact aC ⟨rfl,rfl⟩
def Me(J:Ctx)(e:mV)(cs:List Value):Prop:=cs=e.cs∧e.ok
theorem Me.len(J:Ctx)(e:mV)(cs:List Value)(h:Me J e cs):cs.length=6:=by rw[h.1];rfl
def ma(J:Ctx)(A:Option Addr)(es:List mV):Prop:= ∃cs,RdC J [] A cs∧nD (Me J) es cs
theorem ma.up{J J':Ctx}{A:Option Addr}{es:List mV}(h:ma J A es)(hs: ∀b o,J b=some o→J' b=some o):ma J' A es:=by
 obtain⟨cs,h1,h2⟩:=h
 exact⟨cs,h1.up hs,h2.mono fun o c h=>h⟩
theorem ma.get{J:Ctx}{A:Option Addr}{es:List mV}(h:ma J A es){i:Nat}(hi:i<es.length): ∃a,A=some a∧es[i].ok∧df J [] (a.add (i*6)) es[i].cs:=by
 obtain⟨cs,h1,h2⟩:=h
 obtain⟨a,c,rfl,⟨rfl,hok⟩,hc⟩:=h2.at (Me.len J) h1 (by omega) (List.getElem?_eq_getElem hi)
 exact⟨a,rfl,hok,hc⟩
theorem ma.nil{J:Ctx}{A:Option Addr}{es:List mV}(h:ma J A es):A=none→es.length=0:=by
 rintro rfl
 by_cases he:es.length=0
 ·exact he
 ·obtain⟨a,h1,_⟩:=h.get (i:=0) (by omega)
  cases h1
theorem HV{J:Ctx}{A:Option Addr}{c:Nat}{es:List mV}(hin:ma J A es)(hbd:es.length≤1000000):
  ∀(k i:Nat) (u:Nat→Value) (h:Mem),i+k=es.length→(es.take i).all kG=true→
  Wp Tryz.prog 111 cd (cg A es.length c i u) J h (cl_ fun v h'=>(∃x:Int,v= .int .i64 x∧(0≤x↔es.all kG=false))∧h'=[]):=by
 intro k
 induction k with
 |zero=>
  intro i u h hik hno
  refine ge _ _ _ _ _ ?_
  refine b7 (by simp;omega) ?_
  refine aC ⟨⟨-1,rfl,?_⟩,rfl⟩
  rw[List.take_of_length_le (by omega)]at hno
  rw[hno]
  simp
 |succ k ih=>
  intro i u h hik hno
  have hi:i<es.length:=by omega
  obtain⟨a,rfl,hok,hc⟩:=hin.get hi
  refine ge _ _ _ _ _ ?_
  refine aX (by simp;omega) ?_
  refine aI a rfl (sz:=6) kE (by omega) (by omega) rfl ?_
  dsimp only
  rw[Int.toNat_natCast]
  refine bL (cs:=es[i].cs) es[i].ls kE kE (hc.sub Sub.self) rfl ?_
  dsimp only[ag,mV.ls]
  refine aA (v:= .bool (!kG es[i])) (fun _=>{b:= !kG es[i]}) u2 (fun hl=>MW hok) rfl ?_
  refine ay (fun hb=>?_) (fun hb=>?_)
  ·refine aC ⟨⟨i,rfl,?_⟩,rfl⟩
   have:es.all kG=false:=by
    rw[List.all_eq_false]
    exact⟨es[i],List.getElem_mem hi,by simpa using hb⟩
   rw[this]
   simp
  ·refine aj fun _ hl=>?_
   rw[dT (by omega)]
   refine ih (i+1) _ h (by omega) ?_
   rw[List.take_succ_eq_append_getElem hi,List.all_append,hno]
   simpa using hb
theorem Ev{J:Ctx}{A:Option Addr}{c:Nat}{es:List mV}(hin:ma J A es)(hbd:es.length≤1000000):
  Fn Tryz.prog 95 #[.slice A es.length c,.func (.func 93) #[] #[]] J [] (fun v h'=>v= .bool (!es.all kG)∧h'=[]):=by
 refine k7 _ _ _ ?_
 refine ak [] _ me (List.Perm.refl _) (fun hl=>?_) (Qc:=fun v h'=>(∃x:Int,v= .int .i64 x∧(0≤x↔es.all kG=false))∧h'=[]) ?_
 ·refine m9 _ _ _ ?_
  refine aj fun _ hl2=>?_
  exact HV (hin.up (Sub.self.up hl)) hbd es.length 0 _ _ (by omega) (by simp)
 ·rintro v h1 ⟨⟨x,rfl,hx⟩,rfl⟩
  refine⟨fun _=>{i:=x},rfl,?_⟩
  refine aC ⟨?_,rfl⟩
  dsimp only
  cases ha:es.all kG with
  |true=>
   rw[decide_eq_false (p:=x≥0) (fun h=>by have:=hx.1 h;rw[ha]at this;cases this)]
   rfl
  |false=>
   rw[decide_eq_true (p:=x≥0) (hx.2 ha)]
   rfl
def zs(l:List UInt8):List UInt8:=(l.set 2 0).set 3 0
theorem GU{I:Ctx}{A:Option Addr}{n c:Nat}{l:List UInt8}(hr:RdB I A n l)(h4:4≤n)(hn:n≤1000000):Fn Tryz.prog 99 #[.slice A n c] I [] (wd (be 2 (GS (zs l)))):=by
 have hln:=hr.len
 refine Fp _ _ _ ?_
 refine ak [] _ mC (List.Perm.refl _) (fun hl=>Lz (hr.up (Sub.self.up hl)) hn) ?_
 rintro v h1 ⟨A1,c1,rfl,ho1⟩
 refine⟨fun _=>{A:=A1,n:=l.length,c:=c1},rfl,?_⟩
 dsimp only
 obtain⟨a,rfl⟩: ∃a,A1=some a:=by
  cases A1 with
  |none=>have:=ho1.some_of rfl;omega
  |some a=>exact⟨a,rfl⟩
 refine aI (e:=5) a (sz:=1) kE kE (by omega) (by omega) rfl ?_
 dsimp only
 refine iH 2 (hr:=[]) (cl_.aff _) (List.Perm.refl _) ho1 rfl kE (by simp[Value.cells];omega) (by simp[Value.cells]) ?_
 intro m2 ho2
 have ho2:BI (some a) l.length c1 (l.set 2 0) m2:=by
  have hw:=PP (l:=l) (i:=2) (b:=0) (by omega)
  show Own 5 1 (some a) l.length c1 (bC (l.set 2 0)) m2
  rw[←hw];exact ho2
 refine aI (e:=5) a (sz:=1) kE kE (by omega) (by omega) rfl ?_
 dsimp only
 refine iH 3 (hr:=[]) (cl_.aff _) (List.Perm.refl _) ho2 rfl kE (by simp[Value.cells];omega) (by simp[Value.cells]) ?_
 intro m3 ho3
 have ho3:BI (some a) l.length c1 (zs l) m3:=by
  have hw:=PP (l:=l.set 2 0) (i:=3) (b:=0) (by simp;omega)
  show Own 5 1 (some a) l.length c1 (bC ((l.set 2 0).set 3 0)) m3
  rw[←hw];exact ho3
 refine aA (v:= .int .u16 (GS (zs l):Nat)) (fun _=>{i:=(GS (zs l):Nat)}) Ll (fun hl=>N3 (ho3.rdb hl sE) (by omega)) rfl ?_
 refine ak [] _ Ac (List.Perm.refl _) (fun hl=>Et (by have:GS (zs l)≤65535:=Nat.sub_le _ _;omega)) ?_
 rintro v h5 ⟨A5,c5,rfl,ho5⟩
 refine⟨fun _=>{A:=A5,n:=(be 2 (GS (zs l))).length,c:=c5},rfl,?_⟩
 exact aY p1E ⟨A5,c5,rfl,ho5⟩
structure DPk where
 code:Int
 init:Bool
 seq:Nat
 ack:Nat
 es:List mV
abbrev DPk.cs(p:DPk)(A:Option Addr)(c:Nat):List Value:=[.int .i64 p.code,.bool p.init,.int .u32 (p.seq:Nat),.int .u32 (p.ack:Nat),.slice A p.es.length c]
abbrev DPk.vv(p:DPk)(A:Option Addr)(c:Nat):Value:= .agg #[.int .i64 p.code,.bool p.init,.int .u32 (p.seq:Nat),.int .u32 (p.ack:Nat),.slice A p.es.length c]
structure DPk.ok (p:DPk):Prop where
 seq:p.seq<4294967296
 ack:p.ack<4294967296
def qx(p:DPk)(x:List UInt8):List UInt8:=[2,lS p.code]++(x++([if p.init then 1 else 0,0,0,0]++(be 4 p.seq++be 4 p.ack)))
def jQ(p:DPk)(x:List UInt8):List UInt8:=qx p x++p.es.flatMap gH
def ww(p:DPk):List UInt8:=jQ p (be 2 (GS (jQ p [0,0])))
def ii(p:DPk):List UInt8×Int:=
 if p.es.length>40 then([],9)else if p.code<0∨p.code>3∨(p.code=0∧p.es.length>0)∨p.es.all kG=false then([],1)else(ww p,0)
abbrev NH(r:List UInt8×Int)(v:Value)(h':Mem):Prop:= ∃A c,v= .tuple #[.slice A r.1.length c,.int .i64 r.2]∧BI A r.1.length c r.1 h'
theorem Mb(es:List mV):(es.flatMap gH).length=es.length*20:=by
 induction es with
 |nil=>rfl
 |cons e es ih=>rw[List.flatMap_cons,List.length_append,ih,Db,List.length_cons];omega
theorem qy(p:DPk){x:List UInt8}(hx:x.length=2):(qx p x).length=16:=by simp[qx,ek,hx]
theorem xV(p:DPk){x:List UInt8}(hx:x.length=2):(jQ p x).length=16+20*p.es.length:=by
 unfold jQ
 rw[List.length_append,qy p hx,Mb]
 omega
theorem qU(p:DPk):(ww p).length=16+20*p.es.length:=xV p (ek _ _)
theorem Tn(p:DPk):zs (jQ p [0,0])=jQ p [0,0]:=rfl
theorem P9(p:DPk)(y:List UInt8)(hy:y.length=2):(jQ p [0,0]).take 2++y++(jQ p [0,0]).drop (2+y.length)=jQ p y:=by
 rw[hy]
 simp[jQ,qx]
theorem xC{J:Ctx}{A:Option Addr}{c:Nat}{p:DPk}(hin:ma J A p.es)(hbd:p.es.length≤40):
  ∀(q i:Nat) (u:Nat→Value) (h m hr:Mem) (A6:Option Addr) (n6 c6:Nat),i+q=p.es.length→aM h m hr→n6=16+i*20→BI A6 n6 c6 (qx p [0,0]++(p.es.take i).flatMap gH) m→
  Wp Tryz.prog 81 bg (bi A p.es.length c p.es.length A6 n6 c6 i u) J h (cl_ (NH (ww p,0))):=by
 intro q
 induction q with
 |zero=>
  intro i u h m hr A6 n6 c6 hiq hp hn ho
  rw[List.take_of_length_le (by omega)]at ho
  have ho:BI A6 n6 c6 (jQ p [0,0]) m:=ho
  have hl:=ho.len
  have hX:=xV p (x:=[0,0]) rfl
  obtain⟨a,rfl⟩: ∃a,A6=some a:=by
   cases A6 with
   |none=>have:=ho.some_of rfl;omega
   |some a=>exact⟨a,rfl⟩
  have hc:=ho.2.1
  refine pp _ _ _ _ _ _ _ _ _ ?_
  refine aN (cl_.aff _) (g:=m++hr) hp ?_
  refine b7 (by simp;omega) ?_
  refine uK (e:=5) (sz:=1) 2 n6 c6 kE kE rfl rfl rfl (by simp) (by omega) (by omega) (by omega) ?_
  dsimp only
  refine ak [] _ wj (List.Perm.refl _) (fun hl2=>GU (l:=jQ p [0,0]) (ho.rdb hl2 sE) (by omega) (by omega)) ?_
  rintro v h5 ⟨A5,c5,rfl,ho5⟩
  refine⟨fun _=>{A:=A5,n:=(be 2 (GS (zs (jQ p [0,0])))).length,c:=c5},rfl,?_⟩
  dsimp only
  refine DN (iq (MT (e:=5) (sz:=1) (l:=2) (u:=n6) (m:=c6) kE kE rfl rfl rfl (by simp) (by omega) (by omega) (by omega) rfl)) ?_
  rw[Tn]at ho5⊢
  rw[B0 (show c6≠2 by omega)]
  refine SA (o:=2) (m:=m) (hr:=h5++hr) pD (cl_.aff _) p1E ho rfl (ho5.rd sE) ho5.some_of (by simp) (by rw[ek];omega) (bC_plain _) ?_
  intro m' ho'
  refine aY (h1:=m') p1E ⟨some a,c6,?_,?_⟩
  ·rw[qU,←hX,hl]
  ·rw[List.take_of_length_le (by rw[GJ,ek];omega),Px,P9 _ _ (ek _ _)]at ho'
   rw[qU,←hX,hl]
   exact ho'
 |succ q ih=>
  intro i u h m hr A6 n6 c6 hiq hp hn ho
  have hi:i<p.es.length:=by omega
  obtain⟨a,rfl,hok,hc⟩:=hin.get hi
  have htk:p.es.take (i+1)=p.es.take i++[p.es[i]]:=List.take_succ_eq_append_getElem hi
  refine pp _ _ _ _ _ _ _ _ _ ?_
  refine aN (cl_.aff _) (g:=m++hr) hp ?_
  refine aX (by simp;omega) ?_
  refine aI a rfl (sz:=6) kE (by omega) (by omega) rfl ?_
  dsimp only
  rw[Int.toNat_natCast]
  refine bL (cs:=p.es[i].cs) p.es[i].ls kE kE (hc.sub Sub.self) rfl ?_
  dsimp only[ag,mV.ls]
  refine aP fun _ _ _=>?_;dsimp only[ag];refine stU uE kE rE vE ?_;refine RH mE rE kE ?_;dsimp only[ag]
  refine ak [] _ DJ (List.Perm.refl _) (fun hl=>My hok) ?_
  rintro v h1 ⟨A1,c1,rfl,ho1⟩
  refine⟨fun _=>{A:=A1,n:=(gH p.es[i]).length,c:=c1},rfl,?_⟩
  dsimp only
  have hel:=Db p.es[i]
  refine bP (cl_.aff _) pD kE (ho1.rd sE) ho1.some_of (by simp) (bC_plain _) (m:=m) p1E ho (by omega) (by omega) ?_
  intro A' c' m' ho'
  refine aj fun _ hl=>?_
  dsimp only
  rw[dT (by omega)]
  refine ih (i+1) _ _ m' _ A' _ c' (by omega) p1E (by omega) ?_
  rw[←bC_append]at ho'
  rw[htk,List.flatMap_append,←List.append_assoc,show[p.es[i]].flatMap gH=gH p.es[i] by simp]
  exact ho'
theorem uo{J:Ctx}{A:Option Addr}{c:Nat}{p:DPk}(hin:ma J A p.es)(hp:p.ok):Fn Tryz.prog 81 #[p.vv A c] J [] (NH (ii p)):=by
 refine AK _ _ _ _ _ _ _ ?_
 refine aP fun _ _ _=>?_;dsimp only[ag];refine ldL mE rE kE ?_;dsimp only[ag]
 refine ay (fun t1=>?_) (fun t1=>?_)
 ·rw[show ii p=([],9) by unfold ii;rw[if_pos (by simp at t1;omega)]]
  exact aC ⟨none,0,rfl,Own.nil _ _⟩
 have h40:p.es.length≤40:=by simp at t1;omega
 have bad: ∀{h:Mem},(p.code<0∨p.code>3∨(p.code=0∧p.es.length>0)∨p.es.all kG=false)→holds Tryz.prog 81 J (cl_ (NH (ii p))) (.done (.tuple #[.slice none 0 0,.int .i64 1])) h:=by
  intro h hb
  rw[show ii p=([],1) by unfold ii;rw[if_neg (by omega),if_pos hb]]
  exact aC ⟨none,0,rfl,Own.nil _ _⟩
 refine ldI mE rE kE ?_;dsimp only[ag]
 refine ay (fun t2=>bad (.inl (by simpa using t2))) (fun t2=>?_)
 have hc0:0≤p.code:=by simp at t2;omega
 refine ldI mE rE kE ?_;dsimp only[ag]
 refine ay (fun t3=>?_) (fun t3=>?_)
 ·exact aX t3 (bad (.inr (.inl (by simpa using t3))))
 have hc3:p.code≤3:=by simp at t3;omega
 refine ldI mE rE kE ?_;dsimp only[ag]
 refine ay (fun t4=>?_) (fun t4=>?_)
 ·have h0:p.code=0:=by simpa using t4
  refine ldL mE rE kE ?_;dsimp only[ag]
  refine ay (fun t6=>?_) (fun t6=>?_)
  ·exact aX t6 (bad (.inr (.inr (.inl ⟨h0,by simp at t6;omega⟩))))
  have hn0:p.es.length=0:=by simp at t6;simp[t6]
  refine ldL mE rE kE ?_;dsimp only[ag]
  refine aA (v:= .bool (!p.es.all kG)) (fun _=>{b:= !p.es.all kG}) fI (fun hl=>Ev (hin.up (Sub.self.up hl)) (by omega)) rfl ?_
  dsimp only
  refine ay (fun t5=>?_) (fun t5=>?_)
  ·exact bad (.inr (.inr (.inr (by simpa using t5))))
  have ha:p.es.all kG=true:=by simpa using t5
  rw[show ii p=(ww p,0) by
   unfold ii
   rw[if_neg (by omega),if_neg (by
    rintro(h|h|h|h)
    ·omega
    ·omega
    ·omega
    ·rw[ha]at h;cases h)]]
  refine ldB mE rE kE ?_;dsimp only[ag]
  refine ay (fun hini=>?_) (fun hini=>?_)
  ·have hini:p.init=true:=hini
   refine ldI mE rE kE ?_;dsimp only[ag];refine ldI mE rE kE ?_;dsimp only[ag];refine ldI mE rE kE ?_;dsimp only[ag]
   simp only[GC]
   refine ak [] _ dM (List.Perm.refl _) (fun hl=>fP hp.seq) ?_
   rintro v h1 ⟨A1,c1,rfl,ho1⟩
   refine⟨fun _=>{A:=A1,n:=(be 4 p.seq).length,c:=c1},rfl,?_⟩
   dsimp only
   refine pn1 mE rE kE ?_;refine pn1 mE rE kE ?_
   refine ak [] _ dM (List.Perm.refl _) (fun hl=>fP hp.ack) ?_
   rintro v h2 ⟨A2,c2,rfl,ho2⟩
   refine⟨fun _=>{A:=A2,n:=(be 4 p.ack).length,c:=c2},rfl,?_⟩
   dsimp only
   refine pn1 mE rE kE ?_
   refine gK (e:=5) #[.int .u8 2,.int .u8 ((lS p.code).toNat:Int),.int .u8 0,.int .u8 0,.int .u8 1,.int .u8 0,.int .u8 0,.int .u8 0] kE fun g6 hg6 hI6=>?_
   dsimp only
   refine gK (e:=85) #[.slice (some ⟨g6,0,none⟩) 8 8,.slice A1 (be 4 p.seq).length c1,.slice A2 (be 4 p.ack).length c2] kE fun g7 hg7 hI7=>?_
   dsimp only
   refine ak [] _ dL (List.Perm.refl _) (fun hl=>nJ (ls:=[[2,lS p.code,0,0,1,0,0,0],be 4 p.seq,be 4 p.ack])
    (cs:=[.slice (some ⟨g6,0,none⟩) 8 8,.slice A1 (be 4 p.seq).length c1,.slice A2 (be 4 p.ack).length c2])
    (RdC.all hl (fun _=>⟨_,rfl,cw mE rfl⟩)) ?_ (by simp[ly]) (by simp)) ?_
   ·have own6:BI (some ⟨g6,0,none⟩) 8 8 [2,lS p.code,0,0,1,0,0,0] [(g6,.cells #[.int .u8 2,.int .u8 ((lS p.code).toNat:Int),.int .u8 0,.int .u8 0,.int .u8 1,.int .u8 0,.int .u8 0,.int .u8 0] 5 (0,0))]:=Own.row (n:=8) rfl
    exact⟨_,_,rfl,⟨_,8,rfl,own6.rdb hl sE⟩,_,_,rfl,⟨_,_,rfl,ho1.rdb hl sE⟩,_,_,rfl,⟨_,_,rfl,ho2.rdb hl sE⟩,rfl⟩
   rintro v h8 ⟨A8,c8,rfl,ho8⟩
   have hf:[[2,lS p.code,0,0,1,0,0,0],be 4 p.seq,be 4 p.ack].flatten=qx p [0,0]:=by
    have hib:(if p.init then(1:UInt8)else 0)=1:=by rw[hini];rfl
    simp[qx,hib]
   rw[hf]at ho8⊢
   refine⟨fun _=>{A:=A8,n:=(qx p [0,0]).length,c:=c8},rfl,?_⟩
   dsimp only
   refine ldL mE rE kE ?_;dsimp only[ag]
   refine aj fun _ hl=>?_
   refine xC (p:=p) hin h40 p.es.length 0 _ _ h8 _ A8 _ c8 (by omega) p1E (qy p rfl) ?_
   simpa using ho8
  ·have hini:p.init=false:=hini
   refine ldI mE rE kE ?_;dsimp only[ag];refine ldI mE rE kE ?_;dsimp only[ag];refine ldI mE rE kE ?_;dsimp only[ag]
   simp only[GC]
   refine ak [] _ dM (List.Perm.refl _) (fun hl=>fP hp.seq) ?_
   rintro v h1 ⟨A1,c1,rfl,ho1⟩
   refine⟨fun _=>{A:=A1,n:=(be 4 p.seq).length,c:=c1},rfl,?_⟩
   dsimp only
   refine pn1 mE rE kE ?_;refine pn1 mE rE kE ?_
   refine ak [] _ dM (List.Perm.refl _) (fun hl=>fP hp.ack) ?_
   rintro v h2 ⟨A2,c2,rfl,ho2⟩
   refine⟨fun _=>{A:=A2,n:=(be 4 p.ack).length,c:=c2},rfl,?_⟩
   dsimp only
   refine pn1 mE rE kE ?_
   refine gK (e:=5) #[.int .u8 2,.int .u8 ((lS p.code).toNat:Int),.int .u8 0,.int .u8 0,.int .u8 0,.int .u8 0,.int .u8 0,.int .u8 0] kE fun g6 hg6 hI6=>?_
   dsimp only
   refine gK (e:=85) #[.slice (some ⟨g6,0,none⟩) 8 8,.slice A1 (be 4 p.seq).length c1,.slice A2 (be 4 p.ack).length c2] kE fun g7 hg7 hI7=>?_
   dsimp only
   refine ak [] _ dL (List.Perm.refl _) (fun hl=>nJ (ls:=[[2,lS p.code,0,0,0,0,0,0],be 4 p.seq,be 4 p.ack])
    (cs:=[.slice (some ⟨g6,0,none⟩) 8 8,.slice A1 (be 4 p.seq).length c1,.slice A2 (be 4 p.ack).length c2])
    (RdC.all hl (fun _=>⟨_,rfl,cw mE rfl⟩)) ?_ (by simp[ly]) (by simp)) ?_
   ·have own6:BI (some ⟨g6,0,none⟩) 8 8 [2,lS p.code,0,0,0,0,0,0] [(g6,.cells #[.int .u8 2,.int .u8 ((lS p.code).toNat:Int),.int .u8 0,.int .u8 0,.int .u8 0,.int .u8 0,.int .u8 0,.int .u8 0] 5 (0,0))]:=Own.row (n:=8) rfl
    exact⟨_,_,rfl,⟨_,8,rfl,own6.rdb hl sE⟩,_,_,rfl,⟨_,_,rfl,ho1.rdb hl sE⟩,_,_,rfl,⟨_,_,rfl,ho2.rdb hl sE⟩,rfl⟩
   rintro v h8 ⟨A8,c8,rfl,ho8⟩
   have hf:[[2,lS p.code,0,0,0,0,0,0],be 4 p.seq,be 4 p.ack].flatten=qx p [0,0]:=by
    have hib:(if p.init then(1:UInt8)else 0)=0:=by rw[hini];rfl
    simp[qx,hib]
   rw[hf]at ho8⊢
   refine⟨fun _=>{A:=A8,n:=(qx p [0,0]).length,c:=c8},rfl,?_⟩
   dsimp only
   refine ldL mE rE kE ?_;dsimp only[ag]
   refine aj fun _ hl=>?_
   refine xC (p:=p) hin h40 p.es.length 0 _ _ h8 _ A8 _ c8 (by omega) p1E (qy p rfl) ?_
   simpa using ho8
 ·have h0:p.code≠0:=by simpa using t4
  refine ldL mE rE kE ?_;dsimp only[ag]
  refine aA (v:= .bool (!p.es.all kG)) (fun _=>{b:= !p.es.all kG}) fI (fun hl=>Ev (hin.up (Sub.self.up hl)) (by omega)) rfl ?_
  dsimp only
  refine ay (fun t5=>?_) (fun t5=>?_)
  ·exact bad (.inr (.inr (.inr (by simpa using t5))))
  have ha:p.es.all kG=true:=by simpa using t5
  rw[show ii p=(ww p,0) by
   unfold ii
   rw[if_neg (by omega),if_neg (by
    rintro(h|h|h|h)
    ·omega
    ·omega
    ·omega
    ·rw[ha]at h;cases h)]]
  refine ldB mE rE kE ?_;dsimp only[ag]
  refine ay (fun hini=>?_) (fun hini=>?_)
  ·have hini:p.init=true:=hini
   refine ldI mE rE kE ?_;dsimp only[ag];refine ldI mE rE kE ?_;dsimp only[ag];refine ldI mE rE kE ?_;dsimp only[ag]
   simp only[GC]
   refine ak [] _ dM (List.Perm.refl _) (fun hl=>fP hp.seq) ?_
   rintro v h1 ⟨A1,c1,rfl,ho1⟩
   refine⟨fun _=>{A:=A1,n:=(be 4 p.seq).length,c:=c1},rfl,?_⟩
   dsimp only
   refine pn1 mE rE kE ?_;refine pn1 mE rE kE ?_
   refine ak [] _ dM (List.Perm.refl _) (fun hl=>fP hp.ack) ?_
   rintro v h2 ⟨A2,c2,rfl,ho2⟩
   refine⟨fun _=>{A:=A2,n:=(be 4 p.ack).length,c:=c2},rfl,?_⟩
   dsimp only
   refine pn1 mE rE kE ?_
   refine gK (e:=5) #[.int .u8 2,.int .u8 ((lS p.code).toNat:Int),.int .u8 0,.int .u8 0,.int .u8 1,.int .u8 0,.int .u8 0,.int .u8 0] kE fun g6 hg6 hI6=>?_
   dsimp only
   refine gK (e:=85) #[.slice (some ⟨g6,0,none⟩) 8 8,.slice A1 (be 4 p.seq).length c1,.slice A2 (be 4 p.ack).length c2] kE fun g7 hg7 hI7=>?_
   dsimp only
   refine ak [] _ dL (List.Perm.refl _) (fun hl=>nJ (ls:=[[2,lS p.code,0,0,1,0,0,0],be 4 p.seq,be 4 p.ack])
    (cs:=[.slice (some ⟨g6,0,none⟩) 8 8,.slice A1 (be 4 p.seq).length c1,.slice A2 (be 4 p.ack).length c2])
    (RdC.all hl (fun _=>⟨_,rfl,cw mE rfl⟩)) ?_ (by simp[ly]) (by simp)) ?_
   ·have own6:BI (some ⟨g6,0,none⟩) 8 8 [2,lS p.code,0,0,1,0,0,0] [(g6,.cells #[.int .u8 2,.int .u8 ((lS p.code).toNat:Int),.int .u8 0,.int .u8 0,.int .u8 1,.int .u8 0,.int .u8 0,.int .u8 0] 5 (0,0))]:=Own.row (n:=8) rfl
    exact⟨_,_,rfl,⟨_,8,rfl,own6.rdb hl sE⟩,_,_,rfl,⟨_,_,rfl,ho1.rdb hl sE⟩,_,_,rfl,⟨_,_,rfl,ho2.rdb hl sE⟩,rfl⟩
   rintro v h8 ⟨A8,c8,rfl,ho8⟩
   have hf:[[2,lS p.code,0,0,1,0,0,0],be 4 p.seq,be 4 p.ack].flatten=qx p [0,0]:=by
    have hib:(if p.init then(1:UInt8)else 0)=1:=by rw[hini];rfl
    simp[qx,hib]
   rw[hf]at ho8⊢
   refine⟨fun _=>{A:=A8,n:=(qx p [0,0]).length,c:=c8},rfl,?_⟩
   dsimp only
   refine ldL mE rE kE ?_;dsimp only[ag]
   refine aj fun _ hl=>?_
   refine xC (p:=p) hin h40 p.es.length 0 _ _ h8 _ A8 _ c8 (by omega) p1E (qy p rfl) ?_
   simpa using ho8
  ·have hini:p.init=false:=hini
   refine ldI mE rE kE ?_;dsimp only[ag];refine ldI mE rE kE ?_;dsimp only[ag];refine ldI mE rE kE ?_;dsimp only[ag]
   simp only[GC]
   refine ak [] _ dM (List.Perm.refl _) (fun hl=>fP hp.seq) ?_
   rintro v h1 ⟨A1,c1,rfl,ho1⟩
   refine⟨fun _=>{A:=A1,n:=(be 4 p.seq).length,c:=c1},rfl,?_⟩
   dsimp only
   refine pn1 mE rE kE ?_;refine pn1 mE rE kE ?_
   refine ak [] _ dM (List.Perm.refl _) (fun hl=>fP hp.ack) ?_
   rintro v h2 ⟨A2,c2,rfl,ho2⟩
   refine⟨fun _=>{A:=A2,n:=(be 4 p.ack).length,c:=c2},rfl,?_⟩
   dsimp only
   refine pn1 mE rE kE ?_
   refine gK (e:=5) #[.int .u8 2,.int .u8 ((lS p.code).toNat:Int),.int .u8 0,.int .u8 0,.int .u8 0,.int .u8 0,.int .u8 0,.int .u8 0] kE fun g6 hg6 hI6=>?_
   dsimp only
   refine gK (e:=85) #[.slice (some ⟨g6,0,none⟩) 8 8,.slice A1 (be 4 p.seq).length c1,.slice A2 (be 4 p.ack).length c2] kE fun g7 hg7 hI7=>?_
   dsimp only
   refine ak [] _ dL (List.Perm.refl _) (fun hl=>nJ (ls:=[[2,lS p.code,0,0,0,0,0,0],be 4 p.seq,be 4 p.ack])
    (cs:=[.slice (some ⟨g6,0,none⟩) 8 8,.slice A1 (be 4 p.seq).length c1,.slice A2 (be 4 p.ack).length c2])
    (RdC.all hl (fun _=>⟨_,rfl,cw mE rfl⟩)) ?_ (by simp[ly]) (by simp)) ?_
   ·have own6:BI (some ⟨g6,0,none⟩) 8 8 [2,lS p.code,0,0,0,0,0,0] [(g6,.cells #[.int .u8 2,.int .u8 ((lS p.code).toNat:Int),.int .u8 0,.int .u8 0,.int .u8 0,.int .u8 0,.int .u8 0,.int .u8 0] 5 (0,0))]:=Own.row (n:=8) rfl
    exact⟨_,_,rfl,⟨_,8,rfl,own6.rdb hl sE⟩,_,_,rfl,⟨_,_,rfl,ho1.rdb hl sE⟩,_,_,rfl,⟨_,_,rfl,ho2.rdb hl sE⟩,rfl⟩
   rintro v h8 ⟨A8,c8,rfl,ho8⟩
   have hf:[[2,lS p.code,0,0,0,0,0,0],be 4 p.seq,be 4 p.ack].flatten=qx p [0,0]:=by
    have hib:(if p.init then(1:UInt8)else 0)=0:=by rw[hini];rfl
    simp[qx,hib]
   rw[hf]at ho8⊢
   refine⟨fun _=>{A:=A8,n:=(qx p [0,0]).length,c:=c8},rfl,?_⟩
   dsimp only
   refine ldL mE rE kE ?_;dsimp only[ag]
   refine aj fun _ hl=>?_
   refine xC (p:=p) hin h40 p.es.length 0 _ _ h8 _ A8 _ c8 (by omega) p1E (qy p rfl) ?_
   simpa using ho8
def lu:Nat→List UInt8→List (List UInt8)
 |0,_=>[]
 |n+1,l=>l.take 20::lu n (l.drop 20)
theorem KM(es:List mV):lu es.length (es.flatMap gH)=es.map gH:=by
 induction es with
 |nil=>rfl
 |cons e es ih=>
  rw[List.flatMap_cons,List.length_cons,List.map_cons]
  unfold lu
  have h1:=Db e
  rw[show(gH e++es.flatMap gH).take 20=gH e by rw[←h1,List.take_left],show(gH e++es.flatMap gH).drop 20=es.flatMap gH by rw[←h1,List.drop_left],ih]
theorem Ei{l x y:List UInt8}{b:UInt8}{i:Nat}(hl:l=x++(b::y))(hx:x.length=i):eO l i=b:=by
 unfold eO
 rw[hl,List.getElem?_append_right (by omega),hx,Nat.sub_self]
 rfl
theorem KV{e:mV}(h:kG e=true):(0≤e.n∧e.n≤32)∧(0≤e.v.b∧e.v.b≤10000000)∧(0≤e.v.d∧e.v.d≤16777216)∧(0≤e.v.p∧e.v.p≤100):=by
 unfold kG ov at h
 simp only[Bool.and_eq_true,Bool.or_eq_true,decide_eq_true_eq]at h
 obtain⟨⟨h1,h2,_⟩,h3⟩:=h
 refine⟨⟨h1,h2⟩,?_⟩
 rcases h3 with h3|h3
 ·unfold lO at h3
  simp only[Bool.and_eq_true,decide_eq_true_eq]at h3
  omega
 ·unfold St at h3
  simp at h3
  omega
theorem Eb{x:Int}(h:0≤x∧x<4294967296):((jR x:Nat):Int)=x:=by unfold jR;omega
theorem Cs{x:Int}(h:0≤x∧x<256):(((lS x).toNat:Nat):Int)=x:=by unfold lS;rw[pi];omega
theorem NQ{e:mV}(ho:e.ok)(h:kG e=true):fY (gH e)=e:=by
 obtain⟨h1,h2,h3,h4⟩:=KV h
 have ha:=ho.a
 have ht:=ho.tag
 have hb:=BN e.v.b
 have hd:=BN e.v.d
 have n0:num (gH e) 0 4=e.a:=Ef (x:=[]) (y:=[lS e.n,lS e.v.p]++(be 2 e.tag++(be 4 (jR e.v.b)++(be 4 (jR e.v.d)++[0,0,0,0])))) (by simp[gH]) rfl (by omega)
 have b4:eO (gH e) 4=lS e.n:=Ei (x:=be 4 e.a) (y:=lS e.v.p::(be 2 e.tag++(be 4 (jR e.v.b)++(be 4 (jR e.v.d)++[0,0,0,0])))) (by simp[gH]) (ek _ _)
 have b5:eO (gH e) 5=lS e.v.p:=Ei (x:=be 4 e.a++[lS e.n]) (y:=(be 2 e.tag++(be 4 (jR e.v.b)++(be 4 (jR e.v.d)++[0,0,0,0])))) (by simp[gH]) (by simp[ek])
 have n6:num (gH e) 6 2=e.tag:=Ef (x:=be 4 e.a++[lS e.n,lS e.v.p]) (y:=(be 4 (jR e.v.b)++(be 4 (jR e.v.d)++[0,0,0,0]))) (by simp[gH]) (by simp[ek]) (by omega)
 have n8:num (gH e) 8 4=jR e.v.b:=Ef (x:=be 4 e.a++([lS e.n,lS e.v.p]++be 2 e.tag)) (y:=(be 4 (jR e.v.d)++[0,0,0,0])) (by simp[gH]) (by simp[ek]) (by omega)
 have n12:num (gH e) 12 4=jR e.v.d:=Ef (x:=be 4 e.a++([lS e.n,lS e.v.p]++(be 2 e.tag++be 4 (jR e.v.b)))) (y:=[0,0,0,0]) (by simp[gH]) (by simp[ek]) (by omega)
 unfold fY
 rw[n0,b4,b5,n6,n8,n12,Eb (by omega),Eb (by omega),Cs (by omega),Cs (by omega)]
def vm:DPk:=⟨0,false,0,0,[]⟩
def Bs(l:List UInt8):DPk:=⟨(((eO l 1).toNat:Nat):Int),eO l 4==1,num l 8 4,num l 12 4,(lu ((l.length - 16)/20) (l.drop 16)).map fY⟩
def yi(l:List UInt8):Bool:=decide (16≤l.length)&&(decide ((l.length - 16)%20=0)&&eO l 0==2)
def jS(l:List UInt8):DPk×Int:=
 if yi l=false then(vm,2)else if be 2 (GS (zs l))≠(l.drop 2).take 2 then(vm,8)else if l.length>816 then(vm,9)else if ii (Bs l)=(l,0)then(Bs l,0)else(vm,2)
theorem Nx{p:DPk}{y:List UInt8}(hy:y.length=2)(hp:p.ok)(hc:0≤p.code∧p.code<256)(hok: ∀e∈p.es,e.ok)(ha:p.es.all kG=true):Bs (jQ p y)=p:=by
 have hs:=hp.seq
 have hk:=hp.ack
 have hl:=xV p hy
 obtain⟨y0,y1,rfl⟩: ∃a b,y=[a,b]:=by
  match y,hy with
  |[a,b],_=>exact⟨a,b,rfl⟩
 have b1:eO (jQ p [y0,y1]) 1=lS p.code:=rfl
 have b4:eO (jQ p [y0,y1]) 4=if p.init then 1 else 0:=rfl
 have n8:num (jQ p [y0,y1]) 8 4=p.seq:=Ef (x:=[2,lS p.code,y0,y1,if p.init then 1 else 0,0,0,0]) (y:=be 4 p.ack++p.es.flatMap gH) (by simp[jQ,qx]) rfl (by omega)
 have n12:num (jQ p [y0,y1]) 12 4=p.ack:=Ef (x:=[2,lS p.code,y0,y1,if p.init then 1 else 0,0,0,0]++be 4 p.seq) (y:=p.es.flatMap gH) (by simp[jQ,qx]) (by simp[ek]) (by omega)
 have hd:(jQ p [y0,y1]).drop 16=p.es.flatMap gH:=by
  unfold jQ
  rw[←qy p (x:=[y0,y1]) rfl,List.drop_left]
 have hq:((jQ p [y0,y1]).length - 16)/20=p.es.length:=by rw[hl];omega
 have hes:(p.es.map gH).map fY=p.es:=by
  rw[List.map_map]
  conv=>rhs;rw[←List.map_id p.es]
  exact List.map_congr_left fun e he=>NQ (hok e he) (List.all_eq_true.1 ha e he)
 unfold Bs
 rw[b1,b4,n8,n12,hd,hq,KM,hes,Cs hc]
 have hi:((if p.init then(1:UInt8)else 0)==1)=p.init:=by cases p.init<;>rfl
 rw[hi]
theorem HY{p:DPk}(h:(ii p).2=0):ii p=(ww p,0)∧p.es.length≤40∧(0≤p.code∧p.code<256)∧p.es.all kG=true:=by
 unfold ii at h⊢
 split at h
 ·cases h
 rename_i h1
 split at h
 ·cases h
 rename_i h2
 rw[if_neg h1,if_neg h2]
 refine⟨rfl,by omega,?_,?_⟩
 ·by_cases h3:p.code<0
  ·exact absurd (.inl h3) h2
  ·by_cases h4:p.code>3
   ·exact absurd (.inr (.inl h4)) h2
   ·omega
 ·cases hh:p.es.all kG with
  |true=>rfl
  |false=>exact absurd (.inr (.inr (.inr hh))) h2
theorem OO{p:DPk}(h:(ii p).2≠0):(ii p).1=[]:=by
 unfold ii at h⊢
 split
 ·rfl
 ·split
  ·rfl
  ·rename_i h1 h2
   rw[if_neg h1,if_neg h2]at h
   exact absurd rfl h
theorem S4(p:DPk)(y:List UInt8)(hy:y.length=2):zs (jQ p y)=jQ p [0,0]:=by
 match y,hy with
 |[a,b],_=>rfl
theorem MV(p:DPk){y:List UInt8}(hy:y.length=2):yi (jQ p y)=true:=by
 have hl:=xV p hy
 unfold yi
 rw[decide_eq_true (by omega),decide_eq_true (by omega)]
 rfl
theorem Oy{p:DPk}(hp:p.ok)(hok: ∀e∈p.es,e.ok)(h:(ii p).2=0):ii p=(ww p,0)∧p.es.length≤40∧jS (ww p)=(p,0):=by
 obtain⟨h1,h2,h3,h4⟩:=HY h
 refine⟨h1,h2,?_⟩
 have hy:(be 2 (GS (jQ p [0,0]))).length=2:=ek _ _
 have hd:Bs (ww p)=p:=Nx hy hp h3 hok h4
 have hl:=qU p
 unfold jS
 rw[if_neg (by rw[show yi (ww p)=true from MV p hy];simp),if_neg,if_neg (by omega),hd,if_pos h1]
 intro hn
 refine hn ?_
 have hz:zs (ww p)=jQ p [0,0]:=S4 p _ hy
 rw[hz]
 have:(ww p).drop 2=be 2 (GS (jQ p [0,0]))++([if p.init then 1 else 0,0,0,0]++(be 4 p.seq++be 4 p.ack))++p.es.flatMap gH:=by
  simp[ww,jQ,qx]
 rw[this,List.append_assoc]
 exact(List.take_left' hy).symm
theorem u7{l:List UInt8}(h:l.length<16∨(l.length - 16)%20≠0∨eO l 0≠2):jS l=(vm,2):=by
 have hf:yi l=false:=by
  unfold yi
  rcases h with h|h|h
  ·rw[decide_eq_false (p:=16≤l.length) (by omega)];rfl
  ·rw[decide_eq_false (p:=(l.length - 16)%20=0) h,Bool.false_and,Bool.and_false]
  ·rw[show(eO l 0==2)=false by rw[beq_eq_false_iff_ne];exact h,Bool.and_false,Bool.and_false]
 unfold jS
 rw[if_pos hf]
abbrev Ej(A:Option Addr)(c:Nat)(es:List mV)(m:Mem):Prop:=Own 169 6 A es.length c (es.flatMap mV.cs) m∧ ∀e∈es,e.ok
theorem Ej.nil:Ej none 0 [] []:=⟨Own.nil _ _,fun e he=>by simp at he⟩
theorem Gx(J:Ctx): ∀{es:List mV},(∀e∈es,e.ok)→nD (Me J) es (es.flatMap mV.cs)
 |[],_=>rfl
 |e::es,h=>⟨e.cs,es.flatMap mV.cs,rfl,⟨rfl,h e List.mem_cons_self⟩,Gx J fun x hx=>h x (List.mem_cons_of_mem _ hx)⟩
theorem Ej.ents{I:Ctx}{h m:Mem}{A:Option Addr}{c:Nat}{es:List mV}(ho:Ej A c es m)(hl:dJ I h)(hm: ∀x∈m,x∈h):ma (plus I h) A es:=
 ⟨_,(ho.1.rd hm).all hl,Gx _ ho.2⟩
theorem Ej.snoc{A A':Option Addr}{c c':Nat}{es:List mV}{e:mV}{m m':Mem}(ho:Ej A c es m)(he:e.ok)(h:Own 169 6 A' (es.length+1) c' (es.flatMap mV.cs++e.cs) m'):Ej A' c' (es++[e]) m':=by
 refine⟨?_,fun x hx=>?_⟩
 ·rw[List.flatMap_append,List.length_append]
  exact h
 ·rcases List.mem_append.1 hx with hx|hx
  ·exact ho.2 x hx
  ·rw[List.mem_singleton.1 hx];exact he
abbrev NT(r:DPk×Int)(v:Value)(h':Mem):Prop:= ∃A c,v= .tuple #[r.1.vv A c,.int .i64 r.2]∧Ej A c r.1.es h'∧r.1.ok
theorem lp:vm.ok:=⟨by decide,by decide⟩
abbrev z25:Array Value:=#[.int .i64 0,.bool false,.int .u32 0,.int .u32 0,.slice none 0 0]
def Hs(p:DPk)(l:List UInt8):DPk×Int:=if ii p=(l,0)then(p,0)else(vm,2)
abbrev DPk.w(p:DPk)(es:List mV):DPk:={p with es:=es}
theorem M2{I:Ctx}{A0:Option Addr}{n0 c0:Nat}{l:List UInt8}{p:DPk}(hr:RdB I A0 n0 l)(hok:p.ok): ∀(q:Nat) (r5:List UInt8) (es:List mV) (y2 y4:Nat) (A5:Option Addr) (n5 c5:Nat) (A:Option Addr) (c:Nat) (u:Nat→Value) (h m hr':Mem),
  r5.length=q*20→RdB I A5 n5 r5→n5≤c5→es.length+q≤40→Ej A c es m→
  aM h ([(y2,.cells z25 176 (0,0))]++([(y4,.cells ⟨(p.w es).cs A c⟩ 176 (0,0))]++m)) hr'→
  Wp Tryz.prog 330 gW (gT A0 n0 c0 y2 y4 A5 n5 c5 u) I h (cl_ (NT (Hs (p.w (es++(lu q r5).map fY)) l))):=by
 intro q
 induction q with
 |zero=>
  intro r5 es y2 y4 A5 n5 c5 A c u h m hr' hlen hr5 hn5 hb ho hp
  refine pC _ _ _ _ _ _ _ _ _ ?_
  refine aN (cl_.aff _) (g:=(y2,.cells z25 176 (0,0))::(y4,.cells ⟨(p.w es).cs A c⟩ 176 (0,0))::(m++hr')) hp ?_
  have hl5:=hr5.len
  refine b7 (by simp;omega) ?_
  refine la1 mE rE kE ?_;dsimp only[ag]
  refine ak [] _ lg (List.Perm.refl _) (fun hl=>uo (p:=p.w es) (ho.ents hl sE) ⟨hok.seq,hok.ack⟩) ?_
  rintro v h1 ⟨X1,x1,rfl,ho1⟩
  refine⟨ag [{A:=X1,n:=(ii (p.w es)).1.length,c:=x1},{i:=(ii (p.w es)).2}],rfl,?_⟩
  dsimp only[ag]
  rw[show es++(lu 0 r5).map fY=es by simp[lu]]
  refine ay (fun t=>?_) (fun t=>?_)
  ·rw[show Hs (p.w es) l=(vm,2) by unfold Hs;rw[if_neg (fun e=>by rw[e]at t;simp at t)]]
   refine stU uE kE rE vE ?_;refine lv1 mE rE kE ?_;dsimp only[ag]
   exact aC ⟨none,0,rfl,Ej.nil,lp⟩
  have t0:(ii (p.w es)).2=0:=by simpa using t
  have hlen1:(ii (p.w es)).1.length≤1000000:=by
   rw[(HY t0).1];have:=qU (p.w es);dsimp only at this⊢;omega
  refine aA (v:= .bool ((ii (p.w es)).1==l)) (fun _=>{b:=(ii (p.w es)).1==l}) iX (fun hl=>CR (ho1.rdb hl sE) (hr.up (Sub.self.up hl)) hlen1) rfl ?_
  dsimp only
  refine ay (fun t2=>?_) (fun t2=>?_)
  ·rw[show Hs (p.w es) l=(vm,2) by unfold Hs;rw[if_neg (fun e=>by rw[e]at t2;simp at t2)]]
   refine stU uE kE rE vE ?_;refine lv1 mE rE kE ?_;dsimp only[ag]
   exact aC ⟨none,0,rfl,Ej.nil,lp⟩
  rw[show Hs (p.w es) l=(p.w es,0) by
   unfold Hs
   rw[if_pos (Prod.ext (by simpa using t2) t0)]]
  refine la1 mE rE kE ?_;dsimp only[ag];refine stU uE kE rE vE ?_;refine lv1 mE rE kE ?_;dsimp only[ag]
  exact aY (h1:=m) p1E ⟨A,c,rfl,ho,⟨hok.seq,hok.ack⟩⟩
 |succ q ih=>
  intro r5 es y2 y4 A5 n5 c5 A c u h m hr' hlen hr5 hn5 hb ho hp
  refine pC _ _ _ _ _ _ _ _ _ ?_
  refine aN (cl_.aff _) (g:=(y2,.cells z25 176 (0,0))::(y4,.cells ⟨(p.w es).cs A c⟩ 176 (0,0))::(m++hr')) hp ?_
  have hl5:=hr5.len
  refine aX (by simp;omega) ?_
  refine ldL mE rE kE ?_;dsimp only[ag]
  refine uK (e:=5) (sz:=1) 0 20 20 kE kE rfl rfl rfl (by simp) (by omega) (by omega) (by omega) ?_
  dsimp only
  rw[nB,Nat.sub_zero]
  refine aA (v:=(fY (r5.take 20)).vv) (fY (r5.take 20)).ls wn (fun hl2=>GE ((hr5.take (by omega)).up (Sub.self.up hl2)) (by omega)) rfl ?_
  dsimp only[ag,mV.ls]
  refine pn1 mE rE kE ?_
  refine gK (e:=169) ⟨(fY (r5.take 20)).cs⟩ kE fun g10 hg10 hI10=>?_
  dsimp only
  refine bP (cl_.aff _) Ah kE (cs2:=(fY (r5.take 20)).cs) (fun _=>⟨_,rfl,cw mE rfl⟩) (by simp) rfl (by simp) (m:=m) p1E ho.1 (by omega) (by omega) ?_
  intro A' c' m' ho'
  refine stU uE kE rE vE ?_;dsimp only[ag]
  refine uK (e:=5) (sz:=1) 20 n5 c5 kE kE rfl rfl rfl (by simp) (by omega) (by omega) (by omega) ?_
  dsimp only
  refine aj fun _ hl2=>?_
  rw[show es++(lu (q+1) r5).map fY=(es++[fY (r5.take 20)])++(lu q (r5.drop 20)).map fY by simp[lu]]
  refine ih (r5.drop 20) (es++[fY (r5.take 20)]) y2 y4 _ _ _ A' c' _ _ m' _ (by simp;omega) (hr5.rest (by omega) hn5) (by omega) (by simp;omega) (ho.snoc (Dk _) ho') (by dsimp only[DPk.w,DPk.cs];rw[List.length_append];exact p1E)
theorem N7{I:Ctx}{A0:Option Addr}{n0 c0:Nat}{l:List UInt8}{p:DPk}(hr:RdB I A0 n0 l)(hok:p.ok)(q:Nat)(r5:List UInt8)(es:List mV)(y2 y4:Nat)(A5:Option Addr)(n5 c5:Nat)(A:Option Addr)(c:Nat)(u:Nat→Value)(h m hr':Mem)
  (hlen:r5.length=q*20)(hr5:RdB I A5 n5 r5)(hn5:n5≤c5)(hb:es.length+q≤40)(ho:Ej A c es m)
  (hp:aM h ([(y2,.cells z25 176 (0,0))]++([(y4,.cells ⟨(p.w es).cs A c⟩ 176 (0,0))]++m)) hr'):
  Wp Tryz.prog 330 j7 (kg A0 n0 c0 y2 y4 A5 n5 c5 u) I h (cl_ (NT (Hs (p.w (es++(lu q r5).map fY)) l))):=by
 cases q with
 |zero=>
  refine pF _ _ _ _ _ _ _ _ _ ?_
  refine aN (cl_.aff _) (g:=(y2,.cells z25 176 (0,0))::(y4,.cells ⟨(p.w es).cs A c⟩ 176 (0,0))::(m++hr')) hp ?_
  have hl5:=hr5.len
  refine b7 (by simp;omega) ?_
  refine la1 mE rE kE ?_;dsimp only[ag]
  refine ak [] _ lg (List.Perm.refl _) (fun hl=>uo (p:=p.w es) (ho.ents hl sE) ⟨hok.seq,hok.ack⟩) ?_
  rintro v h1 ⟨X1,x1,rfl,ho1⟩
  refine⟨ag [{A:=X1,n:=(ii (p.w es)).1.length,c:=x1},{i:=(ii (p.w es)).2}],rfl,?_⟩
  dsimp only[ag]
  rw[show es++(lu 0 r5).map fY=es by simp[lu]]
  refine ay (fun t=>?_) (fun t=>?_)
  ·rw[show Hs (p.w es) l=(vm,2) by unfold Hs;rw[if_neg (fun e=>by rw[e]at t;simp at t)]]
   refine stU uE kE rE vE ?_;refine lv1 mE rE kE ?_;dsimp only[ag]
   exact aC ⟨none,0,rfl,Ej.nil,lp⟩
  have t0:(ii (p.w es)).2=0:=by simpa using t
  have hlen1:(ii (p.w es)).1.length≤1000000:=by
   rw[(HY t0).1];have:=qU (p.w es);dsimp only at this⊢;omega
  refine aA (v:= .bool ((ii (p.w es)).1==l)) (fun _=>{b:=(ii (p.w es)).1==l}) iX (fun hl=>CR (ho1.rdb hl sE) (hr.up (Sub.self.up hl)) hlen1) rfl ?_
  dsimp only
  refine ay (fun t2=>?_) (fun t2=>?_)
  ·rw[show Hs (p.w es) l=(vm,2) by unfold Hs;rw[if_neg (fun e=>by rw[e]at t2;simp at t2)]]
   refine stU uE kE rE vE ?_;refine lv1 mE rE kE ?_;dsimp only[ag]
   exact aC ⟨none,0,rfl,Ej.nil,lp⟩
  rw[show Hs (p.w es) l=(p.w es,0) by
   unfold Hs
   rw[if_pos (Prod.ext (by simpa using t2) t0)]]
  refine la1 mE rE kE ?_;dsimp only[ag];refine stU uE kE rE vE ?_;refine lv1 mE rE kE ?_;dsimp only[ag]
  exact aY (h1:=m) p1E ⟨A,c,rfl,ho,⟨hok.seq,hok.ack⟩⟩
 |succ q=>
  refine pF _ _ _ _ _ _ _ _ _ ?_
  refine aN (cl_.aff _) (g:=(y2,.cells z25 176 (0,0))::(y4,.cells ⟨(p.w es).cs A c⟩ 176 (0,0))::(m++hr')) hp ?_
  have hl5:=hr5.len
  refine aX (by simp;omega) ?_
  refine ldL mE rE kE ?_;dsimp only[ag]
  refine uK (e:=5) (sz:=1) 0 20 20 kE kE rfl rfl rfl (by simp) (by omega) (by omega) (by omega) ?_
  dsimp only
  rw[nB,Nat.sub_zero]
  refine aA (v:=(fY (r5.take 20)).vv) (fY (r5.take 20)).ls wn (fun hl2=>GE ((hr5.take (by omega)).up (Sub.self.up hl2)) (by omega)) rfl ?_
  dsimp only[ag,mV.ls]
  refine pn1 mE rE kE ?_
  refine gK (e:=169) ⟨(fY (r5.take 20)).cs⟩ kE fun g10 hg10 hI10=>?_
  dsimp only
  refine bP (cl_.aff _) Ah kE (cs2:=(fY (r5.take 20)).cs) (fun _=>⟨_,rfl,cw mE rfl⟩) (by simp) rfl (by simp) (m:=m) p1E ho.1 (by omega) (by omega) ?_
  intro A' c' m' ho'
  refine stU uE kE rE vE ?_;dsimp only[ag]
  refine uK (e:=5) (sz:=1) 20 n5 c5 kE kE rfl rfl rfl (by simp) (by omega) (by omega) (by omega) ?_
  dsimp only
  refine aj fun _ hl2=>?_
  rw[show es++(lu (q+1) r5).map fY=(es++[fY (r5.take 20)])++(lu q (r5.drop 20)).map fY by simp[lu]]
  refine M2 hr hok q (r5.drop 20) (es++[fY (r5.take 20)]) y2 y4 _ _ _ A' c' _ _ m' _ (by simp;omega) (hr5.rest (by omega) hn5) (by omega) (by simp;omega) (ho.snoc (Dk _) ho') (by dsimp only[DPk.w,DPk.cs];rw[List.length_append];exact p1E)
theorem S2{n:Nat}(h:16≤n)(h2:n<4611686018427387904):Int.tmod (IntKind.wrap .i64 ((n:Int) - 16)) 20=(((n - 16)%20:Nat):Int):=by
 rw[cr (by omega),Int.tmod_eq_emod_of_nonneg (by omega)]
 omega
theorem RdB.seg{I:Ctx}{A:Option Addr}{n c:Nat}{l:List UInt8}(h:RdB I A n l){i k:Nat}(hi:i+k≤n)(hc:n≤c):RdB I (HX A i c 1) k ((l.drop i).take k):=by
 have:=h.cut (i:=i) (u:=i+k) (m:=c) (by omega) hi hc
 rwa[show i+k - i=k by omega]at this
theorem Lx{l:List UInt8}(hf:yi l=true)(hs:be 2 (GS (zs l))=(l.drop 2).take 2)(h:l.length≤816):jS l=Hs (Bs l) l:=by
 unfold jS Hs
 rw[if_neg (by rw[hf];simp),if_neg (by rw[hs];simp),if_neg (by omega)]
theorem MO{I:Ctx}{A:Option Addr}{n c:Nat}{l:List UInt8}(hr:RdB I A n l)(hn:n≤c)(hbig:n≤1000000):Fn Tryz.prog 330 #[.slice A n c] I [] (NT (jS l)):=by
 have hln:=hr.len
 refine AX _ _ _ ?_
 refine bt rF fun _ _ _=>?_;dsimp only[ag]
 refine ay (fun t0=>?_) (fun t0=>?_)
 ·rw[u7 (.inl (by simp at t0;omega))]
  refine stU uE kE rE vE ?_;refine lv1 mE rE kE ?_;dsimp only[ag]
  exact aC ⟨none,0,rfl,Ej.nil,lp⟩
 have h16:16≤n:=by simp at t0;omega
 rw[S2 h16 (by omega)]
 refine ay (fun t1=>?_) (fun t1=>?_)
 ·rw[u7 (.inr (.inl (by simp at t1;omega)))]
  refine stU uE kE rE vE ?_;refine lv1 mE rE kE ?_;dsimp only[ag]
  exact aC ⟨none,0,rfl,Ej.nil,lp⟩
 have h20:(n - 16)%20=0:=by simp at t1;omega
 have b0t:=(eO l 0).toNat_lt
 have b1t:=(eO l 1).toNat_lt
 obtain⟨a,rfl,hcell⟩:=hr.cells (by omega)
 refine HP (e:=5) 0 ((hcell 0 _ (uY (by omega))).sub Sub.self) (by omega) rfl kE kE kE ?_
 dsimp only
 refine ay (fun t2=>?_) (fun t2=>?_)
 ·rw[u7 (.inr (.inr (by intro e;rw[e]at t2;simp at t2)))]
  refine stU uE kE rE vE ?_;refine lv1 mE rE kE ?_;dsimp only[ag]
  exact aC ⟨none,0,rfl,Ej.nil,lp⟩
 have hb0:eO l 0=2:=by rw[←UInt8.toNat_inj];show _=2;simp at t2;omega
 have hf:yi l=true:=by
  unfold yi
  rw[decide_eq_true (by omega),decide_eq_true (by omega),hb0]
  rfl
 refine uK (e:=5) (sz:=1) 2 4 c kE kE rfl rfl rfl (by simp) (by omega) (by omega) (by omega) ?_
 dsimp only
 refine ak [] _ wj (List.Perm.refl _) (fun hl2=>GU (hr.up (Sub.self.up hl2)) (by omega) hbig) ?_
 rintro v h5 ⟨A5,c5,rfl,ho5⟩
 refine⟨fun _=>{A:=A5,n:=(be 2 (GS (zs l))).length,c:=c5},rfl,?_⟩
 dsimp only
 refine DN (iq (MT (e:=5) (sz:=1) (l:=2) (u:=4) (m:=c) kE kE rfl rfl rfl (by simp) (by omega) (by omega) (by omega) rfl)) ?_
 refine aA (v:= .bool (be 2 (GS (zs l))==(l.drop 2).take 2)) (fun _=>{b:=be 2 (GS (zs l))==(l.drop 2).take 2}) iX (fun hl=>CR (ho5.rdb hl sE) ((hr.seg (i:=2) (k:=2) (by omega) hn).up (Sub.self.up hl)) (by rw[ek];omega)) rfl ?_
 dsimp only
 refine ay (fun t3=>?_) (fun t3=>?_)
 ·rw[show jS l=(vm,8) by
   unfold jS
   rw[if_neg (by rw[hf];simp),if_pos (by simpa using t3)]]
  refine stU uE kE rE vE ?_;refine lv1 mE rE kE ?_;dsimp only[ag]
  exact aC ⟨none,0,rfl,Ej.nil,lp⟩
 have hs:be 2 (GS (zs l))=(l.drop 2).take 2:=by simpa using t3
 refine ay (fun t4=>?_) (fun t4=>?_)
 ·rw[show jS l=(vm,9) by
   unfold jS
   rw[if_neg (by rw[hf];simp),if_neg (by rw[hs];simp),if_pos (by simp at t4;omega)]]
  refine stU uE kE rE vE ?_;refine lv1 mE rE kE ?_;dsimp only[ag]
  exact aC ⟨none,0,rfl,Ej.nil,lp⟩
 have h816:l.length≤816:=by simp at t4;omega
 rw[Lx hf hs h816]
 refine HP (e:=5) 1 ((hcell 1 _ (uY (by omega))).sub Sub.self) (by omega) rfl kE kE kE ?_
 refine HP (e:=5) 4 ((hcell 4 _ (uY (by omega))).sub Sub.self) (by omega) rfl kE kE kE ?_
 dsimp only
 have hb4:((((eO l 4).toNat:Nat):Int)==1)=(eO l 4==1):=by
  rw[Bool.eq_iff_iff];simp only[beq_iff_eq];rw[←UInt8.toNat_inj];show _↔_=1;omega
 rw[cr (x:=(((eO l 1).toNat:Nat):Int)) (by omega),hb4]
 refine bt rF fun _ _ _=>?_;dsimp only[ag];refine stU uE kE rE vE ?_
 refine aA (ag [{i:=(num l 8 4:Nat)},{b:=true}]) lB (fun hl=>xI (i:=8) (hr.up (Sub.self.up hl)) hn (by unfold maxLen;omega) (by omega) (by omega)) rfl ?_
 dsimp only[ag]
 refine stU uE kE rE vE ?_
 refine aA (ag [{i:=(num l 12 4:Nat)},{b:=true}]) lB (fun hl=>xI (i:=12) (hr.up (Sub.self.up hl)) hn (by unfold maxLen;omega) (by omega) (by omega)) rfl ?_
 dsimp only[ag]
 refine stU uE kE rE vE ?_
 refine uK (e:=5) (sz:=1) 16 n c kE kE rfl rfl rfl (by simp) (by omega) (by omega) (by omega) ?_
 dsimp only
 refine aj fun _ hl2=>?_
 have hok:(Bs l).ok:=⟨Ad l 8 4,Ad l 12 4⟩
 have hnil:((Bs l).w ([]++(lu ((l.length - 16)/20) (l.drop 16)).map fY))=Bs l:=rfl
 rw[←hnil]
 refine N7 (p:=Bs l) hr hok ((l.length - 16)/20) (l.drop 16) [] _ _ _ _ _ none 0 _ _ [] _ (by simp;omega) (hr.rest (by omega) hn) (by omega) (by simp;omega) Ej.nil p1E
theorem IA{I:Ctx}{A:Option Addr}{n c:Nat}{l:List UInt8}(hr:RdB I A n l)(hb:n≤140737488355328):
  Fn Tryz.prog 87 #[.slice A n c] I [] (fun v h'=> ∃A' c',v= .slice A' n c'∧BI A' n c' l h'):=by
 obtain⟨hl,hA,hr⟩:=hr
 refine nP _ _ _ ?_
 refine k8 (fun _=>{b:=A.isNone}) (yv (.inl rfl) kE rfl) ?_
 refine ay (fun hb'=>?_) (fun hb'=>?_)
 ·have hA0:A=none:=by simpa using hb'
  subst hA0
  have hn:=hA rfl
  subst hn
  have hl0:l=[]:=List.eq_nil_of_length_eq_zero hl
  subst hl0
  exact aC ⟨none,0,rfl,Own.nil _ _⟩
 ·refine gK (e:=5) #[] kE fun g hg hI=>?_
  refine bP (cl_.aff _) pD kE (hr.sub Sub.self) hA (by simp[hl]) (bC_plain l) (m:=[(g,.cells #[] 5 (0,0))]) (hr:=[]) (List.Perm.refl _) (Own.row (n:=0) rfl) (by omega) (by omega) ?_
  intro A' c' m' ho
  refine aY (h1:=m') (g:=[]) (by simp) ⟨A',c',?_,?_⟩
  ·simp
  ·simpa using ho
theorem B3{I:Ctx}{a b d:Int}{A:Option Addr}{n c:Nat}{l:List UInt8}(hr:RdB I A n l)(hb:n≤140737488355328):
  Fn Tryz.prog 63 #[.agg #[.int .i64 a,.int .i64 b,.int .i64 d,.slice A n c]] I [] (fun v h'=> ∃A' c',v= .agg #[.int .i64 a,.int .i64 b,.int .i64 d,.slice A' n c']∧BI A' n c' l h'):=by
 refine GO _ _ _ _ _ _ ?_
 refine aP fun g1 hg1 hI1=>?_
 refine bt dK fun g2 hg2 hI2=>?_
 refine dS kE (by first|exact aR (j:=0) rfl rfl|exact aR (j:=1) rfl rfl|exact aR (j:=2) rfl rfl|exact aR (j:=3) rfl rfl|exact aR (j:=4) rfl rfl) ?_
 refine ak [] _ mC (List.Perm.refl _) (fun hl=>IA (hr.up (Sub.self.up hl)) hb) ?_
 rintro v h1 ⟨A',c',rfl,ho⟩
 refine⟨fun _=>{A:=A',n:=n,c:=c'},rfl,?_⟩
 dsimp only
 refine aN (cl_.aff _) (List.perm_append_comm) ?_
 refine iW 1 rfl kE (Nat.le_of_ble_eq_true rfl) (by simp[Value.cells]) ?_
 refine bL (cs:=[.int .i64 a,.int .i64 b,.int .i64 d,.slice A' n c']) (ag [{i:=a},{i:=b},{i:=d},{A:=A',n:=n,c:=c'}]) kE kE (gZ (j:=1) rfl rfl) rfl ?_
 dsimp only[ag]
 refine iW 0 rfl kE (Nat.le_of_ble_eq_true rfl) (by simp[Value.cells]) ?_
 refine u6 (cs:=[.int .i64 a,.int .i64 b,.int .i64 d,.slice A' n c']) (ag [{i:=a},{i:=b},{i:=d},{A:=A',n:=n,c:=c'}]) kE kE (gZ (j:=0) rfl rfl) rfl ?_
 dsimp only[ag]
 exact d9 [_,_] rfl ⟨A',c',rfl,ho⟩
structure Pk where
 d:Int
 f:Int
 t:Int
 B:List UInt8
def Pk.v(p:Pk)(A:Option Addr)(n c:Nat):Value:= .agg #[.int .i64 p.d,.int .i64 p.f,.int .i64 p.t,.slice A n c]
def pkC(J:Ctx)(p:Pk)(cs:List Value):Prop:= ∃A n c,cs=[.int .i64 p.d,.int .i64 p.f,.int .i64 p.t,.slice A n c]∧RdB J A n p.B
def nZ(J:Ctx):List Pk→List Value→Prop
 |[],cs=>cs=[]
 |p::l,cs=> ∃c r,cs=c++r∧pkC J p c∧nZ J l r
theorem pkC.up{J J':Ctx}{p:Pk}{cs:List Value}(h:pkC J p cs)(hs: ∀b o,J b=some o→J' b=some o):pkC J' p cs:=by
 obtain⟨A,n,c,rfl,hr⟩:=h
 exact⟨A,n,c,rfl,hr.up hs⟩
theorem nZ.up{J J':Ctx}: ∀{l:List Pk} {cs:List Value},nZ J l cs→(∀b o,J b=some o→J' b=some o)→nZ J' l cs
 |[],_,h,_=>h
 |p::l,_,⟨c,r,e,h1,h2⟩,hs=>⟨c,r,e,h1.up hs,nZ.up h2 hs⟩
theorem pkC.len{J:Ctx}{p:Pk}{cs:List Value}(h:pkC J p cs):cs.length=4:=by
 obtain⟨A,n,c,rfl,hr⟩:=h
 rfl
theorem nZ.len{J:Ctx}: ∀{l:List Pk} {cs:List Value},nZ J l cs→cs.length=l.length*4
 |[],_,h=>by rw[show _=[]from h];rfl
 |p::l,_,⟨c,r,e,h1,h2⟩=>by rw[e,List.length_append,h1.len,nZ.len h2];simp;omega
theorem nZ.append{J:Ctx}: ∀{l l':List Pk} {cs cs':List Value},nZ J l cs→nZ J l' cs'→nZ J (l++l') (cs++cs')
 |[],l',cs,cs',h,h'=>by rw[show cs=[]from h];exact h'
 |p::l,l',_,cs',⟨c,r,e,h1,h2⟩,h'=>⟨c,r++cs',by rw[e,List.append_assoc],h1,h2.append h'⟩
abbrev noC:Ctx:=fun _=>none
theorem p9{hb:Mem}{b:Nat}{o:Obj}(h:plus noC hb b=some o):(b,o)∈hb:=by
 have:=Oa (I:=noC) (g:=hb) (h:=hb) (fun x hx=>hx) b o h
 rcases this with h|h
 ·exact h
 ·cases h
theorem dJ.no{I:Ctx}{h:Mem}(hl:dJ I h):dJ noC h:=let⟨w0,K0,w,hi⟩:=hl;⟨w0,K0,w,hi.own,hi.nd,fun b o hb=>(by cases hb),hi.key,hi.frame,hi.size,hi.os,hi.tape,hi.output,hi.dr⟩
def iN(ty:TypeId)(g:Nat)(L:List Pk)(h:Mem):Prop:=
 ∃A c cs m hb,h.Perm ((g,.cells #[.slice A L.length c] ty (0,0))::(m++hb))∧Own 87 4 A L.length c cs m∧nZ (plus noC hb) L cs∧ ∀p∈L,p.B.length≤100000000000
theorem Aff.perm{Q:Value→Mem→Prop}(hQ:Aff Q){v:Value}{h g:Mem}(p:h.Perm g)(hq:Q v g):Q v h:=hQ v h g [] (by simpa using p) hq
theorem Ew{I:Ctx}{g:Nat}{L:List Pk}{h:Mem}{p:Pk}{A:Option Addr}{n c:Nat}(hrep:iN 76 g L h)(hr:RdB I A n p.B)(hpb:p.B.length≤100000000000)(hbd:L.length≤100000000000):
  Fn Tryz.prog 42 #[.pointer (some ⟨g,0,none⟩),p.v A n c] I h (fun v h'=>v=undef∧iN 76 g (L++[p]) h'):=by
 obtain⟨A0,c0,cs,m,hb,hp,ho,hpk,hall⟩:=hrep
 have hnp:=hr.len
 refine Fn.perm ?_ hp
 refine Dc _ _ _ _ _ _ _ ?_
 refine aP fun g1 hg1 hI1=>?_
 refine dS kE (by first|exact aR (j:=0) rfl rfl|exact aR (j:=1) rfl rfl|exact aR (j:=2) rfl rfl|exact aR (j:=3) rfl rfl|exact aR (j:=4) rfl rfl) ?_
 refine bL (cs:=[.int .i64 p.d,.int .i64 p.f,.int .i64 p.t,.slice A n c]) (ag [{i:=p.d},{i:=p.f},{i:=p.t},{A:=A,n:=n,c:=c}]) kE kE (gZ (j:=0) rfl rfl) rfl ?_
 dsimp only[ag]
 refine ak [] _ xq (List.Perm.refl _) (fun hl=>B3 (hr.up (Sub.self.up hl)) (by omega)) ?_
 rintro v h1 ⟨A',c',rfl,ho'⟩
 refine⟨ag [{i:=p.d},{i:=p.f},{i:=p.t},{A:=A',n:=n,c:=c'}],rfl,?_⟩
 dsimp only[ag]
 refine aN (cl_.aff _) (List.perm_append_comm) ?_
 refine DN (iq (ia kE (by first|exact aR (j:=0) rfl rfl|exact aR (j:=1) rfl rfl|exact aR (j:=2) rfl rfl|exact aR (j:=3) rfl rfl|exact aR (j:=4) rfl rfl) rfl)) ?_
 refine gK (e:=87) #[.int .i64 p.d,.int .i64 p.f,.int .i64 p.t,.slice A' n c'] kE fun g2 hg2 hI2=>?_
 refine bP (cl_.aff _) qI kE (fun _=>⟨_,rfl,gZ (j:=0) (cs:=[.int .i64 p.d,.int .i64 p.f,.int .i64 p.t,.slice A' n c']) rfl rfl⟩) (fun h=>by cases h) rfl (by simp) (m:=m)
  (hr:=(g,.cells #[.slice A0 L.length c0] 76 (0,0))::(g2,.cells #[.int .i64 p.d,.int .i64 p.f,.int .i64 p.t,.slice A' n c'] 87 (0,0))::(g1,.cells #[.int .i64 p.d,.int .i64 p.f,.int .i64 p.t,.slice A n c] 87 (0,0))::(hb++h1)) ?_ ho (by omega) (by omega) ?_
 ·exact cE
 intro A2 c2 m2 ho2
 refine aN (cl_.aff _) (List.perm_append_comm) ?_
 refine iW 0 rfl kE (Nat.le_of_ble_eq_true rfl) (by simp[Value.cells]) ?_
 refine zS fun hl=>?_
 refine aY (h1:=(g,.cells #[.slice A2 (L.length+1) c2] 76 (0,0))::(m2++(hb++h1))) (g:=[(g2,.cells #[.int .i64 p.d,.int .i64 p.f,.int .i64 p.t,.slice A' n c'] 87 (0,0)),(g1,.cells #[.int .i64 p.d,.int .i64 p.f,.int .i64 p.t,.slice A n c] 87 (0,0))]) ?_
  ⟨rfl,A2,c2,cs++[.int .i64 p.d,.int .i64 p.f,.int .i64 p.t,.slice A' n c'],m2,hb++h1,?_,?_,?_,?_⟩
 ·show List.Perm ((g,.cells #[.slice A2 (L.length+1) c2] 76 (0,0))::(_::_::(hb++h1)++m2)) _
  exact cE
 ·rw[List.length_append];exact List.Perm.refl _
 ·rw[List.length_append];exact ho2
 ·have hl2:dJ noC ((hb++h1)):=by
   have h2:dJ I ((g,.cells #[.slice A2 (L.length+1) c2] 76 (0,0))::(_::_::(hb++h1)++m2)):=hl
   have h3:=h2.tail.tail.tail
   exact h3.left.no
  refine nZ.append (hpk.up fun b o hb'=>?_) ⟨_,[],by simp,⟨A',n,c',rfl,?_⟩,rfl⟩
  ·exact aF hl2 (.inl (List.mem_append_left _ (p9 hb')))
  ·exact ho'.rdb hl2 (fun x hx=>List.mem_append_right _ hx)
 ·intro q hq
  rcases List.mem_append.1 hq with hq|hq
  ·exact hall q hq
  ·rw[List.mem_singleton]at hq;rw[hq];exact hpb
theorem nZ.get{J:Ctx}: ∀{l:List Pk} {cs:List Value} {i:Nat} {p:Pk},nZ J l cs→l[i]? =some p→ ∃c,pkC J p c∧ ∀q v,c[q]? =some v→cs[i*4+q]? =some v
 |[],_,i,p,_,hp=>by simp at hp
 |x::l,_,0,p,⟨c,r,e,h1,h2⟩,hp=>by
  simp at hp
  subst hp
  refine⟨c,h1,fun q v hq=>?_⟩
  rw[e,Nat.zero_mul,Nat.zero_add,List.getElem?_append_left (List.getElem?_eq_some_iff.1 hq).1]
  exact hq
 |x::l,_,i+1,p,⟨c,r,e,h1,h2⟩,hp=>by
  obtain⟨c',h3,h4⟩:=nZ.get h2 (by simpa using hp)
  refine⟨c',h3,fun q v hq=>?_⟩
  rw[e,List.getElem?_append_right (by rw[h1.len];omega),h1.len,show(i+1)*4+q - 4=i*4+q by omega]
  exact h4 q v hq
def Q5(ty:TypeId)(J:Ctx)(g:Nat)(L:List Pk):Prop:=
 ∃A c cs fz,J g=some (.cells #[.slice A L.length c] ty fz)∧RdC J [] A cs∧nZ J L cs∧(A=none→L.length=0)∧ ∀p∈L,p.B.length≤100000000000
theorem iN.read{ty:TypeId}{I:Ctx}{g:Nat}{L:List Pk}{h h':Mem}(hr:iN ty g L h)(hl:dJ I h')(hs: ∀x∈h,x∈h'):Q5 ty (plus I h') g L:=by
 obtain⟨A,c,cs,m,hb,hp,ho,hk,hall⟩:=hr
 have hm: ∀x,x∈(g,Obj.cells #[.slice A L.length c] ty (0,0))::(m++hb)→x∈h':=fun x hx=>hs x (hp.mem_iff.2 hx)
 refine⟨A,c,cs,(0,0),aF hl (.inl (hm _ List.mem_cons_self)),(ho.rd fun x hx=>hm x (List.mem_cons_of_mem _ (List.mem_append_left _ hx))).all hl,hk.up fun b o hb'=>?_,ho.some_of,hall⟩
 exact aF hl (.inl (hm _ (List.mem_cons_of_mem _ (List.mem_append_right _ (p9 hb')))))
theorem uB{I:Ctx}{h:Mem}{g o:Nat}{cs:Array Value}{t:TypeId}{fz:Nat×Nat}{v:Value}(hJ:I g=some (.cells cs t fz))(hv:cs[o]? =some v):bh I h ⟨g,o,none⟩ v:=⟨rfl,cs,t,fz,.inr hJ,hv⟩
theorem GR{J:Ctx}{g:Nat}{L:List Pk}(hb:Q5 76 J g L):Fn Tryz.prog 33 #[.pointer (some ⟨g,0,none⟩)] J [] (fun v h'=>v= .int .i64 (L.length:Int)∧h'=[]):=by
 obtain⟨A,c,cs,fz,hg,hrd,hpk,hA,hall⟩:=hb
 refine DE _ ?_
 refine dS kE (uB hg rfl) ?_
 exact aC ⟨rfl,rfl⟩
def Tj:Pk:=⟨0,0,0,[]⟩
def AtQ(L:List Pk)(i:Int)(v:Value)(m:Mem):Prop:=
 if 0≤i∧i<(L.length:Int)then∃p A c,L[i.toNat]? =some p∧v= .tuple #[p.v A p.B.length c,.bool true]∧BI A p.B.length c p.B m∧p.B.length≤100000000000 else v= .tuple #[Tj.v none 0 0,.bool false]∧m=[]
theorem JQ{J:Ctx}{g:Nat}{L:List Pk}{i:Int}(hb:Q5 76 J g L):Fn Tryz.prog 66 #[.pointer (some ⟨g,0,none⟩),.int .i64 i] J [] (AtQ L i):=by
 obtain⟨A,c,cs,fz,hg,hrd,hpk,hA,hall⟩:=hb
 refine Fw _ _ ?_
 refine bt dK fun g1 hg1 hI1=>?_
 refine ay (fun h0=>?_) (fun h0=>?_)
 ·have h0:i<0:=by simpa using h0
  refine iW 0 rfl kE (Nat.le_of_ble_eq_true rfl) (by simp[Value.cells]) ?_
  refine u6 (cs:=[.int .i64 0,.int .i64 0,.int .i64 0,.slice none 0 0]) (ag [{i:=0},{i:=0},{i:=0},{A:=none,n:=0,c:=0}]) (by kernel_rfl) (by kernel_rfl) (gZ (j:=0) rfl rfl) rfl ?_;dsimp only[ag]
  exact aC (by unfold AtQ;rw[if_neg (by omega)];exact⟨rfl,rfl⟩)
 ·have h0: ¬i<0:=by simpa using h0
  refine dS kE (uB hg rfl) ?_
  refine ay (fun h1=>?_) (fun h1=>?_)
  ·have h1:i≥(L.length:Int):=by simpa using h1
   refine iW 0 rfl kE (Nat.le_of_ble_eq_true rfl) (by simp[Value.cells]) ?_
   refine u6 (cs:=[.int .i64 0,.int .i64 0,.int .i64 0,.slice none 0 0]) (ag [{i:=0},{i:=0},{i:=0},{A:=none,n:=0,c:=0}]) (by kernel_rfl) (by kernel_rfl) (gZ (j:=0) rfl rfl) rfl ?_;dsimp only[ag]
   exact aC (by unfold AtQ;rw[if_neg (by omega)];exact⟨rfl,rfl⟩)
  ·have h1: ¬i≥(L.length:Int):=by simpa using h1
   have hlt:i.toNat<L.length:=by omega
   obtain⟨p,hp⟩: ∃p,L[i.toNat]? =some p:=⟨_,List.getElem?_eq_getElem hlt⟩
   obtain⟨c4,⟨A',n',c',rfl,hB⟩,hc4⟩:=hpk.get hp
   have hne:cs≠[]:=by
    intro he
    have:=hc4 0 _ rfl
    rw[he]at this
    simp at this
   obtain⟨a,rfl,hcells⟩:=hrd hne
   refine dS kE (uB hg rfl) ?_
   dsimp only
   refine aI a rfl (sz:=4) kE (by omega) (by omega) rfl ?_
   dsimp only
   refine bL (cs:=[.int .i64 p.d,.int .i64 p.f,.int .i64 p.t,.slice A' n' c']) (ag [{i:=p.d},{i:=p.f},{i:=p.t},{A:=A',n:=n',c:=c'}]) (by kernel_rfl) (by kernel_rfl) (fun q v hq=>by rw[add_add];exact((hcells _ v (hc4 q v hq)).sub Sub.self)) rfl ?_;dsimp only[ag]
   refine ak [] _ xq (List.Perm.refl _) (fun hl=>B3 (hB.up (Sub.self.up hl)) (by have:=hB.len;have:=hall p (List.mem_of_getElem? hp);omega)) ?_
   rintro v h1' ⟨A2,c2,rfl,ho⟩
   refine⟨ag [{i:=p.d},{i:=p.f},{i:=p.t},{A:=A2,n:=n',c:=c2}],rfl,?_⟩
   dsimp only[ag]
   refine aN (cl_.aff _) (List.perm_append_comm) ?_
   refine iW 0 rfl kE (Nat.le_of_ble_eq_true rfl) (by simp[Value.cells]) ?_
   refine u6 (cs:=[.int .i64 p.d,.int .i64 p.f,.int .i64 p.t,.slice A2 n' c2]) (ag [{i:=p.d},{i:=p.f},{i:=p.t},{A:=A2,n:=n',c:=c2}]) (by kernel_rfl) (by kernel_rfl) (gZ (j:=0) rfl rfl) rfl ?_;dsimp only[ag]
   have hn:n'=p.B.length:=hB.len.symm
   subst hn
   exact d9 [_] rfl (by unfold AtQ;rw[if_pos (by omega)];exact⟨p,A2,c2,hp,rfl,ho,hall p (List.mem_of_getElem? hp)⟩)
theorem pkC.plain{J:Ctx}{p:Pk}{cs:List Value}(h:pkC J p cs): ∀v∈cs,(∀x,v≠ .agg x)∧ ∀x,v≠ .tuple x:=by
 obtain⟨A,n,c,rfl,hr⟩:=h
 simp
theorem nZ.plain{J:Ctx}: ∀{l:List Pk} {cs:List Value},nZ J l cs→ ∀v∈cs,(∀x,v≠ .agg x)∧ ∀x,v≠ .tuple x
 |[],cs,h=>by rw[show cs=[]from h];simp
 |p::l,cs,⟨c,r,e,h1,h2⟩=>by
  rw[e]
  intro v hv
  rcases List.mem_append.1 hv with hv|hv
  ·exact h1.plain v hv
  ·exact nZ.plain h2 v hv
theorem nZ.take{J:Ctx}: ∀{l:List Pk} {cs:List Value} (i:Nat),nZ J l cs→nZ J (l.take i) (cs.take (i*4))
 |l,cs,0,h=>by simp[nZ]
 |[],cs,i+1,h=>by rw[show cs=[]from h];simp[nZ]
 |p::l,cs,i+1,⟨c,r,e,h1,h2⟩=>by
  have hc:=h1.len
  refine⟨c,r.take (i*4),?_,h1,nZ.take i h2⟩
  rw[e,List.take_append,List.take_of_length_le (by omega),hc,show(i+1)*4 - 4=i*4 by omega]
theorem nZ.drop{J:Ctx}: ∀{l:List Pk} {cs:List Value} (i:Nat),nZ J l cs→nZ J (l.drop i) (cs.drop (i*4))
 |l,cs,0,h=>by simpa using h
 |[],cs,i+1,h=>by rw[show cs=[]from h];simp[nZ]
 |p::l,cs,i+1,⟨c,r,e,h1,h2⟩=>by
  have hc:=h1.len
  have:=nZ.drop i h2
  rw[e,List.drop_append,List.drop_of_length_le (l:=c) (by omega),hc,show(i+1)*4 - 4=i*4 by omega]
  simpa using this
theorem F7{I:Ctx}{A:Option Addr}{n c:Nat}{cs:List Value}{m:Mem}(ho:Own 87 4 A n c cs m){i:Nat}(hi:i<n)(hpl: ∀v∈cs,(∀x,v≠ .agg x)∧ ∀x,v≠ .tuple x)(hbd:n≤100000000000):
  Fn Tryz.prog 67 #[.slice A n c,.int .i64 i,.int .i64 ((i+1:Nat):Int)] I m (fun v h'=>v= .slice A (n - 1) c∧Own 87 4 A (n - 1) c (cs.take (i*4)++cs.drop ((i+1)*4)) h'):=by
 have hcn:=ho.2.1
 have hlen:=ho.1
 obtain⟨a,rfl⟩: ∃a,A=some a:=by
  cases A with
  |none=>have:=ho.some_of rfl;omega
  |some a=>exact⟨a,rfl⟩
 refine tj _ _ _ _ _ ?_
 refine uK (e:=87) (sz:=4) i (i+1) n kE kE rfl rfl rfl (by simp) (by omega) (by omega) (by omega) ?_
 refine b7 (by simp;omega) ?_
 refine uK (e:=87) (sz:=4) 0 i c kE kE rfl rfl rfl (by simp) (by omega) (by omega) (by omega) ?_
 refine uK (e:=87) (sz:=4) (i+1) n c kE kE rfl rfl rfl (by simp) (by omega) (by omega) (by omega) ?_
 simp only[nB,Nat.sub_zero]
 refine Lh (cl_.aff _) qI kE ((ho.rd (fun x hx=>hx)).cut (l:=i+1) (u:=n) (m:=c) (sz:=4) hcn) (fun h=>QO h) (by simp;omega) ?_ (m:=m) (hr:=[]) (by simp) (ho.cut (i:=i) (by omega)) (by omega) (by omega) (by omega) ?_
 ·intro v hv
  exact hpl v (List.mem_of_mem_drop (List.mem_of_mem_take hv))
 intro m' ho'
 rw[show i+(n - (i+1))=n - 1 by omega]at ho'⊢
 rw[List.take_of_length_le (l:=cs.drop ((i+1)*4)) (by simp;omega)]at ho'
 dsimp only
 refine uK (e:=87) (sz:=4) (n - 1) n c kE kE rfl rfl rfl (by simp) (by omega) (by omega) (by omega) ?_
 obtain⟨cs',hcs',ho2⟩:=ho'.ext (i:=n) (by omega) (by omega)
 have hl2:=ho2.1
 dsimp only
 refine NU qI (o:=(n - 1)*4) (cl_.aff _) (m:=m') (hr:=[]) (List.Perm.refl _) ho2 (.inr ⟨a,rfl,B0 (by omega)⟩) (by omega) (by simp[Value.cells]) ?_
 intro m2 ho3
 have ho4:=ho3.cut (i:=n - 1) (by omega)
 rw[JO (by omega),hcs']at ho4
 exact aY (h1:=m2) (g:=[]) (by simp) ⟨rfl,ho4⟩
end Go.Proofs.YtadanegddceleaaGreatS
