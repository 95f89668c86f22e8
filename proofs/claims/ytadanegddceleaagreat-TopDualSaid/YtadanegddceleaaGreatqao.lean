import Derived.Laws.FloatArith
import Derived.Laws.ComplexArith
import Derived.Laws.Cover2
import Derived.Laws.Cover3
import Derived.Test.YtadanegddceleaaGreatqae
import Derived.Test.YtadanegddceleaaGreatqam
import Derived.Test.YtadanegddceleaaGreatqan
set_option linter.unusedSimpArgs false
set_option linter.unusedVariables false
set_option maxRecDepth 20000
namespace Go.Proofs.YtadanegddceleaaGreatS
def Dz(n:Nat):Nat:=4294967296 - 2^(32 - n)
def D8(n:Int):Nat:=Dz (min n.toNat 32)
theorem On: ∀y:Fin 33,(4294967295*2^y.1)%4294967296=4294967296 - 2^y.1:=by decide
theorem OV(n:Nat):Dz n<4294967296:=by
 unfold Dz
 have:0<2^(32 - n):=Nat.pow_pos (by decide)
 omega
theorem MG{I:Ctx}{n:Int}(hn: -9223372036854775808≤n∧n≤9223372036854775807):Fn Tryz.prog 109 #[.int .i64 n] I [] (fun v h'=>v= .int .u32 (D8 n:Nat)∧h'=[]):=by
 refine ES _ ?_
 obtain⟨y,hy,hy32⟩: ∃y:Nat,IntKind.wrap .i64 (32 - (if(if(32:Int)<n then 32 else n:Int)>0 then if(32:Int)<n then 32 else n else 0))=(y:Int)∧y=32 - min n.toNat 32:=by
  refine⟨32 - min n.toNat 32,?_,rfl⟩
  by_cases h1:(32:Int)<n
  ·simp only[if_pos h1]
   rw[if_pos (by omega),cr (by omega)]
   omega
  ·simp only[if_neg h1]
   by_cases h2:n>0
   ·rw[if_pos h2,cr (by omega)]
    omega
   ·rw[if_neg h2,cr (by omega)]
    omega
 rw[hy]
 refine QV (by omega) ?_
 refine aC ⟨?_,rfl⟩
 dsimp only
 rw[Int.toNat_natCast,show min y IntKind.u32.bits=y from Nat.min_eq_left (by show y≤32;omega)]
 have h3:(4294967295*2^y)%4294967296=4294967296 - 2^y:=On ⟨y,by omega⟩
 have h4:IntKind.u32.wrap (4294967295*2^y)=((D8 n:Nat):Int):=by
  rw[EI,show((4294967295:Int)*2^y)=((4294967295*2^y:Nat):Int) by simp]
  rw[show(4294967296:Int)=((4294967296:Nat):Int)from rfl,←Int.natCast_emod,h3]
  unfold D8 Dz
  rw[hy32]
 rw[h4]
theorem NK{a n:Nat}(ha:a<4294967296)(hn:n≤32):oh .andNot .u32 (a:Int) (Dz n:Nat)=((a%2^(32 - n):Nat):Int):=by
 show IntKind.u32.wrap ((BitVec.ofInt 32 (a:Int)&&& ~~~ BitVec.ofInt 32 ((Dz n:Nat):Int)).toNat:Int)=_
 have hm:=OV n
 have h1:2^32 - 1 - Dz n=2^(32 - n) - 1:=by
  have h1:0<2^(32 - n):=Nat.pow_pos (by decide)
  have h2:2^(32 - n)≤2^32:=Nat.pow_le_pow_right (by decide) (by omega)
  unfold Dz
  omega
 rw[BitVec.ofInt_natCast,BitVec.ofInt_natCast,BitVec.toNat_and,BitVec.toNat_not,BitVec.toNat_ofNat,BitVec.toNat_ofNat,Nat.mod_eq_of_lt (by omega),Nat.mod_eq_of_lt (a:=Dz n) (by omega),h1,Nat.and_two_pow_sub_one_eq_mod]
 exact wA (Nat.lt_of_le_of_lt (Nat.mod_le ..) ha)
def ov(a:Nat)(n:Int):Bool:=decide (0≤n)&&(decide (n≤32)&&decide (a%2^(32 - n.toNat)=0))
theorem IY{I:Ctx}{a:Nat}{n:Int}(ha:a<4294967296)(hn: -9223372036854775808≤n∧n≤9223372036854775807):
  Fn Tryz.prog 91 #[.agg #[.int .u32 (a:Int),.int .i64 n]] I [] (fun v h'=>v= .bool (ov a n)∧h'=[]):=by
 refine Hd _ _ ?_
 refine aP fun g hg hI=>?_
 refine aZ kE (aR (j:=0) rfl rfl) ?_
 refine ay (fun h0=>?_) (fun h0=>?_)
 ·have h0:0≤n:=by simp at h0;omega
  refine aZ kE (aR (j:=0) rfl rfl) ?_
  refine ay (fun h1=>?_) (fun h1=>?_)
  ·have h1:n≤32:=by simp at h1;omega
   refine aZ kE (aR (j:=0) rfl rfl) ?_
   refine aZ kE (aR (j:=0) rfl rfl) ?_
   refine aA (fun _=>{i:=(D8 n:Nat)}) DF (fun hl=>MG hn) rfl ?_
   refine DN (iq (ia kE (aR (j:=0) rfl rfl) rfl)) ?_
   refine aC ⟨?_,rfl⟩
   have hmk:D8 n=Dz n.toNat:=by unfold D8;rw[Nat.min_eq_left (by omega)]
   dsimp only
   rw[hmk,NK ha (by omega)]
   unfold ov
   rw[decide_eq_true h0,decide_eq_true h1,Bool.true_and,Bool.true_and]
   congr 1
   rw[Bool.eq_iff_iff]
   simp only[beq_iff_eq,decide_eq_true_eq]
   generalize a%2^(32 - n.toNat)=z
   omega
  ·refine aC ⟨?_,rfl⟩
   unfold ov
   simp at h1
   rw[decide_eq_false (p:=n≤32) (by omega),Bool.false_and,Bool.and_false]
 ·refine aC ⟨?_,rfl⟩
  unfold ov
  simp at h0
  rw[decide_eq_false (p:=0≤n) (by omega),Bool.false_and]
def wt(i:Nat):Nat:=if i%2=0 then 256 else 1
theorem SH(i:Nat):wt i≤256:=by unfold wt;split<;>omega
def N1:Nat→List UInt8→Nat
 |_,[]=>0
 |i,b::r=>b.toNat*wt i+N1 (i+1) r
theorem MI: ∀(l:List UInt8) (i:Nat),N1 i l≤65280*l.length
 |[],i=>Nat.zero_le _
 |b::r,i=>by
  have h1:=MI r (i+1)
  have h2:=b.toNat_lt
  have h3:b.toNat*wt i≤255*256:=Nat.mul_le_mul (by omega) (SH i)
  simp only[N1,List.length_cons]
  omega
def Ao(n:Nat):Nat:=if n=0 then 0 else(n - 1)%65535+1
theorem De{n:Nat}(h:n>65535):Ao (n%65536+n/65536)=Ao n:=by
 unfold Ao
 rw[if_neg (by omega),if_neg (by omega)]
 omega
theorem ue{n:Nat}(h:n≤65535):Ao n=n:=by unfold Ao;split<;>omega
def GS(l:List UInt8):Nat:=65535 - Ao (N1 0 l)
theorem IR{a:Nat}(ha:a<18446744073709551616):oh .and .u64 (a:Int) 65535=((a%65536:Nat):Int):=by
 show IntKind.u64.wrap ((BitVec.ofInt 64 (a:Int)&&& BitVec.ofInt 64 65535).toNat:Int)=_
 rw[BitVec.ofInt_natCast,show BitVec.ofInt 64 65535=BitVec.ofNat 64 65535 from rfl,BitVec.toNat_and,BitVec.toNat_ofNat,BitVec.toNat_ofNat,Nat.mod_eq_of_lt (by omega),Nat.mod_eq_of_lt (by omega),show(65535:Nat)=2^16 - 1 from rfl,Nat.and_two_pow_sub_one_eq_mod]
 have:a%2^16<65536:=Nat.mod_lt _ (by decide)
 have h2:IntKind.u64.wrap ((a%2^16:Nat):Int)=((a%2^16:Nat):Int)%18446744073709551616:=rfl
 rw[h2]
 omega
theorem Ff{x:Nat}(hx:x≤65535):oh .xor .u16 (IntKind.max .u16) (x:Int)=((65535 - x:Nat):Int):=by
 show IntKind.u16.wrap ((BitVec.ofInt 16 (IntKind.max .u16)^^^BitVec.ofInt 16 (x:Int)).toNat:Int)=_
 rw[BitVec.ofInt_natCast,show BitVec.ofInt 16 (IntKind.max .u16)=BitVec.allOnes 16 from rfl,BitVec.allOnes_xor,BitVec.toNat_not,BitVec.toNat_ofNat,Nat.mod_eq_of_lt (by omega)]
 exact B1 (by omega)
theorem zj{n:Nat}(h:n<18446744073709551616):IntKind.u64.wrap (n:Int)=n:=by
 have:IntKind.u64.wrap (n:Int)=(n:Int)%18446744073709551616:=rfl
 rw[this];omega
theorem M9{I:Ctx}: ∀(d n:Nat) (u:Nat→Value) (h:Mem),n≤d→n<9223372036854775808→
  Wp Tryz.prog 115 rS (rM (n:Int) u) I h (cl_ fun v h'=>v= .int .u16 ((65535 - Ao n:Nat):Int)∧h'=[]):=by
 intro d
 induction d with
 |zero=>
  intro n u h hd hn
  refine CA _ _ ?_
  refine b7 (by simp;omega) ?_
  rw[B1 (by omega),Ff (by omega),ue (by omega)]
  exact aC ⟨rfl,rfl⟩
 |succ d ih=>
  intro n u h hd hn
  refine CA _ _ ?_
  refine ay (fun t=>?_) (fun t=>?_)
  ·have t:n>65535:=by simp at t;omega
   rw[IR (by omega),Fv,←Int.natCast_add,zj (by omega)]
   refine aj fun _ hl=>?_
   rw[←De t]
   exact ih _ _ _ (by omega) (by omega)
  ·have t:n≤65535:=by simp at t;omega
   rw[B1 (by omega),Ff (by omega),ue (by omega)]
   exact aC ⟨rfl,rfl⟩
theorem OQ{I:Ctx}(n:Nat)(u:Nat→Value)(h:Mem)(hn:n<9223372036854775808):
  Wp Tryz.prog 115 wu (wL (n:Int) u) I h (cl_ fun v h'=>v= .int .u16 ((65535 - Ao n:Nat):Int)∧h'=[]):=by
 refine HH _ _ ?_
 refine ay (fun t=>?_) (fun t=>?_)
 ·have t:n>65535:=by simp at t;omega
  rw[IR (by omega),Fv,←Int.natCast_add,zj (by omega)]
  refine aj fun _ hl=>?_
  rw[←De t]
  exact M9 _ _ _ _ (Nat.le_refl _) (by omega)
 ·have t:n≤65535:=by simp at t;omega
  rw[B1 (by omega),Ff (by omega),ue (by omega)]
  exact aC ⟨rfl,rfl⟩
theorem Pv{I:Ctx}{A:Option Addr}{n c:Nat}{l:List UInt8}(hr:RdB I A n l)(hn:n≤1000000):
  ∀(q i x:Nat) (u:Nat→Value) (h:Mem),i+q=n→x+N1 i (l.drop i)=N1 0 l→
  Wp Tryz.prog 115 rL (rI A n c x i u) I h (cl_ fun v h'=>v= .int .u16 (GS l:Nat)∧h'=[]):=by
 have hln:=hr.len
 have hle:=MI l 0
 intro q
 induction q with
 |zero=>
  intro i x u h hi hx
  refine CM _ _ _ _ _ _ ?_
  refine b7 (by simp;omega) ?_
  refine aj fun _ hl=>?_
  rw[List.drop_of_length_le (by omega)]at hx
  have hx:x=N1 0 l:=by simpa[N1]using hx
  rw[hx]
  exact OQ _ _ _ (by omega)
 |succ q ih=>
  intro i x u h hi hx
  have hd:l.drop i=l[i]::l.drop (i+1):=List.drop_eq_getElem_cons (by omega)
  have hb:=(l[i]'(by omega)).toNat_lt
  refine CM _ _ _ _ _ _ ?_
  refine aX (by simp;omega) ?_
  refine Jj (e:=5) i (b:=l[i]'(by omega)) (hr.rd.sub Sub.self) (List.getElem?_eq_getElem _) hr.len rfl kE kE kE fun a1 _=>?_
  dsimp only
  rw[hd]at hx
  simp only[N1]at hx
  have hw:l[i].toNat*wt i≤255*256:=Nat.mul_le_mul (by omega) (SH i)
  have hs:IntKind.wrap .u64 (IntKind.wrap .u64 ((l[i].toNat:Nat):Int)*2^(min (IntKind.wrap .i64 (8*(IntKind.wrap .i64 (1 - (Int.tmod (i:Int) 2))))).toNat IntKind.u64.bits))=((l[i].toNat*wt i:Nat):Int):=by
   rw[zj (by omega),Int.tmod_eq_emod_of_nonneg (by omega)]
   unfold wt
   by_cases h2:i%2=0
   ·rw[show(i:Int)%2=0 by omega,if_pos h2]
    rw[show(2:Int)^(min (IntKind.wrap .i64 (8*(IntKind.wrap .i64 (1 - 0)))).toNat IntKind.u64.bits)=256 from by decide]
    rw[show((l[i].toNat:Nat):Int)*256=((l[i].toNat*256:Nat):Int) by omega]
    exact zj (by omega)
   ·rw[show(i:Int)%2=1 by omega,if_neg h2]
    rw[show(2:Int)^(min (IntKind.wrap .i64 (8*(IntKind.wrap .i64 (1 - 1)))).toNat IntKind.u64.bits)=1 from by decide]
    rw[Int.mul_one,Nat.mul_one]
    exact zj (by omega)
  have h0:(0:Int)≤IntKind.wrap .i64 (8*(IntKind.wrap .i64 (1 - (Int.tmod (i:Int) 2)))):=by
   rw[Int.tmod_eq_emod_of_nonneg (by omega),cr (x:=1 - (i:Int)%2) (by omega),cr (by omega)]
   omega
  refine QV h0 ?_
  rw[hs]
  refine aj fun _ hl=>?_
  rw[←Int.natCast_add,zj (by omega),dT (by omega)]
  exact ih (i+1) _ _ _ (by omega) (by omega)
theorem N3{I:Ctx}{A:Option Addr}{n c:Nat}{l:List UInt8}(hr:RdB I A n l)(hn:n≤1000000):Fn Tryz.prog 115 #[.slice A n c] I [] (fun v h'=>v= .int .u16 (GS l:Nat)∧h'=[]):=by
 refine Nb _ _ _ ?_
 refine aj fun _ hl=>?_
 exact Pv hr hn n 0 0 _ _ (by omega) (by simp)
theorem Lz{I:Ctx}{A:Option Addr}{n c:Nat}{l:List UInt8}(hr:RdB I A n l)(hn:n≤1000000):Fn Tryz.prog 87 #[.slice A n c] I [] (wd l):=by
 have hln:=hr.len
 refine nP _ _ _ ?_
 refine k8 (fun _=>{b:=A.isNone}) (yv (.inl rfl) kE rfl) ?_
 dsimp only
 refine ay (fun t=>?_) (fun t=>?_)
 ·have hA:A=none:=by cases A with|none=>rfl|some a=>cases t
  have h0:l=[]:=List.eq_nil_of_length_eq_zero (by rw[hln];exact hr.nil hA)
  subst h0
  exact aC ⟨none,0,rfl,Own.nil _ _⟩
 ·refine gK (e:=5) #[] kE fun g hg hI=>?_
  dsimp only
  refine bP (cl_.aff _) pD kE (hr.rd.sub Sub.self) hr.nil (by simpa using hln) (bC_plain _) (m:=[(g,.cells #[] 5 (0,0))]) (hr:=[]) (List.Perm.refl _) (Own.row (n:=0) rfl) (by omega) (by omega) ?_
  intro A' c' m' ho'
  simp only[Nat.zero_add,List.nil_append]at ho'⊢
  subst hln
  exact aY p1E ⟨A',c',rfl,ho'⟩
theorem NR{I:Ctx}{A1 A2:Option Addr}{n c1 c2:Nat}{l1 l2:List UInt8}(h1:RdB I A1 n l1)(h2:RdB I A2 n l2)(hn:n≤1000000):
  ∀(q i:Nat) (u:Nat→Value) (h:Mem),i+q=n→
  Wp Tryz.prog 338 eY (fm A1 n c1 A2 n c2 i u) I h (cl_ fun v h'=>v= .bool (l1.drop i==l2.drop i)∧h'=[]):=by
 have hl1:=h1.len
 have hl2:=h2.len
 intro q
 induction q with
 |zero=>
  intro i u h hi
  refine lJ _ _ _ _ _ _ _ _ ?_
  refine b7 (by simp;omega) ?_
  exact aC ⟨by rw[List.drop_of_length_le (by omega),List.drop_of_length_le (by omega)];rfl,rfl⟩
 |succ q ih=>
  intro i u h hi
  have hd1:l1.drop i=l1[i]::l1.drop (i+1):=List.drop_eq_getElem_cons (by omega)
  have hd2:l2.drop i=l2[i]::l2.drop (i+1):=List.drop_eq_getElem_cons (by omega)
  refine lJ _ _ _ _ _ _ _ _ ?_
  refine aX (by simp;omega) ?_
  refine Jj (e:=5) i (b:=l1[i]'(by omega)) (h1.rd.sub Sub.self) (List.getElem?_eq_getElem _) h1.len rfl kE kE kE fun a1 _=>?_
  dsimp only
  refine Jj (e:=5) i (b:=l2[i]'(by omega)) (h2.rd.sub Sub.self) (List.getElem?_eq_getElem _) h2.len rfl kE kE kE fun a1 _=>?_
  dsimp only
  refine ay (fun t=>?_) (fun t=>?_)
  ·refine aC ⟨congrArg Value.bool (Eq.symm ?_),rfl⟩
   rw[hd1,hd2,List.cons_beq_cons]
   have:(l1[i]==l2[i])=false:=by rw[beq_eq_false_iff_ne];intro e;rw[e]at t;simp at t
   rw[this];rfl
  ·have e:l1[i]=l2[i]:=by rw[←UInt8.toNat_inj];simp at t;omega
   refine aj fun _ hl=>?_
   rw[dT (by omega),hd1,hd2,List.cons_beq_cons,e,show(l2[i]==l2[i])=true by simp,Bool.true_and]
   exact ih (i+1) _ _ (by omega)
theorem CR{I:Ctx}{A1 A2:Option Addr}{n1 n2 c1 c2:Nat}{l1 l2:List UInt8}(h1:RdB I A1 n1 l1)(h2:RdB I A2 n2 l2)(hn:n1≤1000000):
  Fn Tryz.prog 338 #[.slice A1 n1 c1,.slice A2 n2 c2] I [] (fun v h'=>v= .bool (l1==l2)∧h'=[]):=by
 have hl1:=h1.len
 have hl2:=h2.len
 refine wD _ _ _ _ _ _ ?_
 refine ay (fun t=>?_) (fun t=>?_)
 ·refine aC ⟨congrArg Value.bool (Eq.symm ?_),rfl⟩
  rw[beq_eq_false_iff_ne]
  intro e
  rw[e]at hl1
  simp at t
  omega
 ·have e:n1=n2:=by simp at t;omega
  subst e
  refine aj fun _ hl=>?_
  exact NR (c1:=c1) (c2:=c2) h1 h2 hn n1 0 _ _ (by omega)
structure Vec where
 b:Int
 d:Int
 p:Int
def lO(v:Vec):Bool:=decide (v.b≥1)&&(decide (v.b≤10000000)&&(decide (v.d≥0)&&(decide (v.d≤16777216)&&(decide (v.p≥0)&&decide (v.p≤100)))))
theorem Co{I:Ctx}{v:Vec}:Fn Tryz.prog 110 #[.agg #[.int .i64 v.b,.int .i64 v.d,.int .i64 v.p]] I [] (fun x h'=>x= .bool (lO v)∧h'=[]):=by
 refine GZ _ _ _ ?_
 refine aP fun _ _ _=>?_;dsimp only[ag];refine ldI mE rE kE ?_;dsimp only[ag]
 refine ay (fun t1=>?_) (fun t1=>?_)
 ·refine ldI mE rE kE ?_;dsimp only[ag]
  refine ay (fun t2=>?_) (fun t2=>?_)
  ·refine ldI mE rE kE ?_;dsimp only[ag]
   refine ay (fun t3=>?_) (fun t3=>?_)
   ·refine ldI mE rE kE ?_;dsimp only[ag]
    refine ay (fun t4=>?_) (fun t4=>?_)
    ·refine ldI mE rE kE ?_;dsimp only[ag]
     refine ay (fun t5=>?_) (fun t5=>?_)
     ·refine ldI mE rE kE ?_;dsimp only[ag]
      refine aC ⟨congrArg Value.bool ?_,rfl⟩
      unfold lO
      rw[t1,t2,t3,t4,t5]
      rfl
     ·refine aC ⟨congrArg Value.bool ?_,rfl⟩
      unfold lO
      rw[t5];simp
    ·refine aC ⟨congrArg Value.bool ?_,rfl⟩
     unfold lO
     rw[t4];simp
   ·refine aC ⟨congrArg Value.bool ?_,rfl⟩
    unfold lO
    rw[t3];simp
  ·refine aC ⟨congrArg Value.bool ?_,rfl⟩
   unfold lO
   rw[t2];simp
 ·refine aC ⟨congrArg Value.bool ?_,rfl⟩
  unfold lO
  rw[t1];simp
abbrev inI(n:Int):Prop:= -9223372036854775808≤n∧n≤9223372036854775807
structure mV where
 a:Nat
 n:Int
 v:Vec
 tag:Nat
structure mV.ok (e:mV):Prop where
 a:e.a<4294967296
 n:inI e.n
 tag:e.tag<65536
abbrev mV.cs(e:mV):List Value:=[.int .u32 (e.a:Nat),.int .i64 e.n,.int .i64 e.v.b,.int .i64 e.v.d,.int .i64 e.v.p,.int .u16 (e.tag:Nat)]
abbrev mV.vv(e:mV):Value:= .agg #[.int .u32 (e.a:Nat),.int .i64 e.n,.int .i64 e.v.b,.int .i64 e.v.d,.int .i64 e.v.p,.int .u16 (e.tag:Nat)]
abbrev mV.ls(e:mV):Nat→jT:=ag [{i:=(e.a:Nat)},{i:=e.n},{i:=e.v.b},{i:=e.v.d},{i:=e.v.p},{i:=(e.tag:Nat)}]
def lS(x:Int):UInt8:=UInt8.ofNat (x%256).toNat
def jR(x:Int):Nat:=(x%4294967296).toNat
theorem GC(x:Int):IntKind.wrap .u8 x=(((lS x).toNat:Nat):Int):=by
 rw[RG];unfold lS;rw[pi];omega
theorem QA(x:Int):IntKind.wrap .u32 x=((jR x:Nat):Int):=by
 rw[EI];unfold jR;omega
theorem BN(x:Int):jR x<4294967296:=by unfold jR;omega
def St(v:Vec):Bool:=[v.b==0,v.d==0,v.p==0].all id
def kG(e:mV):Bool:=ov e.a e.n&&(lO e.v||St e.v)
def gH(e:mV):List UInt8:=be 4 e.a++([lS e.n,lS e.v.p]++(be 2 e.tag++(be 4 (jR e.v.b)++(be 4 (jR e.v.d)++[0,0,0,0]))))
theorem NO{I:Ctx}{e:mV}(ho:e.ok):Fn Tryz.prog 94 #[e.vv] I [] (fun v h'=>v= .bool (kG e)∧h'=[]):=by
 refine FC _ _ _ _ _ _ ?_
 refine aP fun _ _ _=>?_;dsimp only[ag];refine lz mE rE kE ?_;dsimp only[ag]
 refine aA (fun _=>{b:=ov e.a e.n}) iE (fun hl=>IY ho.a ho.n) rfl ?_
 refine ay (fun h0=>?_) (fun h0=>?_)
 ·refine la4 mE rE kE ?_;dsimp only[ag]
  refine aA (fun _=>{b:=lO e.v}) rz (fun hl=>Co) rfl ?_
  refine ay (fun h1=>?_) (fun h1=>?_)
  ·refine aC ⟨congrArg Value.bool (Eq.symm ?_),rfl⟩
   unfold kG;dsimp only at h0 h1;rw[h0,h1];rfl
  ·refine la4 mE rE kE ?_;dsimp only[ag]
   refine Jz [e.v.b==0,e.v.d==0,e.v.p==0] kE kE ?_
   refine aC ⟨congrArg Value.bool (Eq.symm ?_),rfl⟩
   unfold kG;dsimp only at h0 h1;rw[h0,h1];rfl
 ·refine aC ⟨congrArg Value.bool (Eq.symm ?_),rfl⟩
  unfold kG;dsimp only at h0;rw[h0];rfl
theorem MW{I:Ctx}{e:mV}(ho:e.ok):Fn Tryz.prog 93 #[e.vv] I [] (fun v h'=>v= .bool (!kG e)∧h'=[]):=by
 refine vi _ _ _ _ _ _ ?_
 refine aP fun _ _ _=>?_;dsimp only[ag];refine RH mE rE kE ?_;dsimp only[ag]
 refine aA (fun _=>{b:=kG e}) D1 (fun hl=>NO ho) rfl ?_
 exact aC ⟨rfl,rfl⟩
end Go.Proofs.YtadanegddceleaaGreatS
set_option maxRecDepth 20000
namespace Go.Proofs.YtadanegddceleaaGreatS.Fl
section
open Go Ieee
theorem Ez(e:Nat):2^e≠0:=Nat.ne_of_gt (Nat.pow_pos (by decide))
theorem PJ(b p s e:Nat)(h:p+s=e):(b*2^p)<<<s=b*2^e:=by
 subst h
 rw[Nat.shiftLeft_eq,Nat.mul_assoc,←Nat.pow_add]
theorem JJ(m e:Nat)(h:m≠0):(m*2^e).log2=m.log2+e:=by
 have h1:m*2^e≠0:=Nat.mul_ne_zero h (Ez _)
 rw[Nat.log2_eq_iff h1]
 have a:=Nat.log2_self_le h
 have b:=Nat.lt_log2_self (n:=m)
 refine⟨?_,?_⟩
 ·rw[Nat.pow_add]
  exact Nat.mul_le_mul_right _ a
 ·rw[show m.log2+e+1=(m.log2+1)+e by omega,Nat.pow_add]
  exact Nat.mul_lt_mul_of_pos_right b (Nat.pow_pos (by decide))
theorem Dg(way:Toward)(x drop:Nat)(hx:x≠0):way.cut false (x*2^drop) drop=x:=by
 have hl:min drop ((x*2^drop).log2+2)=drop:=by
  rw[JJ x drop hx]
  omega
 have hp:0<2^drop:=Nat.pow_pos (by decide)
 unfold Toward.cut
 simp only[hl,Nat.one_shiftLeft,Nat.mul_mod_left,Nat.mul_div_cancel _ hp]
 cases way<;>simp
theorem Ok(way:Toward)(x:Nat)(hx:x≠0):way.cut false x 0=x:=by
 have:=Dg way x 0 hx
 simpa using this
def Hb(m:Nat):Nat:=(m.log2+1022)*2^52+m*2^(52 - m.log2)
theorem jt(m:Nat)(h:m≠0)(hm:m<2^52):2^52≤m*2^(52 - m.log2)∧m*2^(52 - m.log2)<2^53∧m.log2<52:=by
 have a:=Nat.log2_self_le h
 have b:=Nat.lt_log2_self (n:=m)
 have c:m.log2<52:=(Nat.log2_lt h).2 hm
 have e:2^m.log2*2^(52 - m.log2)=2^52:=by rw[←Nat.pow_add];congr 1;omega
 have e2:2^(m.log2+1)*2^(52 - m.log2)=2^53:=by rw[←Nat.pow_add];congr 1;omega
 refine⟨?_,?_,c⟩
 ·rw[←e]
  exact Nat.mul_le_mul_right _ a
 ·rw[←e2]
  exact Nat.mul_lt_mul_of_pos_right b (Nat.pow_pos (by decide))
theorem mZ(m e:Nat)(h:m≠0)(hm:m<2^52)(_he:e≤1074):double.nearest false (m*2^e) (-(e:Int))=Hb m:=by
 have hk:=jt m h hm
 have hl:=JJ m e h
 have h0:m*2^e≠0:=Nat.mul_ne_zero h (Ez _)
 have elp:double.leastPlace= -1074:=by decide
 have efb:double.fractionBits=52:=rfl
 have ebn:double.binade=2^52:=rfl
 have einf:double.infRung=2047*2^52:=by decide
 unfold Format.nearest
 rw[if_neg h0]
 simp only[hl,elp,efb,ebn,einf]
 have last:max (-(e:Int)+((m.log2+e:Nat):Int) - ((52:Nat):Int)) (-1074)=(m.log2:Int) - 52:=by omega
 rw[last]
 have kept:Toward.even.cut false ((m*2^e)<<<(-(e:Int) - ((m.log2:Int) - 52)).toNat) (((m.log2:Int) - 52) - -(e:Int)).toNat=m*2^(52 - m.log2):=by
  have hne:m*2^(52 - m.log2)≠0:=Nat.mul_ne_zero h (Ez _)
  by_cases c:e+m.log2≤52
  ·rw[show(-(e:Int) - ((m.log2:Int) - 52)).toNat=52 - m.log2 - e by omega,show(((m.log2:Int) - 52) - -(e:Int)).toNat=0 by omega,Nat.shiftLeft_eq,Nat.mul_assoc,←Nat.pow_add,show e+(52 - m.log2 - e)=52 - m.log2 by omega]
   exact Ok _ _ hne
  ·rw[show(-(e:Int) - ((m.log2:Int) - 52)).toNat=0 by omega,show(((m.log2:Int) - 52) - -(e:Int)).toNat=e+m.log2 - 52 by omega,Nat.shiftLeft_zero]
   have:m*2^e=m*2^(52 - m.log2)*2^(e+m.log2 - 52):=by rw[Nat.mul_assoc,←Nat.pow_add];congr 2;omega
   rw[this]
   exact Dg _ _ _ hne
 rw[kept]
 have e3:((m.log2:Int) - 52 - -1074).toNat=m.log2+1022:=by omega
 rw[e3]
 unfold Format.word Hb
 simp only[Bool.false_eq_true,if_false]
 rw[Nat.min_eq_left]
 have h1:(m.log2+1022)*2^52≤1073*2^52:=Nat.mul_le_mul_right _ (by omega)
 have h2:1073*2^52+2^53≤2047*2^52:=by decide
 exact Nat.le_trans (Nat.add_le_add h1 (Nat.le_of_lt hk.2.1)) h2
theorem tM(m:Nat)(h:m≠0)(hm:m<2^52):double.read (Hb m)= .number false (m*2^(52 - m.log2)) ((m.log2:Int) - 52):=by
 have hk:=jt m h hm
 have elp:double.leastPlace= -1074:=by decide
 have ebn:double.binade=4503599627370496:=rfl
 have einf:double.infRung=9218868437227405312:=by decide
 have esg:double.signWeight=9223372036854775808:=rfl
 have ew:Hb m=(m.log2+1022)*4503599627370496+m*2^(52 - m.log2):=rfl
 have p52:(2:Nat)^52=4503599627370496:=rfl
 have p53:(2:Nat)^53=9007199254740992:=rfl
 rw[p52,p53]at hk
 unfold Format.read
 simp only[elp,ebn,einf,esg]
 generalize m*2^(52 - m.log2)=K at*
 generalize m.log2=L at*
 rw[ew]
 have a1:((L+1022)*4503599627370496+K)/9223372036854775808=0:=by omega
 have a2:((L+1022)*4503599627370496+K)%9223372036854775808=(L+1022)*4503599627370496+K:=by omega
 rw[a1,a2,if_neg (by omega),if_pos (by omega)]
 have a3:4503599627370496+((L+1022)*4503599627370496+K)%4503599627370496=K:=by omega
 have a4:((L+1022)*4503599627370496+K)/4503599627370496 - 1=L+1022:=by omega
 rw[a3,a4]
 have a5:(-1074:Int)+((L+1022:Nat):Int)=(L:Int) - 52:=by omega
 rw[a5]
 rfl
theorem BS(m:Nat)(hm:m<2^52):floatOfInt .f64 (m:Int)=if m=0 then 0 else Hb m:=by
 unfold floatOfInt FloatKind.nearest FloatKind.encode
 show double.nearest (decide ((m:Int)<0)) (m:Int).natAbs 0=_
 rw[show decide ((m:Int)<0)=false by simp,Int.natAbs_natCast]
 by_cases h:m=0
 ·subst h
  rfl
 ·rw[if_neg h]
  have:=mZ m 0 h hm (by omega)
  simpa using this
theorem Hl:double.read 0= .number false 0 (-1074):=by decide
theorem add_exact(a b:Nat)(ha:a<2^50)(hb:b<2^50):double.add (floatOfInt .f64 (a:Int)) (floatOfInt .f64 (b:Int))=some (floatOfInt .f64 ((a+b:Nat):Int)):=by
 have p52:(2:Nat)^52=4*2^50:=rfl
 rw[BS a (by omega),BS b (by omega),BS (a+b) (by omega)]
 unfold Format.add
 by_cases h1:a=0
 ·by_cases h2:b=0
  ·subst h1 h2
   decide+kernel
  ·have hk:=jt b h2 (by omega)
   rw[if_pos h1,if_neg h2,if_neg (by omega),Hl,tM b h2 (by omega)]
   subst h1
   unfold Datum.sum
   have hmin:min (-1074:Int) ((b.log2:Int) - 52)= -1074:=by omega
   simp only[hmin,signed,Bool.false_eq_true,if_false,Option.map_some,Nat.zero_shiftLeft,Nat.zero_add,Int.natCast_zero]
   obtain⟨E,hE⟩: ∃E:Nat,E=1074:=⟨_,rfl⟩
   rw[PJ b (52 - b.log2) ((b.log2:Int) - 52 - -1074).toNat E (by omega),Int.zero_add]
   have hne:b*2^E≠0:=Nat.mul_ne_zero h2 (Ez _)
   have:=mZ b E h2 (by omega) (by omega)
   rw[show(-1074:Int)= -(E:Int) by omega]
   generalize b*2^E=X at*
   rw[if_neg (by omega),show decide ((X:Int)<0)=false by simp,Int.natAbs_natCast]
   exact congrArg some this
 ·by_cases h2:b=0
  ·have hk:=jt a h1 (by omega)
   rw[if_neg h1,if_pos h2,if_neg (by omega),Hl,tM a h1 (by omega)]
   subst h2
   unfold Datum.sum
   have hmin:min ((a.log2:Int) - 52) (-1074:Int)= -1074:=by omega
   simp only[hmin,signed,Bool.false_eq_true,if_false,Option.map_some,Nat.zero_shiftLeft,Nat.add_zero,Int.natCast_zero]
   obtain⟨E,hE⟩: ∃E:Nat,E=1074:=⟨_,rfl⟩
   rw[PJ a (52 - a.log2) ((a.log2:Int) - 52 - -1074).toNat E (by omega),Int.add_zero]
   have hne:a*2^E≠0:=Nat.mul_ne_zero h1 (Ez _)
   have:=mZ a E h1 (by omega) (by omega)
   rw[show(-1074:Int)= -(E:Int) by omega]
   generalize a*2^E=X at*
   rw[if_neg (by omega),show decide ((X:Int)<0)=false by simp,Int.natAbs_natCast]
   exact congrArg some this
  ·have hka:=jt a h1 (by omega)
   have hkb:=jt b h2 (by omega)
   rw[if_neg h1,if_neg h2,if_neg (by omega),tM a h1 (by omega),tM b h2 (by omega)]
   unfold Datum.sum
   obtain⟨e,he,hmin⟩: ∃e:Nat,e≤52∧min ((a.log2:Int) - 52) ((b.log2:Int) - 52)= -(e:Int):=⟨52 - min a.log2 b.log2,by omega,by omega⟩
   simp only[hmin,signed,Bool.false_eq_true,if_false,Option.map_some]
   have ea:(a*2^(52 - a.log2))<<<((a.log2:Int) - 52 - -(e:Int)).toNat=a*2^e:=by
    rw[Nat.shiftLeft_eq,Nat.mul_assoc,←Nat.pow_add]
    congr 2
    omega
   have eb:(b*2^(52 - b.log2))<<<((b.log2:Int) - 52 - -(e:Int)).toNat=b*2^e:=by
    rw[Nat.shiftLeft_eq,Nat.mul_assoc,←Nat.pow_add]
    congr 2
    omega
   rw[ea,eb]
   have es:((a*2^e:Nat):Int)+((b*2^e:Nat):Int)=(((a+b)*2^e:Nat):Int):=by rw[Nat.add_mul];rfl
   rw[es]
   have hne:(a+b)*2^e≠0:=Nat.mul_ne_zero (by omega) (Ez _)
   generalize hX:(a+b)*2^e=X at*
   rw[if_neg (by omega),show decide ((X:Int)<0)=false by simp,Int.natAbs_natCast]
   have:=mZ (a+b) e (by omega) (by omega) (by omega)
   rw[hX]at this
   exact congrArg some this
theorem back_exact(a:Nat)(ha:a<2^50):floatToIntVal .f64 (floatOfInt .f64 (a:Int)) .i64=some (a:Int):=by
 have p52:(2:Nat)^52=4*2^50:=rfl
 have p50:(2:Nat)^50=1125899906842624:=rfl
 rw[BS a (by omega)]
 unfold floatToIntVal FloatKind.decode
 show(match Datum.toInt .zero (double.read _)with|some n=>_|none=>_)=_
 by_cases h:a=0
 ·subst h
  decide+kernel
 ·have hk:=jt a h (by omega)
  rw[if_neg h,tM a h (by omega)]
  have e:Datum.toInt .zero (.number false (a*2^(52 - a.log2)) ((a.log2:Int) - 52))=some (a:Int):=by
   unfold Datum.toInt Datum.integral
   simp only[signed,Bool.false_eq_true,if_false]
   rw[show((a.log2:Int) - 52).toNat=0 by omega,show(-((a.log2:Int) - 52)).toNat=52 - a.log2 by omega,Nat.shiftLeft_zero,Nat.shiftLeft_zero,Dg _ _ _ h]
  rw[e]
  have b1:IntKind.min .i64= -9223372036854775808:=by decide
  have b2:IntKind.max .i64=9223372036854775807:=by decide
  simp only[b1,b2]
  rw[if_pos (by omega)]
section
variable {P:Program} (w:World)
@[go_sem] theorem Rg(t:TypeId)(a b c d:Int)(a0:0≤a)(a1:a≤1000000000)(b0:0≤b)(b1:b≤1000000000)(c0:0≤c)(c1:c≤1000000000)(d0:0≤d)(d1:d≤1000000000):
  (binOp .add t (.complex .f64 (floatOfInt .f64 a) (floatOfInt .f64 b)) (.complex .f64 (floatOfInt .f64 c) (floatOfInt .f64 d))).run P w= .ok (.complex .f64 (floatOfInt .f64 (a+c)) (floatOfInt .f64 (b+d))) w:=by
 have p50:(2:Nat)^50=1125899906842624:=rfl
 refine run_complex_sum w .add (Or.inl rfl) t .f64 _ _ _ _ _ _ ?_
 obtain⟨a,rfl⟩:=Int.eq_ofNat_of_zero_le a0
 obtain⟨b,rfl⟩:=Int.eq_ofNat_of_zero_le b0
 obtain⟨c,rfl⟩:=Int.eq_ofNat_of_zero_le c0
 obtain⟨d,rfl⟩:=Int.eq_ofNat_of_zero_le d0
 have h1:floatBits .add .f64 (floatOfInt .f64 (a:Int)) (floatOfInt .f64 (c:Int))=some (floatOfInt .f64 ((a+c:Nat):Int)):=add_exact a c (by omega) (by omega)
 have h2:floatBits .add .f64 (floatOfInt .f64 (b:Int)) (floatOfInt .f64 (d:Int))=some (floatOfInt .f64 ((b+d:Nat):Int)):=add_exact b d (by omega) (by omega)
 unfold cSumBits
 rw[h1,h2]
 rfl
@[go_sem] theorem Rh(src dst:TypeId)(a:Int)(hs:(P.underlying src).isSome=true)(hd:P.underlying dst=some (.int .i64))(a0:0≤a)(a1:a≤2000000000):
  (convert src dst (.float .f64 (floatOfInt .f64 a))).run P w= .ok (.int .i64 a) w:=by
 have p50:(2:Nat)^50=1125899906842624:=rfl
 refine run_convert_float_int w src dst .f64 .i64 _ a hs hd ?_
 obtain⟨a,rfl⟩:=Int.eq_ofNat_of_zero_le a0
 exact back_exact a (by omega)
end
end
end Go.Proofs.YtadanegddceleaaGreatS.Fl
set_option maxRecDepth 20000
namespace Go.Proofs.YtadanegddceleaaGreatS
abbrev Vec.V(v:Vec):Value:= .agg #[.int .i64 v.b,.int .i64 v.d,.int .i64 v.p]
abbrev Vec.C(v:Vec):List Value:=[.int .i64 v.b,.int .i64 v.d,.int .i64 v.p]
instance:DecidableEq Vec:=fun a b=>by
 cases a;cases b
 simp only[Vec.mk.injEq]
 infer_instance
def gd(v:Vec):Bool:=lO v&&(decide (v.d<16777216)&&decide (v.p<100))
def ofV(v:Vec):Int:=if gd v then(if(4294967294:Int)<256*(Int.tdiv 10000000 v.b+v.d)then 4294967294 else 256*(Int.tdiv 10000000 v.b+v.d))else 4294967295
def Fq(a b:Vec):Bool:=decide (ofV a<ofV b)||((ofV a==ofV b)&&decide (a.p<b.p))
def clI(x m:Int):Int:=if(if m<x then m else x)>0 then(if m<x then m else x)else 0
def DU(v l:Vec):Vec:=⟨if l.b<v.b then l.b else v.b,clI (clI v.d 16777216+clI l.d 16777216) 16777216,clI (clI v.p 100+clI l.p 100) 100⟩
theorem IS{x m:Int}(hm:0≤m):0≤clI x m∧clI x m≤m:=by unfold clI;split<;>split at* <;>omega
theorem GD{v:Vec}(h:gd v=true):lO v=true:=by
 unfold gd at h
 rw[Bool.and_eq_true]at h
 exact h.1
theorem KT{v:Vec}(h:lO v=true):(1≤v.b∧v.b≤10000000)∧(0≤v.d∧v.d≤16777216)∧(0≤v.p∧v.p≤100):=by
 unfold lO at h
 simp only[Bool.and_eq_true,decide_eq_true_eq]at h
 omega
theorem NV{b:Int}(h:1≤b):0≤Int.tdiv 10000000 b∧Int.tdiv 10000000 b≤10000000:=by
 rw[Int.tdiv_eq_ediv_of_nonneg (by omega)]
 exact⟨Int.ediv_nonneg (by omega) (by omega),Int.ediv_le_self _ (by omega)⟩
section
variable {P:Program} {I:Ctx} {f:Ctl} {Q:Value→Mem→Prop} {h:Mem} {k:(Nat→jT)→Tr}
theorem S8{t:TypeId}{ik:IntKind}{x y:Int}(hy:y≠0)(hk:holds P f I Q (k fun _=>{i:=ik.wrap (x.tdiv y)}) h):holds P f I Q (.rdn (D6 .quo t (.int ik x) (.int ik y)) (.one (.sc (.int ik))) k) h:=by
 refine k8 _ ?_ hk
 unfold D6
 refine iq ?_
 refine aB (a:=()) rfl ?_
 unfold binOp
 simp only[ne_eq,not_true_eq_false,if_false]
 unfold Op.intDiv
 rw[if_neg hy]
 rfl
abbrev fx(x:Int):Nat:=floatOfInt .f64 x
theorem R8{s d:TypeId}{x:Int}(hs:(P.underlying s).isSome=true)(hd:P.underlying d=some (.float .f64))(hk:holds P f I Q (k fun _=>{v:= .float .f64 (fx x)}) h):holds P f I Q (.rdn (KN s d (.int .i64 x)) (.one (.sc .v)) k) h:=by
 refine k8 (fun _=>{v:= .float .f64 (fx x)}) ?_ hk
 refine iq ?_
 unfold convert
 obtain⟨u,hu⟩:=Option.isSome_iff_exists.1 hs
 refine aB (ap hu) (aB (ap hd) ?_)
 cases u<;>rfl
theorem SE{s d:TypeId}{x:Int}(hs:(P.underlying s).isSome=true)(hd:P.underlying d=some (.int .i64))(h0:0≤x)(h1:x≤2000000000)(hk:holds P f I Q (k fun _=>{i:=x}) h):holds P f I Q (.rdn (KN s d (.float .f64 (fx x))) (.one (.sc (.int .i64))) k) h:=by
 refine k8 (fun _=>{i:=x}) ?_ hk
 refine iq ?_
 unfold convert
 obtain⟨u,hu⟩:=Option.isSome_iff_exists.1 hs
 refine aB (ap hu) (aB (ap hd) ?_)
 obtain⟨a,rfl⟩:=Int.eq_ofNat_of_zero_le h0
 have hb:=Fl.back_exact a (by have:(2:Nat)^50=1125899906842624:=rfl;omega)
 have key:rwp P I h (Conv.floatToInt .f64 (fx (a:Int)) .i64) (fun v=>Next.value v= .value (.int .i64 (a:Int))):=by
  unfold floatToIntVal at hb
  unfold Conv.floatToInt
  cases hd:(FloatKind.f64.decode (fx (a:Int))).toInt .zero with
  |none=>rw[hd]at hb;cases hb
  |some n=>
   rw[hd]at hb
   simp only at hb⊢
   split at hb
   ·rename_i hr
    injection hb with hb
    subst hb
    rw[if_pos hr]
    rfl
   ·cases hb
 cases u<;>exact key
theorem Sr{t:TypeId}{a b c d:Int}(a0:0≤a∧a≤1000000000)(b0:0≤b∧b≤1000000000)(c0:0≤c∧c≤1000000000)(d0:0≤d∧d≤1000000000)
  (hk:holds P f I Q (k fun _=>{v:= .complex .f64 (fx (a+c)) (fx (b+d))}) h):holds P f I Q (.rdn (D6 .add t (.complex .f64 (fx a) (fx b)) (.complex .f64 (fx c) (fx d))) (.one (.sc .v)) k) h:=by
 refine k8 (fun _=>{v:= .complex .f64 (fx (a+c)) (fx (b+d))}) ?_ hk
 unfold D6
 refine iq ?_
 refine aB (a:=()) rfl ?_
 obtain⟨a,rfl⟩:=Int.eq_ofNat_of_zero_le a0.1
 obtain⟨b,rfl⟩:=Int.eq_ofNat_of_zero_le b0.1
 obtain⟨c,rfl⟩:=Int.eq_ofNat_of_zero_le c0.1
 obtain⟨d,rfl⟩:=Int.eq_ofNat_of_zero_le d0.1
 have p50:(2:Nat)^50=1125899906842624:=rfl
 have h1:=Fl.add_exact a c (by omega) (by omega)
 have h2:=Fl.add_exact b d (by omega) (by omega)
 show rwp P I h (Op.complexOp .add .f64 (fx (a:Int)) (fx (b:Int)) (fx (c:Int)) (fx (d:Int))) _
 have key: ∀a c:Nat,a<2^50→c<2^50→Op.Complex.arith .add .f64 (fx (a:Int)) (fx (c:Int))=pure (fx ((a:Int)+(c:Int))):=by
  intro a c ha hc
  have h1:FloatKind.f64.format.add (fx (a:Int)) (fx (c:Int))=some (fx ((a+c:Nat):Int)):=Fl.add_exact a c ha hc
  rw[Int.natCast_add]at h1
  unfold Op.Complex.arith Op.floatArith
  simp only[pure_bind,h1]
 unfold Op.complexOp
 simp only[key a c (by omega) (by omega),key b d (by omega) (by omega),pure_bind]
 rfl
theorem Sw{t ty:TypeId}{cons:Array Bool}{a b:Nat}(hk:holds P f I Q (k fun _=>{v:= .float .f64 a}) h):holds P f I Q (.rdn (builtin .real #[t] ty cons #[.complex .f64 a b]) (.one (.sc .v)) k) h:=
 k8 (fun _=>{v:= .float .f64 a}) (show rwp P I h (builtin .real #[t] ty cons #[.complex .f64 a b]) _ from rfl) hk
theorem Sd{t ty:TypeId}{cons:Array Bool}{a b:Nat}(hk:holds P f I Q (k fun _=>{v:= .float .f64 b}) h):holds P f I Q (.rdn (builtin .imag #[t] ty cons #[.complex .f64 a b]) (.one (.sc .v)) k) h:=
 k8 (fun _=>{v:= .float .f64 b}) (show rwp P I h (builtin .imag #[t] ty cons #[.complex .f64 a b]) _ from rfl) hk
theorem Mx{t t2 ty:TypeId}{cons:Array Bool}{a b:Nat}(hk:holds P f I Q (k fun _=>{v:= .complex .f64 a b}) h):holds P f I Q (.rdn (builtin .complex #[t,t2] ty cons #[.float .f64 a,.float .f64 b]) (.one (.sc .v)) k) h:=
 k8 (fun _=>{v:= .complex .f64 a b}) (show rwp P I h (builtin .complex #[t,t2] ty cons #[.float .f64 a,.float .f64 b]) _ from rfl) hk
end
section
variable {I:Ctx}
theorem rC{x m:Int}:Fn Tryz.prog 300 #[.int .i64 x,.int .i64 m] I [] (fun v h'=>v= .int .i64 (clI x m)∧h'=[]):=
 BW _ _ (aC ⟨rfl,rfl⟩)
abbrev R0(v:Vec):Value:= .complex .f64 (fx (clI v.d 16777216)) (fx (clI v.p 100))
theorem Dp{v:Vec}:Fn Tryz.prog 299 #[v.V] I [] (fun x h'=>x=R0 v∧h'=[]):=by
 refine CQ _ _ _ ?_
 refine aP fun _ _ _=>?_;dsimp only[ag];refine ldI mE rE kE ?_;dsimp only[ag]
 refine Fm (fun _=>{i:=clI v.d 16777216}) jl kE (fun h hl=>rC) rfl ?_
 refine R8 rfl rfl ?_
 refine ldI mE rE kE ?_;dsimp only[ag]
 refine Fm (fun _=>{i:=clI v.p 100}) jl kE (fun h hl=>rC) rfl ?_
 refine R8 rfl rfl ?_
 refine Mx ?_
 exact aC ⟨rfl,rfl⟩
theorem Nq{v l:Vec}:Fn Tryz.prog 292 #[v.V,l.V] I [] (fun x h'=>x=(DU v l).V∧h'=[]):=by
 have h1:=IS (x:=v.d) (m:=16777216) (by omega)
 have h2:=IS (x:=v.p) (m:=100) (by omega)
 have h3:=IS (x:=l.d) (m:=16777216) (by omega)
 have h4:=IS (x:=l.p) (m:=100) (by omega)
 refine EY _ _ _ _ _ _ ?_
 refine aP fun _ _ _=>?_;dsimp only[ag];refine aP fun _ _ _=>?_;dsimp only[ag];refine aP fun _ _ _=>?_;dsimp only[ag];refine la4 mE rE kE ?_;dsimp only[ag];refine la4 mE rE kE ?_;dsimp only[ag]
 refine aA (v:=R0 v) (fun _=>{v:=R0 v}) si (fun hl=>Dp) rfl ?_
 refine pnA mE rE kE ?_;dsimp only[ag]
 refine aA (v:=R0 l) (fun _=>{v:=R0 l}) si (fun hl=>Dp) rfl ?_
 refine Sr (by omega) (by omega) (by omega) (by omega) ?_
 refine ldI mE rE kE ?_;dsimp only[ag];refine ldI mE rE kE ?_;dsimp only[ag]
 refine Sw ?_
 refine SE rfl rfl (by omega) (by omega) ?_
 refine Fm (fun _=>{i:=clI (clI v.d 16777216+clI l.d 16777216) 16777216}) jl kE (fun h hl=>rC) rfl ?_
 refine Sd ?_
 refine SE rfl rfl (by omega) (by omega) ?_
 refine Fm (fun _=>{i:=clI (clI v.p 100+clI l.p 100) 100}) jl kE (fun h hl=>rC) rfl ?_
 refine stU uE kE rE vE ?_;dsimp only[ag];refine lv4 mE rE kE ?_;dsimp only[ag]
 exact aC ⟨rfl,rfl⟩
theorem lI{v:Vec}:Fn Tryz.prog 293 #[v.V] I [] (fun x h'=>x= .bool (gd v)∧h'=[]):=by
 refine AO _ _ _ ?_
 refine aP fun _ _ _=>?_;dsimp only[ag];refine la4 mE rE kE ?_;dsimp only[ag]
 refine aA (fun _=>{b:=lO v}) rz (fun hl=>Co) rfl ?_
 unfold gd
 refine ay (fun t=>?_) (fun t=>?_)
 ·refine ldI mE rE kE ?_;dsimp only[ag]
  refine ay (fun t2=>?_) (fun t2=>?_)
  ·refine ldI mE rE kE ?_;dsimp only[ag]
   rw[show lO v=true from t,t2]
   exact aC ⟨rfl,rfl⟩
  ·rw[t2]
   exact aC ⟨by simp,rfl⟩
 ·rw[show lO v=false from t]
  exact aC ⟨rfl,rfl⟩
theorem wT{v:Vec}:Fn Tryz.prog 287 #[v.V] I [] (fun x h'=>x= .int .i64 (ofV v)∧h'=[]):=by
 refine HN _ _ _ ?_
 refine aP fun _ _ _=>?_;dsimp only[ag];refine la4 mE rE kE ?_;dsimp only[ag]
 refine aA (fun _=>{b:=gd v}) gc (fun hl=>lI) rfl ?_
 dsimp only
 unfold ofV
 refine ay (fun t=>?_) (fun t=>?_)
 ·rw[if_neg (by simpa using t)]
  exact aC ⟨rfl,rfl⟩
 ·have t:gd v=true:=by simpa using t
  have h1:=KT (GD t)
  have h2:=NV h1.1.1
  rw[if_pos t]
  refine ldI mE rE kE ?_;dsimp only[ag]
  refine S8 (by omega) ?_
  refine ldI mE rE kE ?_;dsimp only[ag]
  rw[cr (x:=Int.tdiv 10000000 v.b) (by omega),cr (x:=Int.tdiv 10000000 v.b+v.d) (by omega),cr (x:=256*(Int.tdiv 10000000 v.b+v.d)) (by omega)]
  exact aC ⟨rfl,rfl⟩
theorem Da{a b:Vec}:Fn Tryz.prog 301 #[a.V,b.V] I [] (fun x h'=>x= .bool (Fq a b)∧h'=[]):=by
 refine Dj _ _ _ _ _ _ ?_
 refine aP fun _ _ _=>?_;dsimp only[ag];refine aP fun _ _ _=>?_;dsimp only[ag];refine la4 mE rE kE ?_;dsimp only[ag];refine la4 mE rE kE ?_;dsimp only[ag]
 refine aA (fun _=>{i:=ofV a}) iu (fun hl=>wT) rfl ?_
 refine pnA mE rE kE ?_;dsimp only[ag]
 refine aA (fun _=>{i:=ofV b}) iu (fun hl=>wT) rfl ?_
 dsimp only
 unfold Fq
 refine ay (fun t=>?_) (fun t=>?_)
 ·rw[t]
  exact aC ⟨rfl,rfl⟩
 ·rw[t]
  refine ay (fun t2=>?_) (fun t2=>?_)
  ·rw[t2]
   refine ldI mE rE kE ?_;dsimp only[ag];refine ldI mE rE kE ?_;dsimp only[ag]
   exact aC ⟨rfl,rfl⟩
  ·rw[t2]
   exact aC ⟨rfl,rfl⟩
def Ht(tag dom:Int):Bool:=(decide (dom≥0)&&decide (dom<16))&&(oh .and .u16 (tag.fdiv (2^(min dom.toNat 16))) 1==1)
theorem Nr(dom:Int):Ht 0 dom=false:=by
 unfold Ht
 rw[Int.zero_fdiv]
 simp only[Bool.and_eq_false_iff]
 right
 rfl
theorem Mi{d:Int}:Fn Tryz.prog 135 #[.int .i64 d] I [] (fun x h'=>x= .bool (decide (d≥0)&&decide (d<16))∧h'=[]):=by
 refine KJ _ ?_
 refine ay (fun t=>?_) (fun t=>?_)
 ·rw[t]
  exact aC ⟨rfl,rfl⟩
 ·rw[t]
  exact aC ⟨rfl,rfl⟩
theorem I0{tag d:Int}:Fn Tryz.prog 122 #[.int .u16 tag,.int .i64 d] I [] (fun x h'=>x= .bool (Ht tag d)∧h'=[]):=by
 refine K6 _ _ ?_
 refine aA (fun _=>{b:=decide (d≥0)&&decide (d<16)}) HM (fun hl=>Mi) rfl ?_
 dsimp only
 unfold Ht
 refine ay (fun t=>?_) (fun t=>?_)
 ·have t':d≥0∧d<16:=by simpa using t
  refine Qk (by omega) ?_
  rw[t]
  exact aC ⟨rfl,rfl⟩
 ·rw[t]
  exact aC ⟨rfl,rfl⟩
end
structure Way where
 v:Vec
 tag:Int
 next:Int
instance:DecidableEq Way:=fun a b=>by
 cases a;cases b
 simp only[Way.mk.injEq]
 infer_instance
structure di where
 p:Int×Int
 own:Option Way
 rep:List (Int×Way)
 told:Way
 least:Int
 opn:List (Int×Int)
structure Lnk where
 v:Vec
 sent:Int
 got:Int
structure ao where
 dom:Int
 most:Int
 links:List (Int×Lnk)
 pre:List ((Int×Int)×di)
structure Ltr where
 to:Int
 code:Int
 seq:Int
 ack:Int
 p:Int×Int
 v:Vec
 tag:Int
abbrev G5:Vec:=⟨0,0,0⟩
abbrev fe:Way:=⟨G5,0,0⟩
abbrev Way.C(w:Way):List Value:=[.int .i64 w.v.b,.int .i64 w.v.d,.int .i64 w.v.p,.int .u16 w.tag,.int .i64 w.next]
abbrev Way.V(w:Way):Value:= .agg #[.int .i64 w.v.b,.int .i64 w.v.d,.int .i64 w.v.p,.int .u16 w.tag,.int .i64 w.next]
abbrev Ltr.C(l:Ltr):List Value:=[.int .i64 l.to,.int .i64 l.code,.int .u32 l.seq,.int .u32 l.ack,.int .u32 l.p.1,.int .i64 l.p.2,.int .i64 l.v.b,.int .i64 l.v.d,.int .i64 l.v.p,.int .u16 l.tag]
abbrev Ltr.V(l:Ltr):Value:= .agg #[.int .i64 l.to,.int .i64 l.code,.int .u32 l.seq,.int .u32 l.ack,.int .u32 l.p.1,.int .i64 l.p.2,.int .i64 l.v.b,.int .i64 l.v.d,.int .i64 l.v.p,.int .u16 l.tag]
def vK(d:ao)(x:di)(below:Int)(r:Option Way):Prop:=
 (r=none→x.own=none)∧ ∀w,r=some w→x.own=some w∨ ∃k l rp,ah d.links k=some l∧ah x.rep k=some rp∧ofV rp.v<below∧w=⟨DU rp.v l.v,rp.tag,k⟩∧gd w.v=true
def aW(l:Lnk):Lnk:={l with sent:=(l.sent+1)%4294967296}
def cC(d:ao)(k:Int):Int:=match ah d.links k with|some l=>(aW l).sent|none=>0
def dX(d:ao)(x:di)(w:Way)(ks:List Int):di:=
 {x with told:=w,opn:=if ofV w.v>ofV x.told.v then ks.map fun k=>(k,cC d k)else[],least:=if d.links.length=0 then ofV w.v else if ofV w.v>ofV x.told.v then x.least else if ofV w.v<x.least then ofV w.v else x.least}
def g9(d:ao)(x:di)(w:Way)(ks:List Int):List Ltr:=ks.map fun k=>⟨k,if ofV w.v>ofV x.told.v then 2 else 1,cC d k,0,x.p,w.v,w.tag⟩
def ju(p:Int×Int)(d d':ao)(ls:List Ltr):Prop:= ∃x r,ah d.pre p=some x∧vK d x 4294967295 r∧
 ((x.opn.length>0∨({r.getD fe with next:=0}:Way)=x.told)∧d'=d∧ls=[]∨
  ¬(x.opn.length>0∨({r.getD fe with next:=0}:Way)=x.told)∧ ∃ks,ks.Perm (am d.links)∧
   d'={d with links:=mpv aW d.links,pre:=aL d.pre p (dX d x {r.getD fe with next:=0} ks)}∧ls=g9 d x {r.getD fe with next:=0} ks)
def gi(x:di)(k:Int):di:=
 match ah x.opn k with
 |none=>x
 |some _=>{x with opn:=dq x.opn k,least:=if(dq x.opn k).length=0 then ofV x.told.v else x.least}
def L8(p:Int×Int):di:=⟨p,none,[],fe,4294967295,[]⟩
def sH(d:ao)(p:Int×Int):ao:=if ah d.pre p=none∧(d.pre.length:Int)<d.most then {d with pre:=aL d.pre p (L8 p)}else d
def ld(step:Int×Int→ao→ao→List Ltr→Prop):List (Int×Int)→ao→ao→List Ltr→Prop
 |[],d,d',ls=>d'=d∧ls=[]
 |p::ps,d,d',ls=> ∃d1 l1 l2,step p d d1 l1∧ld step ps d1 d' l2∧ls=l1++l2
theorem ld.snoc{step:Int×Int→ao→ao→List Ltr→Prop}: ∀{ps:List (Int×Int)} {p:Int×Int} {d d1 d':ao} {l1 l2:List Ltr},ld step ps d d1 l1→step p d1 d' l2→ld step (ps++[p]) d d' (l1++l2)
 |[],p,d,d1,d',l1,l2,⟨e1,e2⟩,h=>by subst e1;subst e2;exact⟨d',l2,[],h,⟨rfl,rfl⟩,by simp⟩
 |q::ps,p,d,d1,d',l1,l2,⟨d2,m1,m2,h1,h2,e⟩,h=>by subst e;exact⟨d2,m1,m2++l2,h1,h2.snoc h,by rw[List.append_assoc]⟩
def wi(k:Int)(p:Int×Int)(d d':ao)(ls:List Ltr):Prop:= ∃x,ah d.pre p=some x∧
 if gd x.told.v=true then∃l,ah d.links k=some l∧d'={d with links:=aL d.links k (aW l)}∧ls=[⟨k,1,(aW l).sent,0,x.p,x.told.v,x.told.tag⟩]else d'=d∧ls=[]
def UpR(k:Int)(v:Vec)(d d':ao)(ls:List Ltr):Prop:=
 if k<1∨k>32∨ah d.links k≠none∨lO v=false then d'=d∧ls=[]
 else∃ps,ps.Perm (am d.pre)∧ld (wi k) ps {d with links:=aL d.links k ⟨v,0,0⟩} d' ls
def ln(k:Int)(p:Int×Int)(d d':ao)(ls:List Ltr):Prop:= ∃x,ah d.pre p=some x∧
 ju p {d with pre:=aL d.pre p (gi {x with rep:=dq x.rep k} k)} d' ls
def DK(k:Int)(d d':ao)(ls:List Ltr):Prop:=
 if ah d.links k=none then d'=d∧ls=[]else∃ps,ps.Perm (am d.pre)∧ld (ln k) ps {d with links:=dq d.links k} d' ls
def GP(p:Int×Int)(v:Vec)(tag:Int)(d d':ao)(ls:List Ltr)(e:Int):Prop:=
 if ov p.1.toNat p.2=false∨gd v=false then d'=d∧ls=[]∧e=1
 else if Ht tag d.dom=true then d'=d∧ls=[]∧e=6
 else match ah (sH d p).pre p with
  |none=>d'=d∧ls=[]∧e=4
  |some x=>e=0∧ju p {sH d p with pre:=aL (sH d p).pre p {x with own:=some ⟨v,tag,0⟩}} d' ls
def zQ(p:Int×Int)(d d':ao)(ls:List Ltr)(e:Int):Prop:=
 match ah d.pre p with
 |none=>d'=d∧ls=[]∧e=5
 |some x=>if x.own=none then d'=d∧ls=[]∧e=5 else e=0∧ju p {d with pre:=aL d.pre p {x with own:=none}} d' ls
def eo(k:Int)(p:Int×Int)(v:Vec)(tag:Int)(d:ao):ao:=
 let fine:= !Ht tag d.dom&&gd v
 let d1:=if fine then sH d p else d
 match ah d1.pre p with
 |none=>d1
 |some x=>{d1 with pre:=aL d1.pre p {x with rep:=if fine then aL x.rep k ⟨v,tag,0⟩else dq x.rep k}}
def mH(d:ao)(p:Int×Int):Way:=match ah d.pre p with|some x=>x.told|none=>fe
def vq(k:Int)(l:Ltr)(d d':ao)(ls:List Ltr):Prop:=
 match ah d.links k with
 |none=>d'=d∧ls=[]
 |some f=>
  if l.code<1∨l.code>3∨ov l.p.1.toNat l.p.2=false∨l.seq≤f.got then d'=d∧ls=[]
  else
   let d1:=eo k l.p l.v l.tag {d with links:=aL d.links k {f with got:=l.seq}}
   let told:=mH d1 l.p
   let f1:Lnk:={f with got:=l.seq}
   let d2:=if l.code=2 then {d1 with links:=aL d1.links k (aW f1)}else d1
   let ls1:List Ltr:=if l.code=2 then[⟨k,3,(aW f1).sent,l.seq,l.p,told.v,told.tag⟩]else[]
   match ah d2.pre l.p with
   |none=>d'=d2∧ls=ls1
   |some x=> ∃ls2,ju l.p {d2 with pre:=aL d2.pre l.p (if l.code=3∧ah x.opn k=some l.ack then gi x k else x)} d' ls2∧ls=ls1++ls2
def jO(d:ao)(x:di)(ks:List Int):di:={x with opn:=x.opn.map fun q=>(q.1,if q.1∈ks then cC d q.1 else q.2)}
def uV(p:Int×Int)(d d':ao)(ls:List Ltr):Prop:= ∃x ks,ah d.pre p=some x∧ks.Perm (am x.opn)∧
 d'={d with links:=d.links.map (fun q=>(q.1,if q.1∈ks then aW q.2 else q.2)),pre:=aL d.pre p (jO d x ks)}∧
 ls=ks.map fun k=>⟨k,2,cC d k,0,x.p,x.told.v,x.told.tag⟩
def Ju(d d':ao)(ls:List Ltr):Prop:= ∃ps,ps.Perm (am d.pre)∧ld uV ps d d' ls
structure Rt where
 p:Int×Int
 dom:Int
 dist:Int
 met:Int
 next:Int
 tag:Int
abbrev Rt.C(r:Rt):List Value:=[.int .u32 r.p.1,.int .i64 r.p.2,.int .i64 r.dom,.int .i64 r.dist,.int .i64 r.met,.int .i64 r.next,.int .u16 r.tag]
abbrev Rt.V(r:Rt):Value:= .agg #[.int .u32 r.p.1,.int .i64 r.p.2,.int .i64 r.dom,.int .i64 r.dist,.int .i64 r.met,.int .i64 r.next,.int .u16 r.tag]
def SQ(x:Lnk)(b:Nat)(m:Mem):Prop:=m=[(b,.cells #[.int .i64 x.v.b,.int .i64 x.v.d,.int .i64 x.v.p,.int .u32 x.sent,.int .u32 x.got] 417 (0,0))]
def S5(w:Option Way)(A:Option Addr)(m:Mem):Prop:=match w with
 |none=>A=none∧m=[]
 |some w=> ∃g,A=some ⟨g,0,none⟩∧m=[(g,.cells ⟨w.C⟩ 400 (0,0))]
abbrev knC(x:di)(A:Option Addr)(r o:Nat):Array Value:=
 #[.int .u32 x.p.1,.int .i64 x.p.2,.pointer A,.map (some r),.int .i64 x.told.v.b,.int .i64 x.told.v.d,.int .i64 x.told.v.p,.int .u16 x.told.tag,.int .i64 x.told.next,.int .i64 x.least,.map (some o)]
def KnM(x:di)(b:Nat)(m:Mem):Prop:= ∃A r o ro oo mo,m=(b,.cells (knC x A r o) 407 (0,0))::(r,ro)::(o,oo)::mo∧ky yr Way.V x.rep ro∧ky yr (Value.int .u32) x.opn oo∧S5 x.own A mo
structure DAd where
 b:Nat
 L:Nat
 P:Nat
 lk:List (Int×Nat)
 pk:List ((Int×Int)×Nat)
abbrev duC(d:ao)(a:DAd)(A:Option Addr)(n c:Nat):Array Value:=#[.int .i64 d.dom,.int .i64 d.most,.map (some a.L),.map (some a.P),.slice A n c]
def DuX(d:ao)(out:List Ltr)(a:DAd)(lo po:Obj)(m:Mem):Prop:= ∃A c ml mp mo,
 m=(a.b,.cells (duC d a A out.length c) 204 (0,0))::(a.L,lo)::(a.P,po)::(ml++(mp++mo))∧ky yr ptV a.lk lo∧pQ SQ d.links a.lk ml∧ky BR ptV a.pk po∧pQ KnM d.pre a.pk mp∧Own 171 10 A out.length c (out.flatMap Ltr.C) mo
def DuM(d:ao)(out:List Ltr)(a:DAd)(m:Mem):Prop:= ∃lo po,DuX d out a lo po m
theorem DuX.nd{d:ao}{out:List Ltr}{a:DAd}{lo po:Obj}{m:Mem}(h:DuX d out a lo po m):(am d.links).Nodup∧(am d.pre).Nodup∧am a.lk=am d.links∧am a.pk=am d.pre:=by
 obtain⟨A,c,ml,mp,mo,_,h1,h2,h3,h4,_⟩:=h
 have e1:=h2.keys
 have e2:=h4.keys
 exact⟨e1▸h1.nd,e2▸h3.nd,e1,e2⟩
def AtD(a:DAd)(I:Ctx)(m:Mem):Prop:= ∃c0 c1 c4 fz,Has I m a.b (.cells #[c0,c1,.map (some a.L),.map (some a.P),c4] 204 fz)
theorem DuX.at{d:ao}{out:List Ltr}{a:DAd}{lo po:Obj}{m:Mem}(h:DuX d out a lo po m)(I:Ctx):AtD a I m∧Has I m a.L lo∧Has I m a.P po:=by
 obtain⟨A,c,ml,mp,mo,rfl,_⟩:=h
 exact⟨⟨_,_,_,_,.inl mq0⟩,.inl (mq1 mq0),.inl (mq1 (mq1 mq0))⟩
theorem AtD.mono{a:DAd}{I I':Ctx}{m m':Mem}(h:AtD a I m)(hm: ∀x∈m,x∈m')(hI: ∀b o,I b=some o→I' b=some o):AtD a I' m':=by
 obtain⟨c0,c1,c4,fz,h⟩:=h
 exact⟨c0,c1,c4,fz,h.elim (fun h=> .inl (hm _ h)) (fun h=> .inr (hI _ _ h))⟩
theorem Has.up{I I':Ctx}{m m':Mem}{b:Nat}{o:Obj}(h:Has I m b o)(hm: ∀x∈m,x∈m')(hI: ∀b o,I b=some o→I' b=some o):Has I' m' b o:=h.elim (fun h=> .inl (hm _ h)) (fun h=> .inr (hI _ _ h))
theorem Cf{h m z:Mem}(p:h.Perm (m++z)): ∀x∈m,x∈h:=fun x hx=>p.mem_iff.2 (List.mem_append_left _ hx)
theorem Sj{I:Ctx}{h:Mem}{A:Option Addr}{cs:List Value}{i:Nat}{v:Value}(hr:RdC I h A cs)(hv:cs[i]? =some v): ∃a,A=some a∧bh I h (a.add i) v:=by
 obtain⟨a,h1,h2⟩:=hr (fun e=>by rw[e]at hv;cases hv)
 exact⟨a,h1,h2 i v hv⟩
theorem Na{ks:List Int}{i:Nat}{k:Int}(h:ks[i]? =some k):(ks.flatMap (fun k=>[Value.int .i64 k]))[i]? =some (.int .i64 k):=by
 rw[H8,List.getElem?_map,h];rfl
theorem Jp{ks:List (Int×Int)}{i:Nat}{k:Int×Int}(h:ks[i]? =some k): ∀q v,(pfC k)[q]? =some v→(ks.flatMap pfC)[i*2+q]? =some v:=by
 have key: ∀(ks:List (Int×Int)) (i:Nat),ks[i]? =some k→ ∀q v,(pfC k)[q]? =some v→(ks.flatMap pfC)[i*2+q]? =some v:=by
  intro ks
  induction ks with
  |nil=>intro i h;simp at h
  |cons a ks ih=>
   intro i h q v hq
   have hq2:q<2:=by have:=(List.getElem?_eq_some_iff.1 hq).1;simpa using this
   rw[List.flatMap_cons]
   cases i with
   |zero=>
    simp only[List.getElem?_cons_zero,Option.some.injEq]at h
    subst h
    rw[List.getElem?_append_left (by simp;omega),Nat.zero_mul,Nat.zero_add]
    exact hq
   |succ i=>
    rw[List.getElem?_cons_succ]at h
    rw[List.getElem?_append_right (by simp;omega)]
    have:=ih i h q v hq
    rw[show(i+1)*2+q - (pfC a).length=i*2+q by simp;omega]
    exact this
 exact key ks i h
theorem ep{κ:Type}{ks keys:List κ}{i:Nat}{k:κ}(hp:ks.Perm keys)(hk:ks[i]? =some k):(ks.take i++k::ks.drop (i+1)).Perm keys∧ks.take (i+1)=ks.take i++[k]:=by
 obtain⟨hlt,rfl⟩:=List.getElem?_eq_some_iff.1 hk
 refine⟨?_,List.take_succ_eq_append_getElem hlt⟩
 rw[←List.drop_eq_getElem_cons hlt,List.take_append_drop]
 exact hp
def AtL(a:DAd)(lo:Obj)(I:Ctx)(m:Mem):Prop:=AtD a I m∧Has I m a.L lo
def AtP(a:DAd)(po:Obj)(I:Ctx)(m:Mem):Prop:=AtD a I m∧Has I m a.P po
theorem QK{I':Ctx}{L g0:Nat}{r:Loop}{a:DAd}{lo:Obj}{t:TypeId}{fz:Nat×Nat}{J:List Int→Mem→Prop}(hg:I' g0=some (.cells #[ptV a.b] t fz))(hlo:ky yr ptV a.lk lo)(hlen:r.params.size=2)
  (hst: ∀done m,J done m→AtL a lo I' m∧(L,Obj.loop r)∈m)
  (hr: ∀done k rest m,(done++k::rest).Perm (am a.lk)→J done m→ ∀I'',(∀b o,I' b=some o→I'' b=some o)→
   bU Tryz.prog L r.fn ((r.params.zip ⟨[.int .i64 k,ptV ((ah a.lk k).getD 0)]⟩).foldl (fun tmps (t,a)=>tmps.setIfInBounds t a) r.tmps) r.assign r.body I'' m (cl_ fun v m'=>v= .bool true∧J (done++[k]) m'))
  {ks:List Int}(hks:ks.Perm (am a.lk))(hbd:ks.length≤1000000){A:Option Addr}{c:Nat}:
  ∀(n i:Nat) (m hx h:Mem) (u:Nat→Value),i+n=ks.length→J (ks.take i) m→(∀I,RdC I hx A (ks.flatMap fun k=>[Value.int .i64 k]))→h.Perm (m++hx)→
  Wp Tryz.prog 296 cA (cB (.func (.yield L) #[] #[]) g0 A ks.length c ks.length i u) I' h (cl_ fun _ m'=> ∃ks,ks.Perm (am a.lk)∧J ks m'):=by
 intro n
 induction n with
 |zero=>
  intro i m hx h u hi hj hrd hp
  refine gS _ _ _ _ _ _ _ _ ?_
  refine b7 (by simp;omega) ?_
  rw[List.take_of_length_le (by omega)]at hj
  exact aY hp ⟨ks,hks,hj⟩
 |succ n ih=>
  intro i m hx h u hi hj hrd hp
  have hlt:i<ks.length:=by omega
  obtain⟨k,hk⟩: ∃k,ks[i]? =some k:=⟨_,List.getElem?_eq_getElem hlt⟩
  obtain⟨hper,htk⟩:=ep hks hk
  obtain⟨ad,rfl,hcell⟩:=Sj (hrd I') (Na hk)
  obtain⟨⟨hat,hlm⟩,hL⟩:=hst _ _ hj
  have hmh:=Cf hp
  have hxh: ∀x∈hx,x∈h:=fun x hx'=>hp.mem_iff.2 (List.mem_append_right _ hx')
  obtain⟨c0,c1,c4,fz2,hab⟩:=hat.mono hmh (fun _ _ h=>h)
  have hkk:k∈am a.lk:=hks.mem_iff.1 (List.mem_of_getElem? hk)
  obtain⟨b,hb⟩:=Option.isSome_iff_exists.1 (aO.2 hkk)
  refine gS _ _ _ _ _ _ _ _ ?_
  refine aX (by simp;omega) ?_
  refine aI ad rfl (sz:=1) kE (by omega) (by omega) rfl ?_
  dsimp only
  rw[Int.toNat_natCast,Nat.mul_one]
  refine aZ kE (hcell.mono hxh) ?_
  refine ub kE ⟨rfl,_,_,_,.inr hg,rfl⟩ ?_
  refine dH ?_
  dsimp only
  refine nt kE ⟨rfl,_,_,_,hab,rfl⟩ ?_
  dsimp only
  refine dZ E1 rfl kZ (hlm.up hmh (fun _ _ h=>h)) hlo (x:=k) (ok:=false) (fun _=>{A:=some ⟨b,0,none⟩}) (by rw[hb];rfl) ?_
  dsimp only
  have hrd2:=hr _ _ _ m hper hj
  rw[hb]at hrd2
  refine ne m hx (.inl (hmh _ hL)) hlen.symm hp (fun hl=>hrd2 _ (fK hl hp)) ?_
  rintro v h1 ⟨h2,gg,hpg,rfl,hj2⟩
  refine⟨fun _=>{b:=true},rfl,?_⟩
  refine b7 rfl ?_
  refine aj fun _ hl=>?_
  rw[dT (by omega)]
  refine ih (i+1) h2 (gg++hx) _ _ (by omega) (by rw[htk];exact hj2) (fun I=>?_) ?_
  ·intro hne
   obtain⟨a2,e1,e2⟩:=hrd I hne
   exact⟨a2,e1,fun j v hv=>(e2 j v hv).mono (fun x hx'=>List.mem_append_right _ hx')⟩
  ·rw[←List.append_assoc]
   exact hpg.append_right _
theorem L9{I:Ctx}{g0:Nat}{a:DAd}{lo:Obj}{t:TypeId}{fz:Nat×Nat}(hg:I g0=some (.cells #[ptV a.b] t fz))(hlo:ky yr ptV a.lk lo)(hbd:a.lk.length≤1000000):
  iJ Tryz.prog 296 [ptV g0] I (AtL a lo) (fun k=>[.int .i64 k,ptV ((ah a.lk k).getD 0)]) (am a.lk):=by
 intro I' hI L r J m hn hS hr hJ
 have hlen:r.params.size=2:=(hn 0).symm
 obtain⟨⟨hat,hlm⟩,hL⟩:=hS _ _ hJ
 obtain⟨c0,c1,c4,fz2,hab⟩:=hat
 refine o8 _ _ ?_
 refine ub kE ⟨rfl,_,_,_,.inr (hI _ _ hg),rfl⟩ ?_
 refine dH ?_
 dsimp only
 refine nt kE ⟨rfl,_,_,_,hab,rfl⟩ ?_
 dsimp only
 refine ak [] _ zG (List.Perm.refl _) (fun hl=>DW) ?_
 rintro v h1 ⟨g1,rfl,rfl⟩
 refine⟨fun _=>{v:= .func (.func 304) #[] #[ptV g1]},rfl,?_⟩
 dsimp only
 refine ak [] _ mf (List.Perm.refl _) (fun hl=>ut (caps:=[ptV g1]) (keys:=(mpv ptV a.lk).map (·.1)) uh (Dx (M:=a.L) (om:=lo) (aF hl (.inl mq0)) ?_ hlo) (by simpa using hbd)) ?_
 ·exact aF hl (hlm.up (fun x hx=>mq1 (by simpa using hx)) (fun _ _ h=>h))
 rintro v h2 ⟨A,c,ks,rfl,hper,ho⟩
 rw[mpv_keys]at hper
 refine⟨fun _=>{A:=A,n:=ks.length,c:=c},rfl,?_⟩
 refine aj fun _ hl=>?_
 have hkl:ks.length≤1000000:=by have:=hper.length_eq;simp at this;omega
 refine Wp.mono (QK (t:=t) (fz:=fz) (hI _ _ hg) hlo hlen hS hr hper hkl ks.length 0 m (h2++[(g1,.cells #[.map (some a.L)] 201 (0,0))]) _ _ (by omega) (by simpa using hJ) (fun I=>ho.rd fun x hx=>List.mem_append_left _ hx) ?_) fun _ _ hq=>cl_.of hq
 show(h2++(g1,Obj.cells #[.map (some a.L)] 201 (0,0))::m).Perm _
 exact cE
theorem HZ{I:Ctx}{b:Nat}:Fn Tryz.prog 291 #[ptV b] I [] (fun v h'=> ∃g,v= .func (.func 296) #[] #[ptV g]∧h'=[(g,.cells #[ptV b] 160 (0,0))]):=by
 refine tf _ ?_
 refine aP fun g hg hI=>?_
 exact aY (h1:=[(g,.cells #[ptV b] 160 (0,0))]) (g:=[]) (by simp[Value.cells]) ⟨g,rfl,rfl⟩
theorem OJ{I':Ctx}{L g0:Nat}{r:Loop}{a:DAd}{po:Obj}{t:TypeId}{fz:Nat×Nat}{J:List (Int×Int)→Mem→Prop}(hg:I' g0=some (.cells #[ptV a.b] t fz))(hpo:ky BR ptV a.pk po)(hlen:r.params.size=1)
  (hst: ∀done m,J done m→AtP a po I' m∧(L,Obj.loop r)∈m)
  (hr: ∀done k rest m,(done++k::rest).Perm (am a.pk)→J done m→ ∀I'',(∀b o,I' b=some o→I'' b=some o)→
   bU Tryz.prog L r.fn ((r.params.zip ⟨[ptV ((ah a.pk k).getD 0)]⟩).foldl (fun tmps (t,a)=>tmps.setIfInBounds t a) r.tmps) r.assign r.body I'' m (cl_ fun v m'=>v= .bool true∧J (done++[k]) m'))
  {ks:List (Int×Int)}(hks:ks.Perm (am a.pk))(hbd:ks.length≤1000000){A:Option Addr}{c:Nat}:
  ∀(n i:Nat) (m hx h:Mem) (u:Nat→Value),i+n=ks.length→J (ks.take i) m→(∀I,RdC I hx A (ks.flatMap pfC))→h.Perm (m++hx)→
  Wp Tryz.prog 288 fk (eZ (.func (.yield L) #[] #[]) g0 A ks.length c ks.length i u) I' h (cl_ fun _ m'=> ∃ks,ks.Perm (am a.pk)∧J ks m'):=by
 intro n
 induction n with
 |zero=>
  intro i m hx h u hi hj hrd hp
  refine lL _ _ _ _ _ _ _ _ ?_
  refine b7 (by simp;omega) ?_
  rw[List.take_of_length_le (by omega)]at hj
  exact aY hp ⟨ks,hks,hj⟩
 |succ n ih=>
  intro i m hx h u hi hj hrd hp
  have hlt:i<ks.length:=by omega
  obtain⟨k,hk⟩: ∃k,ks[i]? =some k:=⟨_,List.getElem?_eq_getElem hlt⟩
  obtain⟨hper,htk⟩:=ep hks hk
  obtain⟨ad,rfl,hcell⟩:=(hrd I') (fun e=>by have:=Jp hk 0 _ rfl;rw[e]at this;cases this)
  have hc2:df I' h (ad.add (i*2)) (pfC k):=fun q v hq=>by
   rw[add_add]
   exact(hcell _ v (Jp hk q v hq)).mono (fun x hx'=>hp.mem_iff.2 (List.mem_append_right _ hx'))
  obtain⟨⟨hat,hlm⟩,hL⟩:=hst _ _ hj
  have hmh:=Cf hp
  have hkk:k∈am a.pk:=hks.mem_iff.1 (List.mem_of_getElem? hk)
  obtain⟨b,hb⟩:=Option.isSome_iff_exists.1 (aO.2 hkk)
  refine lL _ _ _ _ _ _ _ _ ?_
  refine aX (by simp;omega) ?_
  refine aI ad rfl (sz:=2) kE (by omega) (by omega) rfl ?_
  dsimp only
  rw[Int.toNat_natCast]
  refine bL (cs:=pfC k) (ag [{i:=k.1},{i:=k.2}]) kE kE hc2 rfl ?_
  dsimp only[ag]
  refine aP fun _ _ _=>?_;dsimp only[ag]
  refine stU uE kE rE vE ?_
  obtain⟨c0,c1,c4,fz2,hab⟩:=hat.mono (fun x hx'=>mq1 (hmh x hx')) (fun _ _ h=>h)
  refine ub kE ⟨rfl,_,_,_,.inr hg,rfl⟩ ?_
  refine dH ?_
  dsimp only
  refine nt kE ⟨rfl,_,_,_,hab,rfl⟩ ?_
  dsimp only
  refine lz mE rE kE ?_;dsimp only[ag]
  refine dZ Qd rfl pg (hlm.up (fun x hx'=>mq1 (hmh x hx')) (fun _ _ h=>h)) hpo (x:=k) (ok:=false) (fun _=>{A:=some ⟨b,0,none⟩}) (by rw[hb];rfl) ?_
  dsimp only
  have hrd2:=hr _ _ _ m hper hj
  rw[hb]at hrd2
  refine ne m (_::hx) (.inl (mq1 (hmh _ hL))) hlen.symm ((hp.cons _).trans List.perm_middle.symm) (fun hl=>hrd2 _ (fK hl ((hp.cons _).trans List.perm_middle.symm))) ?_
  rintro v h1 ⟨h2,gg,hpg,rfl,hj2⟩
  refine⟨fun _=>{b:=true},rfl,?_⟩
  refine b7 rfl ?_
  refine aj fun _ hl=>?_
  rw[dT (by omega)]
  refine ih (i+1) h2 (gg++(_::hx)) _ _ (by omega) (by rw[htk];exact hj2) (fun I=>?_) (by rw[←List.append_assoc];exact hpg.append_right _)
  intro hne
  obtain⟨a2,e1,e2⟩:=hrd I hne
  exact⟨a2,e1,fun j v hv=>(e2 j v hv).mono (fun x hx'=>List.mem_append_right _ (mq1 hx'))⟩
theorem BC{I:Ctx}{g0:Nat}{a:DAd}{po:Obj}{t:TypeId}{fz:Nat×Nat}(hg:I g0=some (.cells #[ptV a.b] t fz))(hpo:ky BR ptV a.pk po)(hbd:a.pk.length≤1000000):
  iJ Tryz.prog 288 [ptV g0] I (AtP a po) (fun k=>[ptV ((ah a.pk k).getD 0)]) (am a.pk):=by
 intro I' hI L r J m hn hS hr hJ
 have hlen:r.params.size=1:=(hn (0,0)).symm
 obtain⟨⟨hat,hlm⟩,hL⟩:=hS _ _ hJ
 obtain⟨c0,c1,c4,fz2,hab⟩:=hat
 refine wG _ _ ?_
 refine ub kE ⟨rfl,_,_,_,.inr (hI _ _ hg),rfl⟩ ?_
 refine dH ?_
 dsimp only
 refine nt kE ⟨rfl,_,_,_,hab,rfl⟩ ?_
 dsimp only
 refine ak [] _ yj (List.Perm.refl _) (fun hl=>Dq) ?_
 rintro v h1 ⟨g1,rfl,rfl⟩
 refine⟨fun _=>{v:= .func (.func 295) #[] #[ptV g1]},rfl,?_⟩
 dsimp only
 refine ak [] _ nv (List.Perm.refl _) (fun hl=>wv (caps:=[ptV g1]) (keys:=(mpv ptV a.pk).map (·.1)) sS qF (C9 (M:=a.P) (om:=po) (aF hl (.inl mq0)) ?_ hpo) (by simpa using hbd) (fun x y=>pT)) ?_
 ·exact aF hl (hlm.up (fun x hx=>mq1 (by simpa using hx)) (fun _ _ h=>h))
 rintro v h2 ⟨A,c,ks,rfl,hper,ho⟩
 rw[mpv_keys]at hper
 refine⟨fun _=>{A:=A,n:=ks.length,c:=c},rfl,?_⟩
 refine aj fun _ hl=>?_
 have hkl:ks.length≤1000000:=by have:=hper.length_eq;simp at this;omega
 refine Wp.mono (OJ (t:=t) (fz:=fz) (hI _ _ hg) hpo hlen hS hr hper hkl ks.length 0 m (h2++[(g1,.cells #[.map (some a.P)] 202 (0,0))]) _ _ (by omega) (by simpa using hJ) (fun I=>ho.rd fun x hx=>List.mem_append_left _ hx) ?_) fun _ _ hq=>cl_.of hq
 show(h2++(g1,Obj.cells #[.map (some a.P)] 202 (0,0))::m).Perm _
 exact cE
theorem BD{I:Ctx}{b:Nat}:Fn Tryz.prog 285 #[ptV b] I [] (fun v h'=> ∃g,v= .func (.func 288) #[] #[ptV g]∧h'=[(g,.cells #[ptV b] 160 (0,0))]):=by
 refine C8 _ ?_
 refine aP fun g hg hI=>?_
 exact aY (h1:=[(g,.cells #[ptV b] 160 (0,0))]) (g:=[]) (by simp[Value.cells]) ⟨g,rfl,rfl⟩
end Go.Proofs.YtadanegddceleaaGreatS
