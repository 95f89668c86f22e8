import Derived.Test.YtadanegddceleaaGreatqam
import Derived.Test.YtadanegddceleaaGreatqav
set_option linter.unusedSimpArgs false
set_option linter.unusedVariables false
set_option maxRecDepth 20000
namespace Go.Proofs.YtadanegddceleaaGreatS
abbrev Pf:=Int×Int
abbrev INF:Int:=4294967295
structure Ak where
 lst:Pf→Int
 tld:Pf→Int
 rep:Pf→Int→Int
 opn:Pf→Int→Option Int
 lk:Int→Bool
 snt:Int→Int
 got:Int→Int
structure Lt where
 fr:Int
 to:Int
 code:Int
 seq:Int
 ack:Int
 p:Pf
 val:Int
structure Hm (A B:Ak) (Y X:Int) (L:Lt→Prop):Prop where
 a: ∀l,L l→l.fr=Y→l.to=X→B.got Y<l.seq→A.lst l.p≤l.val
 b: ∀p,A.lst p≤B.rep p Y
 c1: ∀p k,A.opn p k≠none→A.opn p X=none→A.tld p≤B.rep p Y
 c2: ∀l k,L l→l.fr=Y→l.to=X→B.got Y<l.seq→A.opn l.p k≠none→A.opn l.p X=none→A.tld l.p≤l.val
 d: ∀l n,L l→l.fr=Y→l.to=X→A.opn l.p X=some n→n≤l.seq→A.tld l.p≤l.val
 e: ∀l n,L l→l.fr=X→l.to=Y→l.code=3→A.opn l.p X=some n→l.ack=n→n≤B.got Y∧A.tld l.p≤B.rep l.p Y
 f1: ∀l,L l→l.fr=Y→l.to=X→l.seq≤A.snt X
 f2: ∀l,L l→l.fr=X→l.to=Y→l.ack≤A.snt X
 f3:B.got Y≤A.snt X
 f4: ∀p n,A.opn p X=some n→n≤A.snt X
structure Cir (E:Int→Int→Prop) (C:Int) (S:Int→Ak) (L:Lt→Prop):Prop where
 pair: ∀Y X,(S Y).lk X=true→(S X).lk Y=true→ ¬E Y X→Hm (S Y) (S X) Y X L
 self: ∀Y,(S Y).lk Y=false
 least: ∀Y p,(S Y).lst p≤(S Y).tld p
 inf: ∀Y p,(S Y).tld p≤INF
 opl: ∀Y p k,(S Y).opn p k≠none→(S Y).lk k=true∨E Y k
 repl: ∀Y p k,(S Y).rep p k≠INF→(S Y).lk k=true∨E Y k
 nolet: ∀l,L l→ ¬E l.fr l.to→(S l.fr).lk l.to=true∧(S l.to).lk l.fr=true
 sym: ∀Y X,¬E Y X→(S Y).lk X=true→(S X).lk Y=true
 bd: ∀Y k,0≤(S Y).snt k∧(S Y).snt k≤C
def upd(S:Int→Ak)(Y:Int)(v:Ak):Int→Ak:=fun k=>if k=Y then v else S k
theorem gh(S:Int→Ak)(Y:Int)(v:Ak):upd S Y v Y=v:=if_pos rfl
theorem tX{S:Int→Ak}{Y X:Int}{v:Ak}(h:X≠Y):upd S Y v X=S X:=if_neg h
theorem Cir.at{E:Int→Int→Prop}{C C':Int}{S:Int→Ak}{L L':Lt→Prop}(h:Cir E C S L){Y:Int}{v:Ak}(hC:C≤C')
  (hL: ∀l,L' l→L l∨l.fr=Y)
  (out: ∀X,X≠Y→v.lk X=true→(S X).lk Y=true→ ¬E Y X→Hm v (S X) Y X L')
  (inn: ∀X,X≠Y→(S X).lk Y=true→v.lk X=true→ ¬E X Y→Hm (S X) v X Y L')
  (self:v.lk Y=false)(least: ∀p,v.lst p≤v.tld p)(inf: ∀p,v.tld p≤INF)
  (opl: ∀p k,v.opn p k≠none→v.lk k=true∨E Y k)(repl: ∀p k,v.rep p k≠INF→v.lk k=true∨E Y k)
  (lk: ∀k,¬E Y k∨ ¬E k Y→v.lk k=(S Y).lk k)(new: ∀l,L' l→l.fr=Y→L l∨(v.lk l.to=true))
  (bd: ∀k,0≤v.snt k∧v.snt k≤C'):Cir E C' (upd S Y v) L':=by
 refine⟨?_,?_,?_,?_,?_,?_,?_,?_,?_⟩
 ·intro A B hA hB hE
  by_cases eA:A=Y
  ·subst eA
   rw[gh]at hA⊢
   by_cases eB:B=A
   ·subst eB;rw[self]at hA;cases hA
   ·rw[tX eB]at hB⊢
    exact out B eB hA hB hE
  ·rw[tX eA]at hA⊢
   by_cases eB:B=Y
   ·subst eB
    rw[gh]at hB⊢
    exact inn A eA hA hB hE
   ·rw[tX eB]at hB⊢
    have h0:=h.pair A B hA hB hE
    have hL1: ∀l,L' l→l.fr=A→L l:=fun l hl e=>(hL l hl).elim id fun e2=>absurd (e.symm.trans e2) eA
    have hL2: ∀l,L' l→l.fr=B→L l:=fun l hl e=>(hL l hl).elim id fun e2=>absurd (e.symm.trans e2) eB
    exact⟨fun l hl e1=>h0.a l (hL1 l hl e1) e1,h0.b,h0.c1,fun l k hl e1=>h0.c2 l k (hL1 l hl e1) e1,fun l n hl e1=>h0.d l n (hL1 l hl e1) e1,fun l n hl e1=>h0.e l n (hL2 l hl e1) e1,
     fun l hl e1=>h0.f1 l (hL1 l hl e1) e1,fun l hl e1=>h0.f2 l (hL2 l hl e1) e1,h0.f3,h0.f4⟩
 ·intro A;unfold upd;split
  ·rename_i e;rw[e];exact self
  ·exact h.self A
 ·intro A p;unfold upd;split
  ·exact least p
  ·exact h.least A p
 ·intro A p;unfold upd;split
  ·exact inf p
  ·exact h.inf A p
 ·intro A p k;unfold upd;split
  ·rename_i e;rw[e];exact opl p k
  ·exact h.opl A p k
 ·intro A p k;unfold upd;split
  ·rename_i e;rw[e];exact repl p k
  ·exact h.repl A p k
 ·intro l hl hE
  have key:L l→(upd S Y v l.fr).lk l.to=true∧(upd S Y v l.to).lk l.fr=true:=by
   intro h1
   obtain⟨a,b⟩:=h.nolet l h1 hE
   constructor
   ·unfold upd;split
    ·rename_i e;rw[lk _ (.inl (e▸hE)),←e];exact a
    ·exact a
   ·unfold upd;split
    ·rename_i e;rw[lk _ (.inr (e▸hE)),←e];exact b
    ·exact b
  rcases hL l hl with h1|h1
  ·exact key h1
  ·rcases new l hl h1 with h2|h2
   ·exact key h2
   ·have hE': ¬E Y l.to:=h1▸hE
    have h3:(S Y).lk l.to=true:=by rw[←lk l.to (.inl hE')];exact h2
    have h4:=h.sym Y l.to hE' h3
    have hne:l.to≠Y:=by intro e;rw[e,self]at h2;cases h2
    rw[h1,gh,tX hne]
    exact⟨h2,h4⟩
 ·intro A B hE hA
  by_cases eA:A=Y
  ·subst eA
   rw[gh]at hA
   have h3:(S A).lk B=true:=by rw[←lk B (.inl hE)];exact hA
   have hne:B≠A:=by intro e;rw[e,self]at hA;cases hA
   rw[tX hne]
   exact h.sym A B hE h3
  ·rw[tX eA]at hA
   have h4:=h.sym A B hE hA
   unfold upd;split
   ·rename_i e;rw[lk A (.inr (e▸hE)),←e];exact h4
   ·exact h4
 ·intro A k;unfold upd;split
  ·exact bd k
  ·have:=h.bd A k;exact⟨this.1,by omega⟩
section
variable {E:Int→Int→Prop} {C:Int} {S:Int→Ak} {L:Lt→Prop} {Y:Int} {v:Ak}
theorem Cir.out(h:Cir E C S L){X:Int}(hY:(S Y).lk X=true)(hX:(S X).lk Y=true)(hE: ¬E Y X):Hm (S Y) (S X) Y X L:=h.pair Y X hY hX hE
theorem Cir.bump(h:Cir E C S L)(e1:v.lst=(S Y).lst)(e2:v.tld=(S Y).tld)(e3:v.rep=(S Y).rep)(e4:v.opn=(S Y).opn)(e5:v.lk=(S Y).lk)(e6:v.got=(S Y).got)
  (hs: ∀k,(S Y).snt k≤v.snt k∧v.snt k≤(S Y).snt k+1):Cir E (C+1) (upd S Y v) L:=by
 refine h.at (by omega) (fun l hl=> .inl hl) ?_ ?_ ?_ ?_ ?_ ?_ ?_ ?_ ?_ ?_
 ·intro X hne hv hX hE
  obtain⟨a,b,c1,c2,d,e,f1,f2,f3,f4⟩:=h.pair Y X (e5▸hv) hX hE
  have:=hs X
  refine⟨by rw[e1];exact a,by rw[e1];exact b,by rw[e2,e4];exact c1,by rw[e2,e4];exact c2,by rw[e2,e4];exact d,by rw[e2,e4];exact e,fun l hl x y=>by have:=f1 l hl x y;omega,fun l hl x y=>by have:=f2 l hl x y;omega,by omega,fun p n hp=>by rw[e4]at hp;have:=f4 p n hp;omega⟩
 ·intro X hne hX hv hE
  obtain⟨a,b,c1,c2,d,e,f1,f2,f3,f4⟩:=h.pair X Y hX (e5▸hv) hE
  exact⟨by rw[e6];exact a,by rw[e3];exact b,by rw[e3];exact c1,by rw[e6];exact c2,d,by rw[e6,e3];exact e,f1,f2,by rw[e6];exact f3,f4⟩
 ·rw[e5];exact h.self Y
 ·rw[e1,e2];exact h.least Y
 ·rw[e2];exact h.inf Y
 ·rw[e4,e5];exact h.opl Y
 ·rw[e3,e5];exact h.repl Y
 ·intro k _;rw[e5]
 ·exact fun l hl _=> .inl hl
 ·intro k;have:=hs k;have:=h.bd Y k;omega
theorem Cir.add(h:Cir E C S L){L':Lt→Prop}(hL: ∀l,L' l→L l∨(l.fr=Y∧(S Y).lk l.to=true∧l.seq≤(S Y).snt l.to∧l.val=(S Y).tld l.p∧
   (¬E l.to Y→(S l.to).lk Y=true→l.ack≤(S l.to).snt Y∧(l.code=3→ ∀n,(S l.to).opn l.p Y=some n→l.ack=n→n≤(S Y).got l.to∧(S l.to).tld l.p≤(S Y).rep l.p l.to)))):Cir E C S L':=by
 have hS:upd S Y (S Y)=S:=by funext k;unfold upd;split;rename_i e;rw[e];rfl
 rw[←hS]
 refine h.at (Int.le_refl _) (fun l hl=>(hL l hl).imp id fun x=>x.1) ?_ ?_ (h.self Y) (h.least Y) (h.inf Y) (h.opl Y) (h.repl Y) (fun _ _=>rfl) (fun l hl _=>(hL l hl).imp id fun x=>x.2.1) (h.bd Y)
 ·intro X hne hv hX hE
  obtain⟨a,b,c1,c2,d,e,f1,f2,f3,f4⟩:=h.pair Y X hv hX hE
  refine⟨?_,b,c1,?_,?_,?_,?_,?_,f3,f4⟩
  ·intro l hl x y z
   rcases hL l hl with hl|⟨_,_,_,g,_⟩
   ·exact a l hl x y z
   ·rw[g];exact h.least Y _
  ·intro l k hl x y z
   rcases hL l hl with hl|⟨_,_,_,g,_⟩
   ·exact c2 l k hl x y z
   ·intro _ _;omega
  ·intro l n hl x y z
   rcases hL l hl with hl|⟨_,_,_,g,_⟩
   ·exact d l n hl x y z
   ·intro _;omega
  ·intro l n hl x
   rcases hL l hl with hl|⟨g,_⟩
   ·exact e l n hl x
   ·exact absurd (x.symm.trans g) hne
  ·intro l hl x y
   rcases hL l hl with hl|⟨_,_,g,_⟩
   ·exact f1 l hl x y
   ·rw[←y];exact g
  ·intro l hl x y
   rcases hL l hl with hl|⟨g,_⟩
   ·exact f2 l hl x y
   ·exact absurd (x.symm.trans g) hne
 ·intro X hne hX hv hE
  obtain⟨a,b,c1,c2,d,e,f1,f2,f3,f4⟩:=h.pair X Y hX hv hE
  refine⟨?_,b,c1,?_,?_,?_,?_,?_,f3,f4⟩
  ·intro l hl x y z
   rcases hL l hl with hl|⟨g,_⟩
   ·exact a l hl x y z
   ·exact absurd (x.symm.trans g) hne
  ·intro l k hl x y z
   rcases hL l hl with hl|⟨g,_⟩
   ·exact c2 l k hl x y z
   ·exact absurd (x.symm.trans g) hne
  ·intro l n hl x y z
   rcases hL l hl with hl|⟨g,_⟩
   ·exact d l n hl x y z
   ·exact absurd (x.symm.trans g) hne
  ·intro l n hl x y z
   rcases hL l hl with hl|⟨_,_,_,_,g⟩
   ·exact e l n hl x y z
   ·subst y;exact fun u w=>(g hE hX).2 z n u w
  ·intro l hl x
   rcases hL l hl with hl|⟨g,_⟩
   ·exact f1 l hl x
   ·exact absurd (x.symm.trans g) hne
  ·intro l hl x y
   rcases hL l hl with hl|⟨_,_,_,_,g⟩
   ·exact f2 l hl x y
   ·subst y;exact(g hE hX).1
theorem Cir.sub(h:Cir E C S L){L':Lt→Prop}(hL: ∀l,L' l→L l):Cir E C S L':=h.add (Y:=0) fun l hl=> .inl (hL l hl)
theorem Cir.more(h:Cir E C S L){E':Int→Int→Prop}{C':Int}(hE: ∀a b,E a b→E' a b)(hC:C≤C'):Cir E' C' S L where
 pair:=fun Y X a b c=>h.pair Y X a b fun d=>c (hE _ _ d)
 self:=h.self
 least:=h.least
 inf:=h.inf
 opl:=fun Y p k x=>(h.opl Y p k x).imp id (hE _ _)
 repl:=fun Y p k x=>(h.repl Y p k x).imp id (hE _ _)
 nolet:=fun l hl c=>h.nolet l hl fun d=>c (hE _ _ d)
 sym:=fun Y X c=>h.sym Y X fun d=>c (hE _ _ d)
 bd:=fun Y k=>by have:=h.bd Y k;omega
theorem Cir.told(h:Cir E C S L){p:Pf}{t:Int}(ht:t≤INF)(hno: ∀k,(S Y).opn p k=none)
  (e1: ∀q,q≠p→v.lst q=(S Y).lst q)(e2: ∀q,q≠p→v.tld q=(S Y).tld q)(e3:v.rep=(S Y).rep)(e4: ∀q,q≠p→v.opn q=(S Y).opn q)(e5:v.lk=(S Y).lk)(e6:v.got=(S Y).got)
  (t2:v.tld p=t)(hs: ∀k,(S Y).snt k≤v.snt k∧v.snt k≤(S Y).snt k+1)
  (t1:(∀k,(S Y).lk k=false)∧v.lst p=t∨t≤(S Y).tld p∧v.lst p≤(S Y).lst p∧v.lst p≤t∨(S Y).tld p<t∧v.lst p=(S Y).lst p)
  (t4:t≤(S Y).tld p∧(∀k,v.opn p k=none)∨ ∀k,((S Y).lk k=true→v.opn p k=some (v.snt k)∧v.snt k=(S Y).snt k+1)∧((S Y).lk k=false→v.opn p k=none)):Cir E (C+1) (upd S Y v) L:=by
 refine h.at (by omega) (fun l hl=> .inl hl) ?_ ?_ ?_ ?_ ?_ ?_ ?_ ?_ ?_ ?_
 ·intro X hne hv hX hE
  have hv':(S Y).lk X=true:=e5▸hv
  obtain⟨a,b,c1,c2,d,e,f1,f2,f3,f4⟩:=h.pair Y X hv' hX hE
  have:=hs X
  have hlst: ∀q,v.lst q≤(S Y).lst q:=by
   intro q
   by_cases hq:q=p
   ·subst hq
    rcases t1 with⟨x,_⟩|⟨_,x,_⟩|⟨_,x⟩
    ·rw[x X]at hv';cases hv'
    ·exact x
    ·omega
   ·rw[e1 q hq];omega
  refine⟨fun l hl x y z=>by have:=a l hl x y z;have:=hlst l.p;omega,fun q=>by have:=b q;have:=hlst q;omega,?_,?_,?_,?_,fun l hl x y=>by have:=f1 l hl x y;omega,fun l hl x y=>by have:=f2 l hl x y;omega,by omega,?_⟩
  ·intro q k x y
   by_cases hq:q=p
   ·subst hq
    rcases t4 with⟨_,g⟩|g
    ·exact absurd (g k) x
    ·rw[((g X).1 hv').1]at y;cases y
   ·rw[e4 q hq]at x y;rw[e2 q hq];exact c1 q k x y
  ·intro l k hl x y z u w
   by_cases hq:l.p=p
   ·rw[hq]at u w⊢
    rcases t4 with⟨_,g⟩|g
    ·exact absurd (g k) u
    ·rw[((g X).1 hv').1]at w;cases w
   ·rw[e4 _ hq]at u w;rw[e2 _ hq];exact c2 l k hl x y z u w
  ·intro l n hl x y u w
   by_cases hq:l.p=p
   ·rw[hq]at u⊢
    rcases t4 with⟨_,g⟩|g
    ·rw[g X]at u;cases u
    ·have g1:=(g X).1 hv'
     rw[g1.1]at u
     injection u with u
     have:=f1 l hl x y
     omega
   ·rw[e4 _ hq]at u;rw[e2 _ hq];exact d l n hl x y u w
  ·intro l n hl x y z u w
   by_cases hq:l.p=p
   ·rw[hq]at u
    rcases t4 with⟨_,g⟩|g
    ·rw[g X]at u;cases u
    ·have g1:=(g X).1 hv'
     rw[g1.1]at u
     injection u with u
     have:=f2 l hl x y
     omega
   ·rw[e4 _ hq]at u;rw[e2 _ hq];exact e l n hl x y z u w
  ·intro q n u
   by_cases hq:q=p
   ·subst hq
    rcases t4 with⟨_,g⟩|g
    ·rw[g X]at u;cases u
    ·have g1:=(g X).1 hv'
     rw[g1.1]at u
     injection u with u
     omega
   ·rw[e4 _ hq]at u;have:=f4 q n u;omega
 ·intro X hne hX hv hE
  obtain⟨a,b,c1,c2,d,e,f1,f2,f3,f4⟩:=h.pair X Y hX (e5▸hv) hE
  exact⟨by rw[e6];exact a,by rw[e3];exact b,by rw[e3];exact c1,by rw[e6];exact c2,d,by rw[e6,e3];exact e,f1,f2,by rw[e6];exact f3,f4⟩
 ·rw[e5];exact h.self Y
 ·intro q
  by_cases hq:q=p
  ·subst hq
   have:=h.least Y q
   rcases t1 with⟨_,x⟩|⟨_,_,x⟩|⟨_,x⟩<;>omega
  ·rw[e1 q hq,e2 q hq];exact h.least Y q
 ·intro q
  by_cases hq:q=p
  ·subst hq;omega
  ·rw[e2 q hq];exact h.inf Y q
 ·intro q k x
  by_cases hq:q=p
  ·subst hq
   rw[e5]
   rcases t4 with⟨_,g⟩|g
   ·exact absurd (g k) x
   ·cases hk:(S Y).lk k
    ·exact absurd ((g k).2 hk) x
    ·exact .inl rfl
  ·rw[e4 q hq]at x;rw[e5];exact h.opl Y q k x
 ·rw[e3,e5];exact h.repl Y
 ·intro k _;rw[e5]
 ·exact fun l hl _=> .inl hl
 ·intro k;have:=hs k;have:=h.bd Y k;omega
theorem Cir.close(h:Cir E C S L){p:Pf}{k:Int}
  (e1: ∀q,q≠p→v.lst q=(S Y).lst q)(e2:v.tld=(S Y).tld)(e3:v.rep=(S Y).rep)(e4: ∀q,q≠p→v.opn q=(S Y).opn q)(e5:v.lk=(S Y).lk)(e6:v.got=(S Y).got)(e7:v.snt=(S Y).snt)
  (o1:v.opn p k=none)(o2: ∀i,i≠k→v.opn p i=(S Y).opn p i)(o3:(S Y).opn p k≠none)
  (t1:v.lst p=(S Y).lst p∨v.lst p=(S Y).tld p∧ ∀i,v.opn p i=none)
  (hk:(S Y).lk k=true→(S k).lk Y=true→ ¬E Y k→(S Y).tld p≤(S k).rep p Y∧ ∀l,L l→l.fr=Y→l.to=k→l.p=p→(S k).got Y<l.seq→(S Y).tld p≤l.val):Cir E C (upd S Y v) L:=by
 refine h.at (Int.le_refl _) (fun l hl=> .inl hl) ?_ ?_ ?_ ?_ ?_ ?_ ?_ ?_ ?_ ?_
 ·intro X hne hv hX hE
  have hv':(S Y).lk X=true:=e5▸hv
  obtain⟨a,b,c1,c2,d,e,f1,f2,f3,f4⟩:=h.pair Y X hv' hX hE
  have k1:v.opn p X=none→(S Y).tld p≤(S X).rep p Y:=by
   intro hx
   by_cases hXk:X=k
   ·subst hXk;exact(hk hv' hX hE).1
   ·rw[o2 X hXk]at hx;exact c1 p k o3 hx
  have k2:v.opn p X=none→ ∀l,L l→l.fr=Y→l.to=X→l.p=p→(S X).got Y<l.seq→(S Y).tld p≤l.val:=by
   intro hx l hl x y z u
   by_cases hXk:X=k
   ·subst hXk;exact(hk hv' hX hE).2 l hl x y z u
   ·rw[o2 X hXk]at hx;subst z;exact c2 l k hl x y u o3 hx
  have sm: ∀q n,v.opn q X=some n→(S Y).opn q X=some n:=by
   intro q n hq
   by_cases e:q=p
   ·subst e
    by_cases e:X=k
    ·subst e;rw[o1]at hq;cases hq
    ·rw[o2 X e]at hq;exact hq
   ·rw[e4 q e]at hq;exact hq
  refine⟨?_,?_,?_,?_,?_,?_,by rw[e7];exact f1,by rw[e7];exact f2,by rw[e7];exact f3,fun q n hq=>by rw[e7];exact f4 q n (sm q n hq)⟩
  ·intro l hl x y z
   by_cases hq:l.p=p
   ·rcases t1 with t1|⟨t1,t2⟩
    ·rw[hq,t1,←hq];exact a l hl x y z
    ·rw[hq,t1];exact k2 (t2 X) l hl x y hq z
   ·rw[e1 _ hq];exact a l hl x y z
  ·intro q
   by_cases hq:q=p
   ·subst hq
    rcases t1 with t1|⟨t1,t2⟩
    ·rw[t1];exact b _
    ·rw[t1];exact k1 (t2 X)
   ·rw[e1 _ hq];exact b _
  ·intro q i x y
   rw[e2]
   by_cases hq:q=p
   ·subst hq;exact k1 y
   ·rw[e4 q hq]at x y;exact c1 q i x y
  ·intro l i hl x y z u w
   rw[e2]
   by_cases hq:l.p=p
   ·rw[hq]at w⊢;exact k2 w l hl x y hq z
   ·rw[e4 _ hq]at u w;exact c2 l i hl x y z u w
  ·intro l n hl x y u w
   rw[e2];exact d l n hl x y (sm _ _ u) w
  ·intro l n hl x y z u w
   rw[e2];exact e l n hl x y z (sm _ _ u) w
 ·intro X hne hX hv hE
  obtain⟨a,b,c1,c2,d,e,f1,f2,f3,f4⟩:=h.pair X Y hX (e5▸hv) hE
  exact⟨by rw[e6];exact a,by rw[e3];exact b,by rw[e3];exact c1,by rw[e6];exact c2,d,by rw[e6,e3];exact e,f1,f2,by rw[e6];exact f3,f4⟩
 ·rw[e5];exact h.self Y
 ·intro q
  rw[e2]
  by_cases hq:q=p
  ·subst hq
   have:=h.least Y q
   rcases t1 with t1|⟨t1,_⟩<;>omega
  ·rw[e1 q hq];exact h.least Y q
 ·rw[e2];exact h.inf Y
 ·intro q i x
  rw[e5]
  refine h.opl Y q i fun x'=>x ?_
  by_cases hq:q=p
  ·subst hq
   by_cases e:i=k
   ·subst e;exact o1
   ·rw[o2 i e];exact x'
  ·rw[e4 q hq];exact x'
 ·rw[e3,e5];exact h.repl Y
 ·intro k _;rw[e5]
 ·exact fun l hl _=> .inl hl
 ·rw[e7];exact h.bd Y
theorem Cir.link(h:Cir E C S L){k:Int}(hk:k≠Y)(hE:E Y k)(hE2:E k Y)(e1:v.lst=(S Y).lst)(e2:v.tld=(S Y).tld)(e3:v.rep=(S Y).rep)(e4:v.opn=(S Y).opn)
  (e5: ∀i,i≠k→v.lk i=(S Y).lk i)(e6: ∀i,i≠k→v.got i=(S Y).got i)(e7: ∀i,i≠k→v.snt i=(S Y).snt i)(e8:v.snt k=0):Cir E C (upd S Y v) L:=by
 refine h.at (Int.le_refl _) (fun l hl=> .inl hl) ?_ ?_ ?_ ?_ ?_ ?_ ?_ ?_ ?_ ?_
 ·intro X hne hv hX hE3
  by_cases e:X=k
  ·subst e;exact absurd hE hE3
  ·rw[e5 X e]at hv
   obtain⟨a,b,c1,c2,d,e0,f1,f2,f3,f4⟩:=h.pair Y X hv hX hE3
   exact⟨by rw[e1];exact a,by rw[e1];exact b,by rw[e2,e4];exact c1,by rw[e2,e4];exact c2,by rw[e2,e4];exact d,by rw[e2,e4];exact e0,by rw[e7 X e];exact f1,by rw[e7 X e];exact f2,by rw[e7 X e];exact f3,by rw[e4,e7 X e];exact f4⟩
 ·intro X hne hX hv hE3
  by_cases e:X=k
  ·subst e;exact absurd hE2 hE3
  ·rw[e5 X e]at hv
   obtain⟨a,b,c1,c2,d,e0,f1,f2,f3,f4⟩:=h.pair X Y hX hv hE3
   exact⟨by rw[e6 X e];exact a,by rw[e3];exact b,by rw[e3];exact c1,by rw[e6 X e];exact c2,d,by rw[e6 X e,e3];exact e0,f1,f2,by rw[e6 X e];exact f3,f4⟩
 ·rw[e5 Y (Ne.symm hk)];exact h.self Y
 ·rw[e1,e2];exact h.least Y
 ·rw[e2];exact h.inf Y
 ·intro p i x
  rw[e4]at x
  by_cases e:i=k
  ·subst e;exact .inr hE
  ·rw[e5 i e];exact h.opl Y p i x
 ·intro p i x
  rw[e3]at x
  by_cases e:i=k
  ·subst e;exact .inr hE
  ·rw[e5 i e];exact h.repl Y p i x
 ·intro i hi
  refine e5 i ?_
  rintro rfl
  rcases hi with hi|hi
  ·exact hi hE
  ·exact hi hE2
 ·exact fun l hl _=> .inl hl
 ·intro i
  by_cases e:i=k
  ·subst e;rw[e8];have:=h.bd Y i;omega
  ·rw[e7 i e];exact h.bd Y i
theorem Cir.strike(h:Cir E C S L){k:Int}(hk:(S Y).lk k=false)(e1:v.lst=(S Y).lst)(e2:v.tld=(S Y).tld)(e4:v.opn=(S Y).opn)
  (e5:v.lk=(S Y).lk)(e6:v.got=(S Y).got)(e7:v.snt=(S Y).snt)(e3: ∀q i,v.rep q i=(S Y).rep q i∨i=k∧v.rep q i=INF):Cir E C (upd S Y v) L:=by
 refine h.at (Int.le_refl _) (fun l hl=> .inl hl) ?_ ?_ ?_ ?_ ?_ ?_ ?_ ?_ ?_ ?_
 ·intro X hne hv hX hE
  obtain⟨a,b,c1,c2,d,e,f1,f2,f3,f4⟩:=h.pair Y X (e5▸hv) hX hE
  exact⟨by rw[e1];exact a,by rw[e1];exact b,by rw[e2,e4];exact c1,by rw[e2,e4];exact c2,by rw[e2,e4];exact d,by rw[e2,e4];exact e,by rw[e7];exact f1,by rw[e7];exact f2,by rw[e7];exact f3,by rw[e4,e7];exact f4⟩
 ·intro X hne hX hv hE
  rw[e5]at hv
  have hr: ∀q,v.rep q X=(S Y).rep q X:=fun q=>(e3 q X).elim id fun x=>by rw[x.1,hk]at hv;cases hv
  obtain⟨a,b,c1,c2,d,e,f1,f2,f3,f4⟩:=h.pair X Y hX hv hE
  exact⟨by rw[e6];exact a,fun p=>by rw[hr];exact b p,fun p k x y=>by rw[hr];exact c1 p k x y,by rw[e6];exact c2,d,fun l n x y z u w t=>by rw[e6,hr];exact e l n x y z u w t,f1,f2,by rw[e6];exact f3,f4⟩
 ·rw[e5];exact h.self Y
 ·rw[e1,e2];exact h.least Y
 ·rw[e2];exact h.inf Y
 ·rw[e4,e5];exact h.opl Y
 ·intro p i x
  rw[e5]
  rcases e3 p i with g|⟨_,g⟩
  ·rw[g]at x;exact h.repl Y p i x
  ·exact absurd g x
 ·intro k _;rw[e5]
 ·exact fun l hl _=> .inl hl
 ·rw[e7];exact h.bd Y
theorem Cir.hear(h:Cir E C S L){l0:Lt}(hl:L l0)(ht:l0.to=Y)(hE: ¬E l0.fr Y)(hi:l0.val≤INF)(hg:(S Y).got l0.fr<l0.seq)
  (e1:v.lst=(S Y).lst)(e2:v.tld=(S Y).tld)(e4:v.opn=(S Y).opn)(e5:v.lk=(S Y).lk)(e7:v.snt=(S Y).snt)
  (g1:v.got l0.fr=l0.seq)(g2: ∀i,i≠l0.fr→v.got i=(S Y).got i)(r1:v.rep l0.p l0.fr=l0.val∨v.rep l0.p l0.fr=INF)
  (r2: ∀q i,q≠l0.p∨i≠l0.fr→v.rep q i=(S Y).rep q i):Cir E C (upd S Y v) L:=by
 have hlk:=h.nolet l0 hl (ht▸hE)
 rw[ht]at hlk
 refine h.at (Int.le_refl _) (fun l hl=> .inl hl) ?_ ?_ ?_ ?_ ?_ ?_ ?_ ?_ ?_ ?_
 ·intro X hne hv hX hE
  obtain⟨a,b,c1,c2,d,e,f1,f2,f3,f4⟩:=h.pair Y X (e5▸hv) hX hE
  exact⟨by rw[e1];exact a,by rw[e1];exact b,by rw[e2,e4];exact c1,by rw[e2,e4];exact c2,by rw[e2,e4];exact d,by rw[e2,e4];exact e,by rw[e7];exact f1,by rw[e7];exact f2,by rw[e7];exact f3,by rw[e4,e7];exact f4⟩
 ·intro X hne hX hv hE2
  rw[e5]at hv
  obtain⟨a,b,c1,c2,d,e,f1,f2,f3,f4⟩:=h.pair X Y hX hv hE2
  by_cases eX:X=l0.fr
  ·subst eX
   have i1:=(h.inf l0.fr)
   have i2:=(h.least l0.fr)
   refine⟨fun l x y z u=>a l x y z (by omega),?_,?_,fun l k x y z u w t=>c2 l k x y z (by omega) w t,d,?_,f1,f2,by rw[g1];exact f1 l0 hl rfl ht,f4⟩
   ·intro p
    by_cases hp:p=l0.p
    ·subst hp
     have:=a l0 hl rfl ht hg
     have:=i1 l0.p
     have:=i2 l0.p
     rcases r1 with r|r<;>rw[r]<;>omega
    ·rw[r2 p _ (.inl hp)];exact b p
   ·intro p k x y
    by_cases hp:p=l0.p
    ·subst hp
     have:=c2 l0 k hl rfl ht hg x y
     have:=i1 l0.p
     rcases r1 with r|r<;>rw[r]<;>omega
    ·rw[r2 p _ (.inl hp)];exact c1 p k x y
   ·intro l n x y z u w t
    have g:=e l n x y z u w t
    refine⟨by omega,?_⟩
    by_cases hp:l.p=l0.p
    ·rw[hp]at w⊢
     have:=d l0 n hl rfl ht w (by omega)
     have:=i1 l0.p
     rcases r1 with r|r<;>rw[r]<;>omega
    ·rw[r2 _ _ (.inl hp)];exact g.2
  ·exact⟨by rw[g2 X eX];exact a,fun p=>by rw[r2 p X (.inr eX)];exact b p,fun p k x y=>by rw[r2 p X (.inr eX)];exact c1 p k x y,by rw[g2 X eX];exact c2,d,fun l n x y z u w t=>by rw[g2 X eX,r2 _ X (.inr eX)];exact e l n x y z u w t,f1,f2,by rw[g2 X eX];exact f3,f4⟩
 ·rw[e5];exact h.self Y
 ·rw[e1,e2];exact h.least Y
 ·rw[e2];exact h.inf Y
 ·rw[e4,e5];exact h.opl Y
 ·intro p i x
  rw[e5]
  by_cases hp:p=l0.p
  ·by_cases hi:i=l0.fr
   ·subst hi;exact .inl hlk.2
   ·rw[r2 p i (.inr hi)]at x;exact h.repl Y p i x
  ·rw[r2 p i (.inl hp)]at x;exact h.repl Y p i x
 ·intro k _;rw[e5]
 ·exact fun l hl _=> .inl hl
 ·rw[e7];exact h.bd Y
theorem Cir.ask(h:Cir E C S L){p:Pf}(e1:v.lst=(S Y).lst)(e2:v.tld=(S Y).tld)(e3:v.rep=(S Y).rep)(e5:v.lk=(S Y).lk)(e6:v.got=(S Y).got)
  (e4: ∀q,q≠p→v.opn q=(S Y).opn q)(hs: ∀k,(S Y).snt k≤v.snt k∧v.snt k≤(S Y).snt k+1)
  (o: ∀k,v.opn p k=(S Y).opn p k∨(S Y).opn p k≠none∧v.opn p k=some (v.snt k)∧v.snt k=(S Y).snt k+1):Cir E (C+1) (upd S Y v) L:=by
 have on: ∀q k,v.opn q k=none↔(S Y).opn q k=none:=by
  intro q k
  by_cases hq:q=p
  ·subst hq
   rcases o k with o|⟨o1,o2,_⟩
   ·rw[o]
   ·rw[o2];exact⟨fun x=>(by cases x),fun x=>absurd x o1⟩
  ·rw[e4 q hq]
 refine h.at (by omega) (fun l hl=> .inl hl) ?_ ?_ ?_ ?_ ?_ ?_ ?_ ?_ ?_ ?_
 ·intro X hne hv hX hE
  obtain⟨a,b,c1,c2,d,e,f1,f2,f3,f4⟩:=h.pair Y X (e5▸hv) hX hE
  have hsX:=hs X
  have sm: ∀q n,v.opn q X=some n→(S Y).opn q X=some n∨(q=p∧n=(S Y).snt X+1∧v.snt X=n):=by
   intro q n hn
   by_cases hq:q=p
   ·subst hq
    rcases o X with o|⟨o1,o2,o3⟩
    ·rw[o]at hn;exact .inl hn
    ·rw[o2]at hn;injection hn with hn;exact .inr ⟨rfl,by omega,hn⟩
   ·rw[e4 q hq]at hn;exact .inl hn
  refine⟨by rw[e1];exact a,by rw[e1];exact b,fun q k x y=>by rw[e2];exact c1 q k (fun z=>x ((on q k).2 z)) ((on q X).1 y),fun l k x y z u w t=>by rw[e2];exact c2 l k x y z u (fun z=>w ((on _ k).2 z)) ((on _ X).1 t),?_,?_,fun l x y z=>by have:=f1 l x y z;omega,fun l x y z=>by have:=f2 l x y z;omega,by omega,?_⟩
  ·intro l n x y z u w
   rw[e2]
   rcases sm _ _ u with u|⟨_,u,_⟩
   ·exact d l n x y z u w
   ·have:=f1 l x y z;omega
  ·intro l n x y z w u t
   rw[e2]
   rcases sm _ _ u with u|⟨_,u,_⟩
   ·exact e l n x y z w u t
   ·have:=f2 l x y z;omega
  ·intro q n u
   rcases sm _ _ u with u|⟨_,u,_⟩
   ·have:=f4 q n u;omega
   ·omega
 ·intro X hne hX hv hE
  obtain⟨a,b,c1,c2,d,e,f1,f2,f3,f4⟩:=h.pair X Y hX (e5▸hv) hE
  exact⟨by rw[e6];exact a,by rw[e3];exact b,by rw[e3];exact c1,by rw[e6];exact c2,d,by rw[e6,e3];exact e,f1,f2,by rw[e6];exact f3,f4⟩
 ·rw[e5];exact h.self Y
 ·rw[e1,e2];exact h.least Y
 ·rw[e2];exact h.inf Y
 ·intro q k x;rw[e5];exact h.opl Y q k fun z=>x ((on q k).2 z)
 ·rw[e3,e5];exact h.repl Y
 ·intro k _;rw[e5]
 ·exact fun l hl _=> .inl hl
 ·intro k;have:=hs k;have:=h.bd Y k;omega
end
section
theorem Ns(v:Vec):ofV v≤INF:=by show _≤(4294967295:Int);unfold ofV;split;split<;>omega;omega
def xn(o:Option di):Int:=match o with|some x=>x.least|none=>INF
def yW(o:Option di):Int:=match o with|some x=>ofV x.told.v|none=>INF
def Ar(o:Option di)(k:Int):Int:=match o with|some x=>(match ah x.rep k with|some w=>ofV w.v|none=>INF)|none=>INF
def tg(o:Option di)(k:Int):Option Int:=match o with|some x=>ah x.opn k|none=>none
def oC(o:Option Lnk):Int:=match o with|some l=>l.sent|none=>0
def EA(o:Option Lnk):Int:=match o with|some l=>l.got|none=>0
def vw(d:ao):Ak where
 lst:=fun p=>xn (ah d.pre p)
 tld:=fun p=>yW (ah d.pre p)
 rep:=fun p k=>Ar (ah d.pre p) k
 opn:=fun p k=>tg (ah d.pre p) k
 lk:=fun k=>(ah d.links k).isSome
 snt:=fun k=>oC (ah d.links k)
 got:=fun k=>EA (ah d.links k)
def ltOf(Y:Int)(l:Ltr):Lt:=⟨Y,l.to,l.code,l.seq,l.ack,l.p,ofV l.v⟩
def w4(L:Lt→Prop)(Y:Int)(ls:List Ltr):Lt→Prop:=fun l=>L l∨ ∃x∈ls,l=ltOf Y x
theorem se(S:Int→Ak)(Y:Int)(v w:Ak):upd (upd S Y v) Y w=upd S Y w:=by funext k;unfold upd;split<;>rfl
theorem mT(S:Int→Ak)(Y:Int):upd S Y (S Y)=S:=by funext k;unfold upd;split;rename_i e;rw[e];rfl
theorem na(L:Lt→Prop)(Y:Int):w4 L Y []=L:=by funext l;unfold w4;exact propext ⟨fun h=>h.elim id fun⟨x,h,_⟩=>(by cases h),.inl⟩
theorem Fa(L:Lt→Prop)(Y:Int)(l1 l2:List Ltr):w4 (w4 L Y l1) Y l2=w4 L Y (l1++l2):=by
 funext l;unfold w4
 refine propext ⟨?_,?_⟩
 ·rintro((h|⟨x,h,e⟩)|⟨x,h,e⟩)
  ·exact .inl h
  ·exact .inr ⟨x,List.mem_append_left _ h,e⟩
  ·exact .inr ⟨x,List.mem_append_right _ h,e⟩
 ·rintro(h|⟨x,h,e⟩)
  ·exact .inl (.inl h)
  ·rcases List.mem_append.1 h with h|h
   ·exact .inl (.inr ⟨x,h,e⟩)
   ·exact .inr ⟨x,h,e⟩
theorem LW:ofV G5=INF:=by decide
theorem nf{l:Lnk}(h:0≤l.sent∧l.sent<4294967295):(aW l).sent=l.sent+1:=Int.emod_eq_of_lt (by omega) (by omega)
variable {E:Int→Int→Prop} {C:Int} {S:Int→Ak} {L:Lt→Prop} {Y:Int} {d d':ao}
theorem Cir.snt(h:Cir E C S L)(hY:S Y=vw d){k:Int}{l:Lnk}(hl:ah d.links k=some l):0≤l.sent∧l.sent≤C:=by
 have:=h.bd Y k
 rw[hY]at this
 simpa[vw,hl,oC]using this
theorem xu(h:Cir E C S L)(hC:C<4294967295)(hY:S Y=vw d){k:Int}{l:Lnk}(hl:ah d.links k=some l):cC d k=l.sent+1:=by
 unfold cC
 rw[hl]
 have:=h.snt hY hl
 exact nf (by omega)
theorem LR{ks:List Int}{f:Int→Int}{k:Int}:ah (ks.map fun i=>(i,f i)) k=if k∈ks then some (f k)else none:=by
 induction ks with
 |nil=>rfl
 |cons i ks ih=>
  rw[List.map_cons,ah]
  by_cases e:k=i
  ·subst e;simp
  ·rw[if_neg e,ih];simp[e]
theorem Cir.settle(h:Cir E C S L)(hC:C<4294967295)(hY:S Y=vw d){p:Pf}{ls:List Ltr}(hp: ∀x,ah d.pre p=some x→x.p=p)(hs:ju p d d' ls):Cir E (C+1) (upd S Y (vw d')) (w4 L Y ls):=by
 obtain⟨x,r,hx,hr,⟨_,rfl,rfl⟩|⟨hno,ks,hks,rfl,rfl⟩⟩:=hs
 ·rw[←hY,mT,na];exact h.more (fun _ _ a=>a) (by omega)
 ·generalize hw:({r.getD fe with next:=0}:Way)=w at hno
  have hopn:x.opn=[]:=by
   cases ho:x.opn with
   |nil=>rfl
   |cons a b=>exact absurd (.inl (by rw[ho];exact Nat.succ_pos _)) hno
  have mem: ∀k,k∈ks↔(ah d.links k).isSome=true:=fun k=>(hks.mem_iff).trans aO.symm
  have hsnt: ∀k,oC (ah (mpv aW d.links) k)=if(ah d.links k).isSome=true then oC (ah d.links k)+1 else oC (ah d.links k):=by
   intro k
   rw[xJ]
   cases hl:ah d.links k with
   |none=>rfl
   |some l=>exact nf (by have:=h.snt hY hl;omega)
  have hpre: ∀q,q≠p→ah (aL d.pre p (dX d x w ks)) q=ah d.pre q:=fun q hq=>by rw[aJ,if_neg hq]
  have hprp:ah (aL d.pre p (dX d x w ks)) p=some (dX d x w ks):=by rw[aJ,if_pos rfl]
  have h1:Cir E (C+1) (upd S Y (vw {d with links:=mpv aW d.links,pre:=aL d.pre p (dX d x w ks)})) L:=by
   refine h.told (p:=p) (t:=ofV w.v) (Ns _) ?_ ?_ ?_ ?_ ?_ ?_ ?_ ?_ ?_ ?_ ?_<;>(try rw[hY])
   ·intro k;show tg (ah d.pre p) k=none;rw[hx];show ah x.opn k=none;rw[hopn];rfl
   ·intro q hq;show xn _=xn _;rw[hpre q hq]
   ·intro q hq;show yW _=yW _;rw[hpre q hq]
   ·funext q k
    show Ar _ k=Ar _ k
    by_cases hq:q=p
    ·subst hq;rw[hprp,hx];rfl
    ·rw[hpre q hq]
   ·intro q hq;funext k;show tg _ k=tg _ k;rw[hpre q hq]
   ·funext k
    show(ah (mpv aW d.links) k).isSome=_
    rw[xJ];show _=(ah d.links k).isSome
    cases ah d.links k<;>rfl
   ·funext k
    show EA (ah (mpv aW d.links) k)=EA (ah d.links k)
    rw[xJ]
    cases ah d.links k<;>rfl
   ·show yW (ah _ p)=_;rw[hprp];rfl
   ·intro k
    show oC (ah d.links k)≤oC (ah (mpv aW d.links) k)∧oC (ah (mpv aW d.links) k)≤oC (ah d.links k)+1
    rw[hsnt];split<;>omega
   ·show(∀k,(ah d.links k).isSome=false)∧xn (ah _ p)=_∨ofV w.v≤yW (ah d.pre p)∧xn (ah _ p)≤xn (ah d.pre p)∧xn (ah _ p)≤_∨yW (ah d.pre p)<ofV w.v∧xn (ah _ p)=xn (ah d.pre p)
    rw[hprp,hx]
    show _∧(dX d x w ks).least=_∨ofV w.v≤ofV x.told.v∧(dX d x w ks).least≤x.least∧(dX d x w ks).least≤_∨ofV x.told.v<ofV w.v∧(dX d x w ks).least=x.least
    unfold dX
    dsimp only
    by_cases c1:d.links.length=0
    ·refine .inl ⟨fun k=>?_,if_pos c1⟩
     rw[List.length_eq_zero_iff.1 c1];rfl
    ·rw[if_neg c1]
     by_cases c2:ofV w.v>ofV x.told.v
     ·rw[if_pos c2];exact .inr (.inr ⟨c2,rfl⟩)
     ·rw[if_neg c2]
      refine .inr (.inl ⟨by omega,?_⟩)
      split<;>omega
   ·show ofV w.v≤yW (ah d.pre p)∧(∀k,tg (ah _ p) k=none)∨ ∀k,((ah d.links k).isSome=true→tg (ah _ p) k=some (oC (ah (mpv aW d.links) k))∧oC (ah (mpv aW d.links) k)=oC (ah d.links k)+1)∧((ah d.links k).isSome=false→tg (ah _ p) k=none)
    rw[hprp,hx]
    show ofV w.v≤ofV x.told.v∧(∀k,ah (dX d x w ks).opn k=none)∨ ∀k,((ah d.links k).isSome=true→ah (dX d x w ks).opn k=_∧_)∧(_→ah (dX d x w ks).opn k=none)
    unfold dX
    dsimp only
    by_cases c2:ofV w.v>ofV x.told.v
    ·refine .inr fun k=>?_
     rw[if_pos c2,LR,hsnt k]
     constructor
     ·intro hk
      rw[if_pos ((mem k).2 hk),if_pos hk]
      obtain⟨l,hl⟩:=Option.isSome_iff_exists.1 hk
      rw[xu h hC hY hl,hl]
      exact⟨rfl,rfl⟩
     ·intro hk
      rw[if_neg fun hm=>by rw[(mem k).1 hm]at hk;cases hk]
    ·exact .inl ⟨by omega,fun k=>by rw[if_neg c2];rfl⟩
  refine h1.add (Y:=Y) ?_
  rintro l (hl|⟨y,hy,rfl⟩)
  ·exact .inl hl
  ·refine .inr ⟨rfl,?_⟩
   obtain⟨k,hk,rfl⟩:=List.mem_map.1 hy
   obtain⟨l,hl⟩:=Option.isSome_iff_exists.1 ((mem k).1 hk)
   rw[gh]
   have hxp:=hp x hx
   refine⟨?_,?_,?_,?_⟩
   ·show(ah (mpv aW d.links) k).isSome=true
    rw[xJ,hl];rfl
   ·show cC d k≤oC (ah (mpv aW d.links) k)
    rw[hsnt,xu h hC hY hl,hl]
    exact Int.le_refl _
   ·show ofV w.v=yW (ah (aL d.pre p _) x.p)
    rw[hxp,hprp];rfl
   ·intro hE _
    refine⟨(h1.bd _ _).1,fun hc=>?_⟩
    exfalso
    dsimp[ltOf]at hc
    split at hc<;>omega
end
section
variable {E:Int→Int→Prop} {C:Int} {S:Int→Ak} {L:Lt→Prop} {Y:Int} {d d':ao}
theorem Cir.upstep(h:Cir E C S L)(hC:C<4294967295)(hY:S Y=vw d){k:Int}{p:Pf}{ls:List Ltr}(hp: ∀x,ah d.pre p=some x→x.p=p)(hs:wi k p d d' ls):Cir E (C+1) (upd S Y (vw d')) (w4 L Y ls):=by
 obtain⟨x,hx,hs⟩:=hs
 split at hs
 ·obtain⟨l,hl,rfl,rfl⟩:=hs
  have hsl:=nf (l:=l) (by have:=h.snt hY hl;omega)
  have hag: ∀i,ah (aL d.links k (aW l)) i=if i=k then some (aW l)else ah d.links i:=fun i=>aJ
  have h1:Cir E (C+1) (upd S Y (vw {d with links:=aL d.links k (aW l)})) L:=by
   refine h.bump ?_ ?_ ?_ ?_ ?_ ?_ ?_<;>(try rw[hY])<;>(try rfl)
   ·funext i
    show(ah (aL d.links k (aW l)) i).isSome=(ah d.links i).isSome
    rw[hag];split
    ·rename_i e;rw[e,hl];rfl
    ·rfl
   ·funext i
    show EA (ah (aL d.links k (aW l)) i)=EA (ah d.links i)
    rw[hag];split
    ·rename_i e;rw[e,hl];rfl
    ·rfl
   ·intro i
    show oC (ah d.links i)≤oC (ah (aL d.links k (aW l)) i)∧oC (ah (aL d.links k (aW l)) i)≤oC (ah d.links i)+1
    rw[hag];split
    ·rename_i e;rw[e,hl];show l.sent≤(aW l).sent∧(aW l).sent≤l.sent+1;omega
    ·omega
  refine h1.add (Y:=Y) ?_
  rintro z (hz|⟨y,hy,rfl⟩)
  ·exact .inl hz
  ·rw[List.mem_singleton]at hy
   subst hy
   refine .inr ⟨rfl,?_⟩
   rw[gh]
   refine⟨?_,?_,?_,?_⟩
   ·show(ah (aL d.links k (aW l)) k).isSome=true
    rw[hag,if_pos rfl];rfl
   ·show(aW l).sent≤oC (ah (aL d.links k (aW l)) k)
    rw[hag,if_pos rfl];exact Int.le_refl _
   ·show ofV x.told.v=yW (ah d.pre x.p)
    rw[hp x hx,hx];rfl
   ·intro hE _
    exact⟨(h1.bd _ _).1,fun hc=>by exfalso;dsimp[ltOf]at hc;omega⟩
 ·obtain⟨rfl,rfl⟩:=hs
  rw[←hY,mT,na];exact h.more (fun _ _ a=>a) (by omega)
theorem Cir.fold{step:Pf→ao→ao→List Ltr→Prop}{K:ao→Prop}(hK: ∀p d d' ls,K d→step p d d' ls→K d')
  (hs: ∀{C S L d d' p ls},Cir E C S L→C<4294967295→S Y=vw d→K d→step p d d' ls→Cir E (C+1) (upd S Y (vw d')) (w4 L Y ls)):
  ∀{ps:List Pf} {C:Int} {S:Int→Ak} {L:Lt→Prop} {d d':ao} {ls:List Ltr},Cir E C S L→C+ps.length<4294967295→S Y=vw d→K d→ld step ps d d' ls→Cir E (C+ps.length) (upd S Y (vw d')) (w4 L Y ls)∧K d'
 |[],C,S,L,d,d',ls,h,hC,hY,hk,⟨e1,e2⟩=>by
  subst e1;subst e2
  rw[←hY,mT,na]
  exact⟨h.more (fun _ _ a=>a) (by simp),hk⟩
 |p::ps,C,S,L,d,d',ls,h,hC,hY,hk,⟨d1,l1,l2,h1,h2,e⟩=>by
  subst e
  rw[List.length_cons]at hC⊢
  have g:=hs h (by omega) hY hk h1
  obtain⟨a,b⟩:=Cir.fold hK hs (C:=C+1) g (by omega) (gh _ _ _) (hK _ _ _ _ hk h1) h2
  rw[se,Fa]at a
  exact⟨a.more (fun _ _ a=>a) (by omega),b⟩
theorem Cir.down1(h:Cir E C S L)(hC:C<4294967295)(hY:S Y=vw d){k:Int}{p:Pf}{ls:List Ltr}(hp: ∀x,ah d.pre p=some x→x.p=p)(hn: ∀x,ah d.pre p=some x→(am x.rep).Nodup∧(am x.opn).Nodup)(hk:ah d.links k=none)
  (hs:ln k p d d' ls):Cir E (C+1) (upd S Y (vw d')) (w4 L Y ls):=by
 obtain⟨x,hx,hs⟩:=hs
 obtain⟨hnr,hno⟩:=hn x hx
 have hag: ∀(y:di) q,ah (aL d.pre p y) q=if q=p then some y else ah d.pre q:=fun y q=>aJ
 have h1:Cir E C (upd S Y (vw {d with pre:=aL d.pre p {x with rep:=dq x.rep k}})) L:=by
  refine h.strike (k:=k) ?_ ?_ ?_ ?_ ?_ ?_ ?_ ?_<;>(try rw[hY])<;>(try rfl)
  ·show(ah d.links k).isSome=false;rw[hk];rfl
  ·funext q;show xn (ah (aL d.pre p _) q)=xn (ah d.pre q);rw[hag];split
   ·rename_i e;rw[e,hx];rfl
   ·rfl
  ·funext q;show yW (ah (aL d.pre p _) q)=yW (ah d.pre q);rw[hag];split
   ·rename_i e;rw[e,hx];rfl
   ·rfl
  ·funext q i;show tg (ah (aL d.pre p _) q) i=tg (ah d.pre q) i;rw[hag];split
   ·rename_i e;rw[e,hx];rfl
   ·rfl
  ·intro q i
   show Ar (ah (aL d.pre p _) q) i=Ar (ah d.pre q) i∨i=k∧Ar (ah (aL d.pre p _) q) i=INF
   rw[hag];split
   ·rename_i e;rw[e,hx]
    by_cases ei:i=k
    ·refine .inr ⟨ei,?_⟩
     show(match ah (dq x.rep k) i with|some w=>ofV w.v|none=>INF)=INF
     rw[db hnr,if_pos ei]
    ·refine .inl ?_
     show(match ah (dq x.rep k) i with|some w=>ofV w.v|none=>INF)=(match ah x.rep i with|some w=>ofV w.v|none=>INF)
     rw[db hnr,if_neg ei]
   ·exact .inl rfl
 have h2:Cir E C (upd S Y (vw {d with pre:=aL d.pre p (gi {x with rep:=dq x.rep k} k)})) L:=by
  unfold gi
  dsimp only
  cases ho:ah x.opn k with
  |none=>exact h1
  |some n=>
   dsimp only
   rw[←se (v:=vw {d with pre:=aL d.pre p {x with rep:=dq x.rep k}})]
   refine h1.close (p:=p) (k:=k) ?_ ?_ ?_ ?_ ?_ ?_ ?_ ?_ ?_ ?_ ?_ ?_<;>(try rw[gh])<;>(try rfl)
   ·intro q hq;show xn (ah (aL d.pre p _) q)=xn (ah (aL d.pre p _) q);rw[hag,hag,if_neg hq,if_neg hq]
   ·funext q;show yW (ah (aL d.pre p _) q)=yW (ah (aL d.pre p _) q);rw[hag,hag];split<;>rfl
   ·funext q i;show Ar (ah (aL d.pre p _) q) i=Ar (ah (aL d.pre p _) q) i;rw[hag,hag];split<;>rfl
   ·intro q hq;funext i;show tg (ah (aL d.pre p _) q) i=tg (ah (aL d.pre p _) q) i;rw[hag,hag,if_neg hq,if_neg hq]
   ·show tg (ah (aL d.pre p _) p) k=none
    rw[hag,if_pos rfl]
    show ah (dq x.opn k) k=none
    rw[db hno,if_pos rfl]
   ·intro i hi
    show tg (ah (aL d.pre p _) p) i=tg (ah (aL d.pre p _) p) i
    rw[hag,hag,if_pos rfl,if_pos rfl]
    show ah (dq x.opn k) i=ah x.opn i
    rw[db hno,if_neg hi]
   ·show tg (ah (aL d.pre p _) p) k≠none
    rw[hag,if_pos rfl]
    show ah x.opn k≠none
    rw[ho];intro e;cases e
   ·show xn (ah (aL d.pre p _) p)=xn (ah (aL d.pre p _) p)∨xn (ah (aL d.pre p _) p)=yW (ah (aL d.pre p _) p)∧ ∀i,tg (ah (aL d.pre p _) p) i=none
    rw[hag,hag,if_pos rfl,if_pos rfl]
    show(if(dq x.opn k).length=0 then ofV x.told.v else x.least)=x.least∨(if(dq x.opn k).length=0 then ofV x.told.v else x.least)=ofV x.told.v∧ ∀i,ah (dq x.opn k) i=none
    by_cases c:(dq x.opn k).length=0
    ·refine .inr ⟨if_pos c,fun i=>?_⟩
     rw[List.length_eq_zero_iff.1 c];rfl
    ·exact .inl (if_neg c)
   ·intro hl
    replace hl:(ah d.links k).isSome=true:=hl
    rw[hk]at hl;cases hl
 have h3:=h2.settle hC (gh _ _ _) (p:=p) (ls:=ls) (d':=d') (fun y hy=>by
  replace hy:ah (aL d.pre p _) p=some y:=hy
  rw[hag,if_pos rfl]at hy
  injection hy with hy
  rw[←hy]
  unfold gi
  dsimp only
  split<;>exact hp x hx) hs
 rw[se]at h3
 exact h3
theorem Ny{d1 d2:ao}(h1:d1.links=d2.links)(h2: ∀q,xn (ah d1.pre q)=xn (ah d2.pre q)∧yW (ah d1.pre q)=yW (ah d2.pre q)∧(∀i,Ar (ah d1.pre q) i=Ar (ah d2.pre q) i)∧ ∀i,tg (ah d1.pre q) i=tg (ah d2.pre q) i):vw d1=vw d2:=by
 unfold vw
 rw[h1]
 congr 1
 ·funext q;exact(h2 q).1
 ·funext q;exact(h2 q).2.1
 ·funext q i;exact(h2 q).2.2.1 i
 ·funext q i;exact(h2 q).2.2.2 i
theorem P0(p:Pf):vw (sH d p)=vw d:=by
 unfold sH
 split
 ·rename_i hc
  refine Ny rfl fun q=>?_
  show xn (ah (aL d.pre p _) q)=_∧yW (ah (aL d.pre p _) q)=_∧(∀i,Ar (ah (aL d.pre p _) q) i=_)∧ ∀i,tg (ah (aL d.pre p _) q) i=_
  rw[aJ]
  split
  ·rename_i e;rw[e,hc.1];exact⟨rfl,LW,fun _=>rfl,fun _=>rfl⟩
  ·exact⟨rfl,rfl,fun _=>rfl,fun _=>rfl⟩
 ·rfl
theorem PE{p:Pf}{x:di}(hx:ah d.pre p=some x)(o:Option Way):vw {d with pre:=aL d.pre p {x with own:=o}}=vw d:=by
 refine Ny rfl fun q=>?_
 show xn (ah (aL d.pre p _) q)=_∧yW (ah (aL d.pre p _) q)=_∧(∀i,Ar (ah (aL d.pre p _) q) i=_)∧ ∀i,tg (ah (aL d.pre p _) q) i=_
 rw[aJ]
 split
 ·rename_i e;rw[e,hx];exact⟨rfl,rfl,fun _=>rfl,fun _=>rfl⟩
 ·exact⟨rfl,rfl,fun _=>rfl,fun _=>rfl⟩
theorem RV{p:Pf}(h: ∀q x,ah d.pre q=some x→x.p=q): ∀q x,ah (sH d p).pre q=some x→x.p=q:=by
 intro q x hx
 unfold sH at hx
 split at hx
 ·replace hx:ah (aL d.pre p (L8 p)) q=some x:=hx
  rw[aJ]at hx
  split at hx
  ·rename_i e;injection hx with hx;rw[←hx,e];rfl
  ·exact h q x hx
 ·exact h q x hx
theorem Cir.own(h:Cir E C S L)(hC:C<4294967295)(hY:S Y=vw d){p:Pf}{v:Vec}{tag e:Int}{ls:List Ltr}(hp: ∀q x,ah d.pre q=some x→x.p=q)(hs:GP p v tag d d' ls e):Cir E (C+1) (upd S Y (vw d')) (w4 L Y ls):=by
 have h0:Cir E (C+1) (upd S Y (vw d)) (w4 L Y []):=by rw[←hY,mT,na];exact h.more (fun _ _ a=>a) (by omega)
 unfold GP at hs
 split at hs
 ·obtain⟨rfl,rfl,_⟩:=hs;exact h0
 ·split at hs
  ·obtain⟨rfl,rfl,_⟩:=hs;exact h0
  ·split at hs
   ·obtain⟨rfl,rfl,_⟩:=hs;exact h0
   ·rename_i x hx
    refine h.settle hC (by rw[PE hx,P0];exact hY) (fun y hy=>?_) hs.2
    replace hy:ah (aL _ _ _) p=some y:=hy
    rw[aJ,if_pos rfl]at hy
    injection hy with hy
    rw[←hy]
    exact RV hp p x hx
theorem Cir.drop(h:Cir E C S L)(hC:C<4294967295)(hY:S Y=vw d){p:Pf}{e:Int}{ls:List Ltr}(hp: ∀q x,ah d.pre q=some x→x.p=q)(hs:zQ p d d' ls e):Cir E (C+1) (upd S Y (vw d')) (w4 L Y ls):=by
 have h0:Cir E (C+1) (upd S Y (vw d)) (w4 L Y []):=by rw[←hY,mT,na];exact h.more (fun _ _ a=>a) (by omega)
 unfold zQ at hs
 split at hs
 ·obtain⟨rfl,rfl,_⟩:=hs;exact h0
 ·rename_i x hx
  split at hs
  ·obtain⟨rfl,rfl,_⟩:=hs;exact h0
  ·refine h.settle hC (by rw[PE hx];exact hY) (fun y hy=>?_) hs.2
   replace hy:ah (aL _ _ _) p=some y:=hy
   rw[aJ,if_pos rfl]at hy
   injection hy with hy
   rw[←hy]
   exact hp p x hx
theorem Cir.again1(h:Cir E C S L)(hC:C<4294967295)(hY:S Y=vw d){p:Pf}{ls:List Ltr}(hp: ∀x,ah d.pre p=some x→x.p=p)(hl: ∀x,ah d.pre p=some x→ ∀k∈am x.opn,k∈am d.links)(hs:uV p d d' ls):Cir E (C+1) (upd S Y (vw d')) (w4 L Y ls):=by
 obtain⟨x,ks,hx,hks,rfl,rfl⟩:=hs
 have hxp:=hp x hx
 have hag: ∀(y:di) q,ah (aL d.pre p y) q=if q=p then some y else ah d.pre q:=fun y q=>aJ
 have hlk: ∀k,ah (d.links.map (fun q=>(q.1,if q.1∈ks then aW q.2 else q.2))) k=(ah d.links k).map fun v=>if k∈ks then aW v else v:=fun k=>tJ
 have hsnt: ∀k,oC ((ah d.links k).map fun v=>if k∈ks then aW v else v)=if k∈ks then oC (ah d.links k)+1 else oC (ah d.links k):=by
  intro k
  by_cases hk:k∈ks
  ·rw[if_pos hk]
   obtain⟨l,hl2⟩:=Option.isSome_iff_exists.1 (aO.2 (hl x hx k (hks.mem_iff.1 hk)))
   rw[hl2,Option.map_some,if_pos hk]
   exact nf (by have:=h.snt hY hl2;omega)
  ·rw[if_neg hk]
   cases ah d.links k with
   |none=>rfl
   |some l=>rw[Option.map_some,if_neg hk]
 have hopn: ∀k,ah (jO d x ks).opn k=(ah x.opn k).map fun n=>if k∈ks then cC d k else n:=by
  intro k
  show ah (x.opn.map fun q=>(q.1,if q.1∈ks then cC d q.1 else q.2)) k=_
  induction x.opn with
  |nil=>rfl
  |cons a o ih=>
   rw[List.map_cons,ah,ah]
   by_cases e:k=a.1
   ·rw[if_pos e,if_pos e,Option.map_some,e]
   ·rw[if_neg e,if_neg e,ih]
 have h1:Cir E (C+1) (upd S Y (vw {d with links:=d.links.map (fun q=>(q.1,if q.1∈ks then aW q.2 else q.2)),pre:=aL d.pre p (jO d x ks)})) L:=by
  refine h.ask (p:=p) ?_ ?_ ?_ ?_ ?_ ?_ ?_ ?_<;>(try rw[hY])
  ·funext q;show xn (ah (aL d.pre p _) q)=xn (ah d.pre q);rw[hag];split
   ·rename_i e;rw[e,hx];rfl
   ·rfl
  ·funext q;show yW (ah (aL d.pre p _) q)=yW (ah d.pre q);rw[hag];split
   ·rename_i e;rw[e,hx];rfl
   ·rfl
  ·funext q i;show Ar (ah (aL d.pre p _) q) i=Ar (ah d.pre q) i;rw[hag];split
   ·rename_i e;rw[e,hx];rfl
   ·rfl
  ·funext k
   show(ah (d.links.map _) k).isSome=(ah d.links k).isSome
   rw[hlk];cases ah d.links k<;>rfl
  ·funext k
   show EA (ah (d.links.map _) k)=EA (ah d.links k)
   rw[hlk]
   cases ah d.links k with
   |none=>rfl
   |some l=>rw[Option.map_some];split<;>rfl
  ·intro q hq;funext i;show tg (ah (aL d.pre p _) q) i=tg (ah d.pre q) i;rw[hag,if_neg hq]
  ·intro k
   show oC (ah d.links k)≤oC (ah (d.links.map _) k)∧oC (ah (d.links.map _) k)≤oC (ah d.links k)+1
   rw[hlk,hsnt];split<;>omega
  ·intro k
   show tg (ah (aL d.pre p _) p) k=tg (ah d.pre p) k∨tg (ah d.pre p) k≠none∧tg (ah (aL d.pre p _) p) k=some (oC (ah (d.links.map _) k))∧oC (ah (d.links.map _) k)=oC (ah d.links k)+1
   rw[hag,if_pos rfl,hlk,hsnt,hx]
   show ah (jO d x ks).opn k=ah x.opn k∨ah x.opn k≠none∧ah (jO d x ks).opn k=_∧_
   rw[hopn]
   by_cases hk:k∈ks
   ·obtain⟨n,hn⟩:=Option.isSome_iff_exists.1 (aO.2 (hks.mem_iff.1 hk))
    obtain⟨l,hl2⟩:=Option.isSome_iff_exists.1 (aO.2 (hl x hx k (hks.mem_iff.1 hk)))
    refine .inr ⟨(by rw[hn];exact Option.some_ne_none n),?_,(by rw[if_pos hk])⟩
    rw[hn,Option.map_some,if_pos hk,if_pos hk,xu h hC hY hl2,hl2]
    rfl
   ·refine .inl ?_
    cases ah x.opn k with
    |none=>rfl
    |some n=>rw[Option.map_some,if_neg hk]
 refine h1.add (Y:=Y) ?_
 rintro z (hz|⟨y,hy,rfl⟩)
 ·exact .inl hz
 ·obtain⟨k,hk,rfl⟩:=List.mem_map.1 hy
  obtain⟨l,hl2⟩:=Option.isSome_iff_exists.1 (aO.2 (hl x hx k (hks.mem_iff.1 hk)))
  refine .inr ⟨rfl,?_⟩
  rw[gh]
  refine⟨?_,?_,?_,?_⟩
  ·show(ah (d.links.map _) k).isSome=true
   rw[hlk,hl2];rfl
  ·show cC d k≤oC (ah (d.links.map _) k)
   rw[hlk,hsnt,if_pos hk,xu h hC hY hl2,hl2]
   exact Int.le_refl _
  ·show ofV x.told.v=yW (ah (aL d.pre p _) x.p)
   rw[hxp,hag,if_pos rfl];rfl
  ·intro hE _
   exact⟨(h1.bd _ _).1,fun hc=>by exfalso;dsimp[ltOf]at hc;omega⟩
end
section
variable {E:Int→Int→Prop} {C:Int} {S:Int→Ak} {L:Lt→Prop} {Y:Int} {d d':ao}
theorem Cir.down(h:Cir E C S L){N:Int→Prop}(hd:aV N d)(hC:C+64<4294967295)(hY:S Y=vw d){k:Int}{ls:List Ltr}(hE:E Y k)(hE2:E k Y)(hk:k≠Y)(hl:ah d.links k≠none)(hs:DK k d d' ls):
  Cir E (C+64) (upd S Y (vw d')) (w4 L Y ls)∧(∀i,(vw d').lk i=if i=k then false else(vw d).lk i)∧ ∀p,(vw d').rep p k=INF∧(vw d').opn p k=none:=by
 unfold DK at hs
 rw[if_neg hl]at hs
 obtain⟨ps,hps,hf⟩:=hs
 have hno:k∉am (dq d.links k):=by rw[←bW,db hd.lnd,if_pos rfl]
 have hsub: ∀i∈am (dq d.links k),i∈am d.links:=fun i hi=>(pB.map _).subset hi
 have hag: ∀i,ah (dq d.links k) i=if i=k then none else ah d.links i:=fun i=>db hd.lnd
 have h0:k6 N k [] {d with links:=dq d.links k}:=
   {
    lnd:=lM hd.lnd
    pnd:=hd.pnd
    lk:=fun i hi=>hd.lk i (hsub i hi)
    sent:=fun i l hi=>by
     replace hi:ah (dq d.links k) i=some l:=hi
     rw[db hd.lnd]at hi
     split at hi
     ·cases hi
     ·exact hd.sent i l hi
    dom:=hd.dom
    most:=hd.most
    few:=hd.few
    no:=hno
    kn:=fun p x hx=>⟨(hd.kn p x hx).sub fun i hi=>by
     by_cases e:i=k
     ·subst e;exact List.mem_cons_self
     ·refine List.mem_cons_of_mem _ (aO.1 ?_)
      show(ah (dq d.links k) i).isSome=true
      rw[db hd.lnd,if_neg e]
      exact aO.2 ((hd.kn p x hx).opn i hi),fun hm=>by cases hm⟩}
 have h1:Cir E C (upd S Y (vw {d with links:=dq d.links k})) L:=by
  refine h.link hk hE hE2 ?_ ?_ ?_ ?_ ?_ ?_ ?_ ?_<;>(try rw[hY])<;>(try rfl)
  ·intro i hi;show(ah (dq d.links k) i).isSome=(ah d.links i).isSome;rw[hag,if_neg hi]
  ·intro i hi;show EA (ah (dq d.links k) i)=EA (ah d.links i);rw[hag,if_neg hi]
  ·intro i hi;show oC (ah (dq d.links k) i)=oC (ah d.links i);rw[hag,if_neg hi]
  ·show oC (ah (dq d.links k) k)=0;rw[hag,if_pos rfl];rfl
 have hlen:ps.length≤64:=by
  have:=hps.length_eq
  have:=hd.few
  simp[am]at*
  omega
 have key: ∀{ps done:List Pf} {C:Int} {S:Int→Ak} {L:Lt→Prop} {d d':ao} {ls:List Ltr},Cir E C S L→C+ps.length<4294967295→S Y=vw d→k6 N k done d→(∀p∈done,(vw d).rep p k=INF)→ld (ln k) ps d d' ls→
   Cir E (C+ps.length) (upd S Y (vw d')) (w4 L Y ls)∧k6 N k (done++ps) d'∧ ∀p∈done++ps,(vw d').rep p k=INF:=by
  intro ps
  induction ps with
  |nil=>
   rintro done C S L d d' ls h hC hY hd hr ⟨rfl,rfl⟩
   rw[←hY,mT,na,List.append_nil]
   exact⟨h.more (fun _ _ a=>a) (by simp),hd,by rw[hY];exact hr⟩
  |cons p ps ih=>
   rintro done C S L d d' ls h hC hY hd hr ⟨d1,l1,l2,h1,h2,rfl⟩
   rw[List.length_cons]at hC⊢
   have hnl:ah d.links k=none:=bW.2 hd.no
   have g:=h.down1 (by omega) hY (fun x hx=>(hd.kn p x hx).1.px) (fun x hx=>⟨(hd.kn p x hx).1.ndr,(hd.kn p x hx).1.ndo⟩) hnl h1
   obtain⟨a1,_,_⟩:=I9 hd h1
   have hr1: ∀q∈done++[p],(vw d1).rep q k=INF:=by
    obtain⟨x,hx,hs⟩:=h1
    obtain⟨y,r,hy,hr2,hc⟩:=hs
    have hn:=(hd.kn p x hx).1.ndr
    have hz: ∀z:ao,(∀q,q≠p→ah z.pre q=ah d.pre q)→(∀w,ah z.pre p=some w→w.rep=dq x.rep k)→ ∀q∈done++[p],(vw z).rep q k=INF:=by
     intro z z1 z2 q hq
     by_cases e:q=p
     ·subst e
      show Ar (ah z.pre q) k=INF
      cases hw:ah z.pre q with
      |none=>rfl
      |some w=>
       show(match ah w.rep k with|some w=>ofV w.v|none=>INF)=INF
       rw[z2 w hw,db hn,if_pos rfl]
     ·show Ar (ah z.pre q) k=INF
      rw[z1 q e]
      refine hr q ((List.mem_append.1 hq).resolve_right fun h=>e (List.mem_singleton.1 h))
    have hc0:(gi {x with rep:=dq x.rep k} k).rep=dq x.rep k:=by unfold gi;dsimp only;split<;>rfl
    replace hy:ah (aL d.pre p _) p=some y:=hy
    rw[aJ,if_pos rfl]at hy
    injection hy with hy
    rcases hc with⟨_,rfl,rfl⟩|⟨_,ks,hks,rfl,rfl⟩
    ·refine hz _ (fun q hq=>?_) (fun w hw=>?_)
     ·show ah (aL d.pre p _) q=_;rw[aJ,if_neg hq]
     ·replace hw:ah (aL d.pre p _) p=some w:=hw
      rw[aJ,if_pos rfl]at hw
      injection hw with hw
      rw[←hw];exact hc0
    ·refine hz _ (fun q hq=>?_) (fun w hw=>?_)
     ·show ah (aL (aL d.pre p _) p _) q=_;rw[aJ,if_neg hq,aJ,if_neg hq]
     ·replace hw:ah (aL (aL d.pre p _) p _) p=some w:=hw
      rw[aJ,if_pos rfl]at hw
      injection hw with hw
      rw[←hw]
      show y.rep=_
      rw[←hy];exact hc0
   obtain⟨b1,b2,b3⟩:=ih g (by omega) (gh _ _ _) a1 hr1 h2
   rw[se,Fa]at b1
   rw[List.append_assoc]at b2 b3
   exact⟨b1.more (fun _ _ a=>a) (by omega),b2,b3⟩
 obtain⟨b1,b2,b3⟩:=key h1 (by omega) (gh _ _ _) h0 (fun p hp=>by cases hp) hf
 rw[se]at b1
 obtain⟨k1,k2,_⟩:=yF hf
 refine⟨b1.more (fun _ _ a=>a) (by omega),fun i=>?_,fun p=>?_⟩
 ·have e1:((ah d'.links i).isSome=true)↔((ah (dq d.links k) i).isSome=true):=by
   rw[aO,aO]
   exact iff_of_eq (congrArg (i∈ ·) k2)
  show(ah d'.links i).isSome=if i=k then false else(ah d.links i).isSome
  have e2:(ah d'.links i).isSome=(ah (dq d.links k) i).isSome:=Bool.eq_iff_iff.2 e1
  rw[e2,hag]
  split<;>rfl
 ·have hin: ∀x,ah d'.pre p=some x→p∈ps:=fun x hx=>by
   refine hps.mem_iff.2 ?_
   have:=aO.1 (show(ah d'.pre p).isSome=true by rw[hx];rfl)
   rw[k1]at this
   exact this
  rw[List.nil_append]at b2 b3
  show Ar (ah d'.pre p) k=INF∧tg (ah d'.pre p) k=none
  cases hx:ah d'.pre p with
  |none=>exact⟨rfl,rfl⟩
  |some x=>
   have:=b3 p (hin x hx)
   refine⟨by replace this:Ar (ah d'.pre p) k=INF:=this;rw[hx]at this;exact this,?_⟩
   show ah x.opn k=none
   exact bW.2 ((b2.kn p x hx).2 (hin x hx))
theorem Cir.up(h:Cir E C S L){N:Int→Prop}(hd:aV N d)(hC:C+64<4294967295)(hY:S Y=vw d){k:Int}{v:Vec}{ls:List Ltr}(hE:E Y k)(hE2:E k Y)(hk:k≠Y)(hl:ah d.links k=none)(hv:lO v=true)(h1k:1≤k∧k≤32)(hs:UpR k v d d' ls):
  Cir E (C+64) (upd S Y (vw d')) (w4 L Y ls)∧d'.pre=d.pre∧(∀i,(vw d').lk i=if i=k then true else(vw d).lk i)∧(vw d').got k=0∧ ∀l∈ls,l.to=k∧l.code=1∧l.ack=0∧ofV l.v=(vw d).tld l.p∧l.seq≤(vw d').snt k:=by
 unfold UpR at hs
 rw[if_neg (by rw[hl,hv];simp;omega)]at hs
 obtain⟨ps,hps,hf⟩:=hs
 have hag: ∀i,ah (aL d.links k ⟨v,0,0⟩) i=if i=k then some ⟨v,0,0⟩else ah d.links i:=fun i=>aJ
 have h1:Cir E C (upd S Y (vw {d with links:=aL d.links k ⟨v,0,0⟩})) L:=by
  refine h.link hk hE hE2 ?_ ?_ ?_ ?_ ?_ ?_ ?_ ?_<;>(try rw[hY])<;>(try rfl)
  ·intro i hi;show(ah (aL d.links k _) i).isSome=(ah d.links i).isSome;rw[hag,if_neg hi]
  ·intro i hi;show EA (ah (aL d.links k _) i)=EA (ah d.links i);rw[hag,if_neg hi]
  ·intro i hi;show oC (ah (aL d.links k _) i)=oC (ah d.links i);rw[hag,if_neg hi]
  ·show oC (ah (aL d.links k _) k)=0;rw[hag,if_pos rfl];rfl
 have hlen:ps.length≤64:=by
  have:=hps.length_eq
  have:=hd.few
  simp[am]at*
  omega
 have g:=Cir.fold (Y:=Y) (step:=wi k) (K:=fun e=>e.pre=d.pre) (fun p e e' ls he hs=>(NL hs).1.trans he)
  (fun {C S L e e' p ls} hj hc hy he hs=>hj.upstep hc hy (fun x hx=>(hd.kn p x (he▸hx)).px) hs) h1 (by omega) (gh _ _ _) (by rfl) hf
 rw[se]at g
 obtain⟨f1,f2,f3⟩:=H0 hf
 have key: ∀{ps:List Pf} {e e':ao} {ls:List Ltr},(∀f,ah e.links k=some f→0≤f.sent∧f.sent+ps.length<4294967295∧f.got=0)→e.pre=d.pre→ld (wi k) ps e e' ls→
   (∀f,ah e.links k=some f→ ∃f',ah e'.links k=some f'∧f.sent≤f'.sent∧f'.got=0∧ ∀l∈ls,l.to=k∧l.code=1∧l.ack=0∧ofV l.v=(vw d).tld l.p∧l.seq≤f'.sent):=by
  intro ps
  induction ps with
  |nil=>rintro e e' ls h0 he ⟨rfl,rfl⟩ f hf;exact⟨f,hf,Int.le_refl _,(h0 f hf).2.2,fun l hl=>by cases hl⟩
  |cons p ps ih=>
   rintro e e' ls h0 he ⟨e1,l1,l2,⟨x,hx,hs⟩,h2,rfl⟩ f hf
   obtain⟨g1,g2,g3⟩:=h0 f hf
   rw[List.length_cons]at g2
   split at hs
   ·obtain⟨f0,hf0,rfl,rfl⟩:=hs
    rw[hf]at hf0;injection hf0 with hf0;subst hf0
    have hsl:=nf (l:=f) (by omega)
    have hk1:ah (aL e.links k (aW f)) k=some (aW f):=by rw[aJ,if_pos rfl]
    obtain⟨f',a,b,c,dd⟩:=ih (e:={e with links:=aL e.links k (aW f)}) (fun f1 hf1=>by
     replace hf1:ah (aL e.links k (aW f)) k=some f1:=hf1
     rw[hk1]at hf1;injection hf1 with hf1;subst hf1
     exact⟨by omega,by omega,g3⟩) he h2 (aW f) hk1
    refine⟨f',a,by omega,c,fun l hl=>?_⟩
    rcases List.mem_append.1 hl with hl|hl
    ·rw[List.mem_singleton]at hl
     subst hl
     have hpx:=(hd.kn p x (he▸hx)).px
     refine⟨rfl,rfl,rfl,?_,b⟩
     show ofV x.told.v=yW (ah d.pre x.p)
     rw[hpx,←he,hx];rfl
    ·exact dd l hl
   ·obtain⟨rfl,rfl⟩:=hs
    exact ih (fun f1 hf1=>by obtain⟨a,b,c⟩:=h0 f1 hf1;rw[List.length_cons]at b;exact⟨a,by omega,c⟩) he h2 f hf
 obtain⟨f',a,b,c,dd⟩:=key (e:={d with links:=aL d.links k ⟨v,0,0⟩}) (ps:=ps) (fun f hf=>by
  replace hf:ah (aL d.links k _) k=some f:=hf
  rw[hag,if_pos rfl]at hf;injection hf with hf;subst hf
  exact⟨Int.le_refl _,by dsimp;omega,rfl⟩) rfl hf ⟨v,0,0⟩ (by show ah (aL d.links k _) k=_;rw[hag,if_pos rfl])
 refine⟨g.1.more (fun _ _ a=>a) (by omega),f1,fun i=>?_,?_,fun l hl=>?_⟩
 ·show(ah d'.links i).isSome=if i=k then true else(ah d.links i).isSome
  by_cases e:i=k
  ·subst e;rw[a,if_pos rfl];rfl
  ·rw[f2 i e,if_neg e]
   show(ah (aL d.links k _) i).isSome=_
   rw[hag,if_neg e]
 ·show EA (ah d'.links k)=0;rw[a];exact c
 ·show _∧_∧_∧_∧l.seq≤oC (ah d'.links k)
  rw[a];exact dd l hl
end
end Go.Proofs.YtadanegddceleaaGreatS
