import Derived.Test.YtadanegddceleaaGreatqam
import Derived.Test.YtadanegddceleaaGreatqay
import Derived.Test.YtadanegddceleaaGreatqaz
set_option linter.unusedSimpArgs false
set_option linter.unusedVariables false
set_option maxRecDepth 20000
namespace Go.Proofs.YtadanegddceleaaGreatS
section
variable {E:Int→Int→Prop} {C:Int} {S:Int→Ak} {L:Lt→Prop} {Y:Int} {d d':ao}
theorem Nf{k:Int}{p:Pf}{v:Vec}{tag:Int}(hn: ∀x,ah d.pre p=some x→(am x.rep).Nodup):
  (vw (eo k p v tag d)).lst=(vw d).lst∧(vw (eo k p v tag d)).tld=(vw d).tld∧(vw (eo k p v tag d)).opn=(vw d).opn∧
  ((vw (eo k p v tag d)).rep p k=ofV v∨(vw (eo k p v tag d)).rep p k=INF)∧ ∀q i,q≠p∨i≠k→(vw (eo k p v tag d)).rep q i=(vw d).rep q i:=by
 have hkey: ∀d1:ao,vw d1=vw d→(∀x,ah d1.pre p=some x→(am x.rep).Nodup)→ ∀fine,
   (vw (lZ k p v tag fine d1)).lst=(vw d).lst∧(vw (lZ k p v tag fine d1)).tld=(vw d).tld∧(vw (lZ k p v tag fine d1)).opn=(vw d).opn∧
   ((vw (lZ k p v tag fine d1)).rep p k=ofV v∨(vw (lZ k p v tag fine d1)).rep p k=INF)∧ ∀q i,q≠p∨i≠k→(vw (lZ k p v tag fine d1)).rep q i=(vw d).rep q i:=by
  intro d1 e hn fine
  rw[←e]
  unfold lZ
  cases hx:ah d1.pre p with
  |none=>
   dsimp only
   refine⟨rfl,rfl,rfl,.inr ?_,fun _ _ _=>rfl⟩
   show Ar (ah d1.pre p) k=INF
   rw[hx];rfl
  |some x=>
   dsimp only
   have hag: ∀(y:di) q,ah (aL d1.pre p y) q=if q=p then some y else ah d1.pre q:=fun y q=>aJ
   generalize hr:(if fine=true then aL x.rep k ⟨v,tag,0⟩else dq x.rep k)=rep
   have hr1: ∀i,i≠k→ah rep i=ah x.rep i:=by
    intro i hi
    rw[←hr]
    split
    ·rw[aJ,if_neg hi]
    ·rw[db (hn x hx),if_neg hi]
   have hr2:ah rep k=some ⟨v,tag,0⟩∨ah rep k=none:=by
    rw[←hr]
    split
    ·rw[aJ,if_pos rfl];exact .inl rfl
    ·rw[db (hn x hx),if_pos rfl];exact .inr rfl
   refine⟨?_,?_,?_,?_,?_⟩
   ·funext q;show xn (ah (aL d1.pre p _) q)=xn (ah d1.pre q);rw[hag];split
    ·rename_i e;rw[e,hx];rfl
    ·rfl
   ·funext q;show yW (ah (aL d1.pre p _) q)=yW (ah d1.pre q);rw[hag];split
    ·rename_i e;rw[e,hx];rfl
    ·rfl
   ·funext q i;show tg (ah (aL d1.pre p _) q) i=tg (ah d1.pre q) i;rw[hag];split
    ·rename_i e;rw[e,hx];rfl
    ·rfl
   ·show Ar (ah (aL d1.pre p _) p) k=ofV v∨Ar (ah (aL d1.pre p _) p) k=INF
    rw[hag,if_pos rfl]
    show(match ah rep k with|some w=>ofV w.v|none=>INF)=ofV v∨(match ah rep k with|some w=>ofV w.v|none=>INF)=INF
    rcases hr2 with e|e<;>rw[e]
    ·exact .inl rfl
    ·exact .inr rfl
   ·intro q i hq
    show Ar (ah (aL d1.pre p _) q) i=Ar (ah d1.pre q) i
    rw[hag]
    split
    ·rename_i e
     have hi:i≠k:=hq.resolve_left fun h=>h e
     rw[e,hx]
     show(match ah rep i with|some w=>ofV w.v|none=>INF)=(match ah x.rep i with|some w=>ofV w.v|none=>INF)
     rw[hr1 i hi]
    ·rfl
 rw[zf rfl]
 refine hkey _ (by split;exact P0 p;rfl) (fun x hx=>?_) _
 split at hx
 ·unfold sH at hx
  split at hx
  ·replace hx:ah (aL d.pre p (L8 p)) p=some x:=hx
   rw[aJ,if_pos rfl]at hx
   injection hx with hx
   rw[←hx];exact List.nodup_nil
  ·exact hn x hx
 ·exact hn x hx
theorem Cir.hearR(h:Cir E C S L){N:Int→Prop}(hd:aV N d)(hC:C+2<4294967295)(hY:S Y=vw d){k:Int}{l:Ltr}{ls:List Ltr}(hl:L ⟨k,Y,l.code,l.seq,l.ack,l.p,ofV l.v⟩)(hpf:qb l.p)(htg:wE l.tag)(hsq:0≤l.seq∧l.seq<4294967296)
  (hE: ¬E k Y)(hE2: ¬E Y k)(hs:vq k l d d' ls):Cir E (C+2) (upd S Y (vw d')) (w4 L Y ls):=by
 have h0:Cir E (C+2) (upd S Y (vw d)) (w4 L Y []):=by rw[←hY,mT,na];exact h.more (fun _ _ a=>a) (by omega)
 unfold vq at hs
 split at hs
 ·obtain⟨rfl,rfl⟩:=hs;exact h0
 ·rename_i f hf
  split at hs
  ·obtain⟨rfl,rfl⟩:=hs;exact h0
  ·rename_i hg
   simp only[not_or]at hg
   obtain⟨_,_,_,hg⟩:=hg
   dsimp only at hs
   have hag: ∀i,ah (aL d.links k {f with got:=l.seq}) i=if i=k then some {f with got:=l.seq}else ah d.links i:=fun i=>aJ
   have hkY:k≠Y:=by
    rintro rfl
    have:=h.self k
    rw[hY]at this
    replace this:(ah d.links k).isSome=false:=this
    rw[hf]at this;cases this
   generalize hd0:({d with links:=aL d.links k {f with got:=l.seq}}:ao)=d0 at hs
   have hd0p:d0.pre=d.pre:=by rw[←hd0]
   have hd0l:d0.links=aL d.links k {f with got:=l.seq}:=by rw[←hd0]
   have hd0ok:aV N d0:=by rw[←hd0];exact hd.sput hf (hd.sent k f hf).1 hsq
   have hv0:(vw d0).lst=(vw d).lst∧(vw d0).tld=(vw d).tld∧(vw d0).opn=(vw d).opn∧(vw d0).rep=(vw d).rep:=by unfold vw;rw[hd0p];exact⟨rfl,rfl,rfl,rfl⟩
   have hr:=Nf (d:=d0) (k:=k) (p:=l.p) (v:=l.v) (tag:=l.tag) fun x hx=>(hd0ok.kn _ x hx).ndr
   have hrl:=kq k l.p l.v l.tag d0
   have hrok:=Gl (k:=k) (v:=l.v) hd0ok hpf htg
   generalize eo k l.p l.v l.tag d0=d1 at hs hr hrl hrok
   rw[hd0l]at hrl
   obtain⟨r1,r2,r3,r4,r5⟩:=hr
   rw[hv0.1]at r1;rw[hv0.2.1]at r2;rw[hv0.2.2.1]at r3;rw[hv0.2.2.2]at r5
   have hlk1:(vw d1).lk=(vw d).lk:=by
    funext i;show(ah d1.links i).isSome=(ah d.links i).isSome
    rw[hrl,hag];split
    ·rename_i e;rw[e,hf];rfl
    ·rfl
   have j1:Cir E C (upd S Y (vw d1)) L:=by
    refine h.hear hl rfl hE (Ns _) ?_ ?_ ?_ ?_ ?_ ?_ ?_ ?_ ?_ ?_<;>(try rw[hY])
    ·show EA (ah d.links k)<l.seq;rw[hf];show f.got<l.seq;omega
    ·exact r1
    ·exact r2
    ·exact r3
    ·exact hlk1
    ·funext i;show oC (ah d1.links i)=oC (ah d.links i);rw[hrl,hag];split
     ·rename_i e;rw[e,hf];rfl
     ·rfl
    ·show EA (ah d1.links k)=l.seq;rw[hrl,hag,if_pos rfl];rfl
    ·intro i hi;show EA (ah d1.links i)=EA (ah d.links i);rw[hrl,hag,if_neg hi]
    ·exact r4
    ·exact r5
   have hSk:upd S Y (vw d1) k=S k:=tX hkY
   have hlkY:(vw d1).lk k=true:=by rw[hlk1];show(ah d.links k).isSome=true;rw[hf];rfl
   have hlkk:(S k).lk Y=true:=(h.nolet _ hl hE).1
   have pk:=j1.pair k Y (by rw[hSk];exact hlkk) (by rw[gh];exact hlkY) hE
   have py:=j1.pair Y k (by rw[gh];exact hlkY) (by rw[hSk];exact hlkk) hE2
   rw[gh,hSk]at pk py
   have hf1:ah d1.links k=some {f with got:=l.seq}:=by rw[hrl,hag,if_pos rfl]
   have hff:=h.snt hY hf
   have hsl:(aW {f with got:=l.seq}).sent=f.sent+1:=nf (l:={f with got:=l.seq}) (by show 0≤f.sent∧f.sent<_;omega)
   generalize hd2:(if l.code=2 then {d1 with links:=aL d1.links k (aW {f with got:=l.seq})}else d1)=d2 at hs
   generalize hl1:(if l.code=2 then[⟨k,3,(aW {f with got:=l.seq}).sent,l.seq,l.p,(mH d1 l.p).v,(mH d1 l.p).tag⟩]else[]:List Ltr)=ls1 at hs
   have hd2p:d2.pre=d1.pre:=by rw[←hd2];split<;>rfl
   have hag2: ∀i,ah (aL d1.links k (aW {f with got:=l.seq})) i=if i=k then some (aW {f with got:=l.seq})else ah d1.links i:=fun i=>aJ
   have hv2:(vw d2).lst=(vw d1).lst∧(vw d2).tld=(vw d1).tld∧(vw d2).rep=(vw d1).rep∧(vw d2).opn=(vw d1).opn:=by unfold vw;rw[hd2p];exact⟨rfl,rfl,rfl,rfl⟩
   have hlk2:(vw d2).lk=(vw d1).lk:=by
    funext i;show(ah d2.links i).isSome=(ah d1.links i).isSome
    rw[←hd2];split
    ·show(ah (aL d1.links k _) i).isSome=_
     rw[hag2];split
     ·rename_i e;rw[e,hf1];rfl
     ·rfl
    ·rfl
   have hgot2:(vw d2).got=(vw d1).got:=by
    funext i;show EA (ah d2.links i)=EA (ah d1.links i)
    rw[←hd2];split
    ·show EA (ah (aL d1.links k _) i)=_
     rw[hag2];split
     ·rename_i e;rw[e,hf1];rfl
     ·rfl
    ·rfl
   have hsn2: ∀i,(vw d1).snt i≤(vw d2).snt i∧(vw d2).snt i≤(vw d1).snt i+1:=by
    intro i;show oC (ah d1.links i)≤oC (ah d2.links i)∧oC (ah d2.links i)≤oC (ah d1.links i)+1
    rw[←hd2];split
    ·show _≤oC (ah (aL d1.links k _) i)∧oC (ah (aL d1.links k _) i)≤_
     rw[hag2];split
     ·rename_i e;rw[e,hf1];show f.sent≤(aW {f with got:=l.seq}).sent∧(aW {f with got:=l.seq}).sent≤f.sent+1;omega
     ·omega
    ·omega
   have j2:Cir E (C+1) (upd S Y (vw d2)) L:=by
    have:=j1.bump (Y:=Y) (v:=vw d2) (by rw[gh];exact hv2.1) (by rw[gh];exact hv2.2.1) (by rw[gh];exact hv2.2.2.1) (by rw[gh];exact hv2.2.2.2) (by rw[gh];exact hlk2) (by rw[gh];exact hgot2) (by rw[gh];exact hsn2)
    rw[se]at this
    exact this
   have j3:Cir E (C+1) (upd S Y (vw d2)) (w4 L Y ls1):=by
    refine j2.add (Y:=Y) ?_
    rintro z (hz|⟨y,hy,rfl⟩)
    ·exact .inl hz
    ·refine .inr ⟨rfl,?_⟩
     rw[gh]
     rw[←hl1]at hy
     split at hy
     ·rename_i hc
      rw[List.mem_singleton]at hy
      subst hy
      refine⟨?_,?_,?_,?_⟩
      ·show(vw d2).lk k=true;rw[hlk2];exact hlkY
      ·show(aW {f with got:=l.seq}).sent≤oC (ah d2.links k)
       rw[←hd2,if_pos hc]
       show _≤oC (ah (aL d1.links k _) k)
       rw[hag2,if_pos rfl]
       exact Int.le_refl _
      ·show ofV (mH d1 l.p).v=(vw d2).tld l.p
       rw[hv2.2.1]
       show _=yW (ah d1.pre l.p)
       unfold mH
       cases ah d1.pre l.p with
       |none=>exact LW
       |some x=>rfl
      ·intro _ _
       show l.seq≤(upd S Y (vw d2) k).snt Y∧((3:Int)=3→ ∀n,(upd S Y (vw d2) k).opn l.p Y=some n→l.seq=n→n≤(vw d2).got k∧(upd S Y (vw d2) k).tld l.p≤(vw d2).rep l.p k)
       rw[tX hkY,hgot2,hv2.2.2.1]
       refine⟨pk.f1 _ hl rfl rfl,fun _ n hn he=>⟨?_,?_⟩⟩
       ·show n≤EA (ah d1.links k)
        rw[hf1];show n≤l.seq;omega
       ·have g:=pk.d _ n hl rfl rfl hn (by show n≤l.seq;omega)
        have i1:=h.inf k l.p
        rcases r4 with r|r<;>rw[r]
        ·exact g
        ·exact i1
     ·cases hy
   have hpx: ∀x,ah d1.pre l.p=some x→x.p=l.p:=fun x hx=>(hrok.kn _ x hx).px
   split at hs
   ·obtain⟨rfl,rfl⟩:=hs;exact j3.more (fun _ _ a=>a) (by omega)
   ·rename_i x hx
    obtain⟨ls2,hset,rfl⟩:=hs
    have hx1:ah d1.pre l.p=some x:=hd2p▸hx
    rw[←Fa]
    have hag3: ∀(y:di) q,ah (aL d2.pre l.p y) q=if q=l.p then some y else ah d2.pre q:=fun y q=>aJ
    have j4:Cir E (C+1) (upd S Y (vw {d2 with pre:=aL d2.pre l.p (if l.code=3∧ah x.opn k=some l.ack then gi x k else x)})) (w4 L Y ls1):=by
     by_cases hc:l.code=3∧ah x.opn k=some l.ack
     ·rw[if_pos hc]
      have hno:=(hrok.kn _ x hx1).ndo
      unfold gi
      rw[hc.2]
      dsimp only
      have hls1:ls1=[]:=by rw[←hl1,if_neg (by omega)]
      rw[hls1,na]
      have g:Cir E (C+1) (upd (upd S Y (vw d2)) Y (vw {d2 with pre:=aL d2.pre l.p {x with opn:=dq x.opn k,least:=if(dq x.opn k).length=0 then ofV x.told.v else x.least}})) L:=by
       refine j2.close (p:=l.p) (k:=k) ?_ ?_ ?_ ?_ ?_ ?_ ?_ ?_ ?_ ?_ ?_ ?_<;>(try rw[gh])<;>(try rfl)
       ·intro q hq;show xn (ah (aL d2.pre l.p _) q)=xn (ah d2.pre q);rw[hag3,if_neg hq]
       ·funext q;show yW (ah (aL d2.pre l.p _) q)=yW (ah d2.pre q);rw[hag3];split
        ·rename_i e;rw[e,hx];rfl
        ·rfl
       ·funext q i;show Ar (ah (aL d2.pre l.p _) q) i=Ar (ah d2.pre q) i;rw[hag3];split
        ·rename_i e;rw[e,hx];rfl
        ·rfl
       ·intro q hq;funext i;show tg (ah (aL d2.pre l.p _) q) i=tg (ah d2.pre q) i;rw[hag3,if_neg hq]
       ·show tg (ah (aL d2.pre l.p _) l.p) k=none
        rw[hag3,if_pos rfl]
        show ah (dq x.opn k) k=none
        rw[db hno,if_pos rfl]
       ·intro i hi
        show tg (ah (aL d2.pre l.p _) l.p) i=tg (ah d2.pre l.p) i
        rw[hag3,if_pos rfl,hx]
        show ah (dq x.opn k) i=ah x.opn i
        rw[db hno,if_neg hi]
       ·show tg (ah d2.pre l.p) k≠none
        rw[hx]
        show ah x.opn k≠none
        rw[hc.2];exact Option.some_ne_none _
       ·show xn (ah (aL d2.pre l.p _) l.p)=xn (ah d2.pre l.p)∨xn (ah (aL d2.pre l.p _) l.p)=yW (ah d2.pre l.p)∧ ∀i,tg (ah (aL d2.pre l.p _) l.p) i=none
        rw[hag3,if_pos rfl,hx]
        show(if(dq x.opn k).length=0 then ofV x.told.v else x.least)=x.least∨(if(dq x.opn k).length=0 then ofV x.told.v else x.least)=ofV x.told.v∧ ∀i,ah (dq x.opn k) i=none
        by_cases c:(dq x.opn k).length=0
        ·refine .inr ⟨if_pos c,fun i=>?_⟩
         rw[List.length_eq_zero_iff.1 c];rfl
        ·exact .inl (if_neg c)
       ·intro _ _ _
        rw[tX hkY,hv2.2.1]
        have ho:(vw d1).opn l.p k=some l.ack:=by
         show tg (ah d1.pre l.p) k=some l.ack
         rw[hx1];exact hc.2
        obtain⟨g1,g2⟩:=py.e _ l.ack hl rfl rfl hc.1 ho rfl
        refine⟨g2,fun z hz z1 z2 z3 z4=>?_⟩
        have:=py.d z l.ack hz z1 z2 (by rw[z3];exact ho) (by omega)
        rwa[z3]at this
      rw[se]at g
      exact g
     ·rw[if_neg hc]
      have:vw {d2 with pre:=aL d2.pre l.p x}=vw d2:=by
       rw[Ce hx]
      rw[this];exact j3
    have j5:=j4.settle (by omega) (gh _ _ _) (p:=l.p) (ls:=ls2) (d':=d') (fun y hy=>by
     replace hy:ah (aL d2.pre l.p _) l.p=some y:=hy
     rw[hag3,if_pos rfl]at hy
     injection hy with hy
     rw[←hy]
     split
     ·unfold gi;split<;>exact hpx x hx1
     ·exact hpx x hx1) hset
    rw[se]at j5
    exact j5.more (fun _ _ a=>a) (by omega)
end
section
variable {E:Int→Int→Prop} {C:Int} {S:Int→Ak} {L:Lt→Prop} {Y:Int} {d d':ao}
abbrev noE:Int→Int→Prop:=fun _ _=>False
abbrev Bc(a b:Int):Int→Int→Prop:=fun Y X=>Y=a∧X=b∨Y=b∧X=a
theorem Cir.uncut{a b:Int}(h:Cir (Bc a b) C S L){L':Lt→Prop}(la:(S a).lk b=false)(lb:(S b).lk a=false)(ra: ∀p,(S a).rep p b=INF∧(S a).opn p b=none)(rb: ∀p,(S b).rep p a=INF∧(S b).opn p a=none)
  (hL: ∀l,L' l→L l∧ ¬(l.fr=a∧l.to=b)∧ ¬(l.fr=b∧l.to=a)):Cir noE C S L':=by
 have hne: ∀Y X,(S Y).lk X=true→ ¬Bc a b Y X:=by
  rintro Y X hk (⟨rfl,rfl⟩|⟨rfl,rfl⟩)
  ·rw[la]at hk;cases hk
  ·rw[lb]at hk;cases hk
 have h':=h.sub (L':=L') fun l hl=>(hL l hl).1
 refine⟨fun Y X hY hX _=>h'.pair Y X hY hX (hne Y X hY),h.self,h.least,h.inf,?_,?_,?_,fun Y X _ hY=>h.sym Y X (hne Y X hY) hY,h.bd⟩
 ·intro Y p k hk
  rcases h.opl Y p k hk with g|⟨rfl,rfl⟩|⟨rfl,rfl⟩
  ·exact .inl g
  ·exact absurd (ra p).2 hk
  ·exact absurd (rb p).2 hk
 ·intro Y p k hk
  rcases h.repl Y p k hk with g|⟨rfl,rfl⟩|⟨rfl,rfl⟩
  ·exact .inl g
  ·exact absurd (ra p).1 hk
  ·exact absurd (rb p).1 hk
 ·intro l hl _
  obtain⟨h1,h2,h3⟩:=hL l hl
  exact h.nolet l h1 fun e=>e.elim h2 h3
theorem Cir.unraise{a b:Int}(h:Cir (Bc a b) C S L)(la:(S a).lk b=true)(lb:(S b).lk a=true)(ra: ∀p,(S a).rep p b=INF∧(S a).opn p b=none)(rb: ∀p,(S b).rep p a=INF∧(S b).opn p a=none)
  (ga:(S a).got b=0)(gb:(S b).got a=0)
  (hab: ∀l,L l→l.fr=a→l.to=b→l.val=(S a).tld l.p∧l.seq≤(S a).snt b∧l.ack=0)(hba: ∀l,L l→l.fr=b→l.to=a→l.val=(S b).tld l.p∧l.seq≤(S b).snt a∧l.ack=0):Cir noE C S L:=by
 have hne:a≠b:=by rintro rfl;rw[h.self]at la;cases la
 have key: ∀{a b:Int},(∀p,(S b).rep p a=INF)→(∀p,(S a).opn p b=none)→(S b).got a=0→(∀l,L l→l.fr=a→l.to=b→l.val=(S a).tld l.p∧l.seq≤(S a).snt b∧l.ack=0)→(∀l,L l→l.fr=b→l.to=a→l.ack=0)→Hm (S a) (S b) a b L:=by
  intro a b r o g h1 h2
  have hs:=h.bd a b
  refine⟨fun l hl x y _=>?_,fun p=>?_,fun p k _ _=>?_,fun l k hl x y _ _ _=>?_,fun l n hl x y hn=>?_,fun l n hl x y _ hn=>?_,fun l hl x y=>(h1 l hl x y).2.1,fun l hl x y=>?_,?_,fun p n hn=>?_⟩
  ·rw[(h1 l hl x y).1];exact h.least a _
  ·rw[r];exact Int.le_trans (h.least a p) (h.inf a p)
  ·rw[r];exact h.inf a p
  ·rw[(h1 l hl x y).1];exact Int.le_refl _
  ·rw[o]at hn;cases hn
  ·rw[o]at hn;cases hn
  ·rw[h2 l hl x y];exact hs.1
  ·rw[g];exact hs.1
  ·rw[o]at hn;cases hn
 refine⟨?_,h.self,h.least,h.inf,?_,?_,?_,?_,h.bd⟩
 ·intro Y X hY hX _
  by_cases e:Bc a b Y X
  ·rcases e with⟨rfl,rfl⟩|⟨rfl,rfl⟩
   ·exact key (fun p=>(rb p).1) (fun p=>(ra p).2) gb hab fun l hl x y=>(hba l hl x y).2.2
   ·exact key (fun p=>(ra p).1) (fun p=>(rb p).2) ga hba fun l hl x y=>(hab l hl x y).2.2
  ·exact h.pair Y X hY hX e
 ·intro Y p k hk
  rcases h.opl Y p k hk with g|⟨rfl,rfl⟩|⟨rfl,rfl⟩
  ·exact .inl g
  ·exact .inl la
  ·exact .inl lb
 ·intro Y p k hk
  rcases h.repl Y p k hk with g|⟨rfl,rfl⟩|⟨rfl,rfl⟩
  ·exact .inl g
  ·exact .inl la
  ·exact .inl lb
 ·intro l hl _
  by_cases e:Bc a b l.fr l.to
  ·rcases e with⟨e1,e2⟩|⟨e1,e2⟩
   ·rw[e1,e2];exact⟨la,lb⟩
   ·rw[e1,e2];exact⟨lb,la⟩
  ·exact h.nolet l hl e
 ·intro Y X _ hY
  by_cases e:Bc a b Y X
  ·rcases e with⟨rfl,rfl⟩|⟨rfl,rfl⟩
   ·exact lb
   ·exact la
  ·exact h.sym Y X e hY
theorem Cir.fresh(h:Cir noE C S L){v:Ak}(hno: ∀k,(S Y).lk k=false)(hv:v=vw ⟨0,64,[],[]⟩):Cir noE C (upd S Y v) L:=by
 subst hv
 refine h.at (Int.le_refl _) (fun l hl=> .inl hl) ?_ ?_ rfl (fun p=>Int.le_refl _) (fun p=>Int.le_refl _) (fun p k x=>absurd rfl x) (fun p k x=>absurd rfl x) (fun k _=>(hno k).symm) (fun l hl _=> .inl hl) (fun k=>?_)
 ·intro X _ hv _ _;cases hv
 ·intro X _ _ hv _;cases hv
 ·have:=h.bd Y k;exact⟨Int.le_refl _,by show(0:Int)≤C;omega⟩
theorem Cir.start{C:Int}(hC:0≤C):Cir noE C (fun _=>vw ⟨0,64,[],[]⟩) (fun _=>False)where
 pair:=fun Y X h=>by cases h
 self:=fun Y=>rfl
 least:=fun Y p=>Int.le_refl _
 inf:=fun Y p=>Int.le_refl _
 opl:=fun Y p k x=>absurd rfl x
 repl:=fun Y p k x=>absurd rfl x
 nolet:=fun l hl=>hl.elim
 sym:=fun Y X _ h=>by cases h
 bd:=fun Y k=>⟨Int.le_refl _,hC⟩
theorem Cir.rank(h:Cir noE C S L)(hY:S Y=vw d){p:Pf}{x:di}(hx:ah d.pre p=some x){r:Way}(ho: ∀w,x.own=some w→w.next=0)(hb:vK d x x.least (some r))(hn:r.next≠0):(S r.next).lst p<(S Y).lst p:=by
 rcases hb.2 r rfl with g|⟨k,l,rp,hl,hr,hlt,rfl,_⟩
 ·exact absurd (ho r g) hn
 ·have hk:(S Y).lk k=true:=by rw[hY];show(ah d.links k).isSome=true;rw[hl];rfl
  have hk2:=h.sym Y k (fun e=>e) hk
  have g:=(h.pair k Y hk2 hk fun e=>e).b p
  have e1:(S Y).rep p k=ofV rp.v:=by
   rw[hY]
   show Ar (ah d.pre p) k=_
   rw[hx]
   show(match ah x.rep k with|some w=>ofV w.v|none=>INF)=_
   rw[hr]
  have e2:(S Y).lst p=x.least:=by rw[hY];show xn (ah d.pre p)=_;rw[hx];rfl
  show(S k).lst p<_
  omega
end
abbrev ed1:Ed:=⟨1,2,1⟩
abbrev Li:Vec:=⟨10000000,0,0⟩
abbrev pf5:Int×Int:=NZ 5
theorem Qm:ov pf5.1.toNat pf5.2=true:=by kernel_rfl
theorem Mq:gd Li=true:=by kernel_rfl
theorem IN:ofV Li=256:=by kernel_rfl
theorem Re:ofV G5=4294967295:=by kernel_rfl
abbrev vL:Vec:=⟨10000,10,1⟩
theorem R2:lO vL=true:=by kernel_rfl
abbrev dA(k:Int):ao:=⟨0,64,[(k,⟨vL,0,0⟩)],[]⟩
abbrev bA(id k:Int):dm ao:=⟨id,dA k,[(plK k,1)],[],[],[],0⟩
theorem Qr{k:Int}{d':ao}{ls:List Ltr}(hk:1≤k∧k≤32)(h:UpR k ⟨10000,IntKind.i64.wrap (10*1),1⟩ ⟨0,64,[],[]⟩ d' ls):d'=dA k∧ls=[]:=by
 rw[show(⟨10000,IntKind.i64.wrap (10*1),1⟩:Vec)=vL from rfl]at h
 unfold UpR at h
 rw[if_neg (by rw[R2];simp[ah];omega)]at h
 obtain⟨ps,hps,hf⟩:=h
 obtain rfl:ps=[]:=List.Perm.eq_nil hps
 exact⟨hf.1,hf.2⟩
theorem Jn{b b':dm ao}(hp:b.s.pre=[])(ht:b.tab=[])(h:Ld aU b b'):b'=b:=by
 obtain⟨rs,t',⟨ps,hps,hall⟩,⟨ts,hts,rfl⟩,rfl⟩:=h
 rw[hp]at hps
 obtain rfl:ps=[]:=List.Perm.eq_nil hps
 obtain rfl:rs=[]:=hall
 rw[ht]at hts
 obtain rfl:ts=[]:=List.Perm.eq_nil hts
 cases b
 dsimp only at ht
 subst ht
 rfl
theorem N0{b b':dm ao}(hp:b.s.pre=[])(ht:b.tab=[])(h:JK aU b b'):b'=b:=by
 obtain⟨b1,h1,h2⟩:=h
 have e1:=Jn hp ht h1
 subst e1
 exact Jn hp ht h2
theorem FY{id k:Int}{b':dm ao}{e:Int}(hk:1≤k∧k≤32)(hne:k≠id)(h:uS aU k 1 (DD aU id) b' e):b'=bA id k:=by
 unfold uS at h
 rw[if_neg (by show¬(k<1∨k>32∨k=id∨(1:Int)<1∨(1:Int)>15);omega),if_neg (by simp[ah])]at h
 obtain⟨_,s',ls,hu,hr⟩:=h
 obtain⟨rfl,rfl⟩:=Qr hk hu
 exact N0 rfl rfl hr
theorem QZ{s:en aU}(h:PY aU 2 [ed1] s):s=⟨[bA 1 2,bA 2 1],[true],[],0⟩:=by
 obtain⟨s1,⟨e,s2,he,⟨b1,b1',b2,b2',x,y,h1,h2,h3,h4,rfl⟩,rfl⟩,rfl⟩:=h
 have he:e=ed1:=by simpa using he.symm
 subst he
 have h1:b1=DD aU 1:=by
  have:some (DD aU 1)=some b1:=h1
  injection this with this;exact this.symm
 subst h1
 have e1:=FY ⟨by decide,by decide⟩ (by decide) h2
 subst e1
 have h3:b2=DD aU 2:=by
  have:some (DD aU 2)=some b2:=h3
  injection this with this;exact this.symm
 subst h3
 have e2:=FY ⟨by decide,by decide⟩ (by decide) h4
 subst e2
 rfl
abbrev Rm:di:=⟨pf5,some ⟨Li,0,0⟩,[],fe,4294967295,[]⟩
abbrev PN:di:=⟨pf5,some ⟨Li,0,0⟩,[],⟨Li,0,0⟩,256,[]⟩
abbrev dC:ao:=⟨0,64,[(2,⟨vL,0,0⟩)],[(pf5,Rm)]⟩
abbrev dB:ao:=⟨0,64,[(2,⟨vL,1,0⟩)],[(pf5,PN)]⟩
theorem IL{d:ao}{x:di}{w:Way}{b:Int}{r:Option Way}(ho:x.own=some w)(hr:x.rep=[])(h:vK d x b r):r=some w:=by
 cases r with
 |none=>rw[h.1 rfl]at ho;cases ho
 |some z=>
  rcases h.2 z rfl with g|⟨k,l,rp,_,g,_⟩
  ·rw[ho]at g;rw[g]
  ·rw[hr]at g;cases g
theorem QG{d':ao}{ls:List Ltr}{e:Int}(h:GP pf5 Li 0 (dA 2) d' ls e):d'=dB∧ls.length=1∧e=0:=by
 unfold GP at h
 rw[if_neg (by rw[Qm,Mq];simp),if_neg (by rw[Nr];simp)]at h
 have ha:ah (sH (dA 2) pf5).pre pf5=some (L8 pf5):=by
  unfold sH
  rw[if_pos ⟨rfl,by decide⟩]
  show ah (aL [] pf5 _) pf5=_
  rw[aJ,if_pos rfl]
 rw[ha]at h
 dsimp only at h
 have hD:({sH (dA 2) pf5 with pre:=aL (sH (dA 2) pf5).pre pf5 {L8 pf5 with own:=some ⟨Li,0,0⟩}}:ao)=dC:=by
  unfold sH
  rw[if_pos ⟨rfl,by decide⟩]
  show(⟨0,64,[(2,⟨vL,0,0⟩)],aL (aL [] pf5 _) pf5 _⟩:ao)=_
  rw[tO]
  rfl
 have key:e=0∧ju pf5 dC d' ls:=by rw[←hD];exact h
 clear h
 obtain⟨he,x,r,hx,hb,h⟩:=key
 obtain rfl:Rm=x:=by
  rw[show ah dC.pre pf5=some Rm by show ah [(pf5,Rm)] pf5=_;rw[ah,if_pos rfl]]at hx
  injection hx
 obtain rfl:=IL rfl rfl hb
 rcases h with⟨h,_⟩|⟨_,ks,hks,h1,h2⟩
 ·exfalso
  rcases h with h|h
  ·exact absurd h (by decide)
  ·have h2:Li=G5:=congrArg Way.v h
   exact absurd (congrArg Vec.b h2) (by decide)
 ·obtain rfl:ks=[2]:=List.perm_singleton.1 hks
  refine⟨?_,by rw[h2];rfl,he⟩
  rw[h1]
  have hs:dX dC Rm {(some ⟨Li,0,0⟩:Option Way).getD fe with next:=0} [2]=PN:=by
   have gt: ¬ofV Li>ofV G5:=by rw[IN,Re];decide
   have lt:ofV Li<4294967295:=by rw[IN];decide
   unfold dX
   dsimp only[Option.getD]
   rw[if_neg gt,if_neg (by decide),if_neg gt,if_pos lt,IN]
  rw[hs]
  show(⟨0,64,[(2,aW ⟨vL,0,0⟩)],aL [(pf5,Rm)] pf5 PN⟩:ao)=_
  rw[aL,if_pos rfl]
  rfl
abbrev rtA:Rt:=⟨pf5,0,90,256,0,0⟩
theorem MX:Bx rtA=true:=by kernel_rfl
theorem JW{b b':dm ao}(hs:b.s=dB)(ht:b.tab=[]∨b.tab=[((pf5,0),rtA)])(h:Ld aU b b'):b'={b with tab:=[((pf5,0),rtA)]}:=by
 obtain⟨rs,t',⟨ps,hps,hall⟩,⟨ts,hts,rfl⟩,rfl⟩:=h
 have hps:ps.Perm [pf5]:=by rw[hs]at hps;exact hps
 obtain rfl:ps=[pf5]:=List.perm_singleton.1 hps
 obtain⟨x,r,rs2,hx,hb,h2,rfl⟩:=hall
 obtain rfl:rs2=[]:=h2
 rw[hs]at hx hb
 obtain rfl:PN=x:=by
  rw[show ah dB.pre pf5=some PN by show ah [(pf5,PN)] pf5=_;rw[ah,if_pos rfl]]at hx
  injection hx
 obtain rfl:=IL rfl rfl hb
 rw[hs]
 have hrs:((some (⟨Li,0,0⟩:Way)).map (NX dB PN)).toList++[]=[rtA]:=by
  show[NX dB PN ⟨Li,0,0⟩]=[rtA]
  unfold NX
  rw[IN]
 rw[hrs]
 congr 1
 rcases ht with ht|ht
 ·rw[ht]at hts⊢
  obtain rfl:ts=[]:=List.Perm.eq_nil hts
  show JF [] rtA=_
  unfold JF
  rw[if_pos ⟨MX,.inr (by decide)⟩]
  rfl
 ·rw[ht]at hts⊢
  obtain rfl:ts=[rtA]:=List.perm_singleton.1 hts
  have htk:jx [rtA] [rtA] [((pf5,0),rtA)]=[((pf5,0),rtA)]:=by
   unfold jx
   rw[if_neg (by simp)]
   rfl
  rw[htk]
  show JF [((pf5,0),rtA)] rtA=_
  unfold JF
  rw[if_pos ⟨MX,.inr (by decide)⟩,aL,if_pos rfl]
theorem Nt{s s':en aU}{e:Int}(h:PY aU 2 [ed1] s)(hd:doR aU [ed1] 6 1 0 5 s s' e):e=0∧s'.bs.length=2∧s'.bag.length=1∧ ∃b,s'.bs[0]? =some b∧QY b.tab=[rtA]:=by
 obtain rfl:=QZ h
 obtain⟨s1,h1,rfl⟩:=hd
 unfold xa at h1
 rw[if_neg (by decide),if_neg (by decide),if_neg (by decide),if_pos (by decide)]at h1
 unfold yu at h1
 rw[if_neg (by show¬ ¬(1≤(1:Int)∧(1:Int)≤((2:Nat):Int));decide),if_neg (by decide)]at h1
 obtain⟨b,b',hb,ho,rfl⟩:=h1
 have hb:b=bA 1 2:=by
  have:some (bA 1 2)=some b:=hb
  injection this with this;exact this.symm
 subst hb
 rw[if_neg (by decide)]at ho
 unfold zy at ho
 rw[if_neg (by decide)]at ho
 obtain⟨d',ls,e1,hu,rfl,ho⟩:=ho
 obtain⟨rfl,hl,rfl⟩:=QG hu
 rw[if_neg (by decide)]at ho
 obtain⟨b1,f1,f2⟩:=ho
 have g1:=JW rfl (.inl rfl) f1
 subst g1
 have g2:=JW rfl (.inr rfl) f2
 subst g2
 refine⟨rfl,rfl,?_,_,rfl,rfl⟩
 show([]++((([]:List Pk)++ls.map (lpk 1))++(([]:List Pk)++[]))).length=1
 simp[hl]
theorem Qn:ir 2 [ed1]:=by
 intro i e he
 match i with
 |0=>
  have he:e=ed1:=by simpa using he.symm
  subst he
  rfl
 |i+1=>simp at he
theorem K1{I:Ctx}:Fn Tryz.prog 6 #[] I [] (fun v h'=>v= .bool true∧h'=[]):=by
 refine zh ?_
 refine ak [] _ pw (List.Perm.refl _) (fun hl=>Eh (K:=aU) (n:=2) (by omega)) ?_
 rintro w h1 ⟨A,c,csn,mN,hN,rfl,rfl,oN,hnd⟩
 refine⟨fun _=>{A:=A,n:=2,c:=c},rfl,?_⟩
 dsimp only
 refine gK (e:=42) ⟨Ed.C ed1⟩ kE fun g hg hgI=>?_
 dsimp only
 rw[List.append_nil]
 refine ak hN _ wh (aM.perm (m:=hN) pE) (fun hl=>JN (K:=aU) (n:=2) (es:=[ed1]) (csn:=csn) gP ?_ hnd (fun e=>by have:=oN.some_of e;omega) ?_ (fun e=>by cases e) (by decide) (by omega) (by omega) (by decide)) ?_
 ·have hl':=((hl.perm (aM.perm (m:=hN) pE)).perm List.perm_append_comm).left
  exact(oN.rd sE).all hl'
 ·have hl':=((hl.perm (aM.perm (m:=hN) pE)).perm List.perm_append_comm).left
  exact RdC.all hl' (fun _=>⟨_,rfl,cw mE rfl⟩)
 rintro w h2 (⟨rfl,hf⟩|⟨q,s,rfl,hf,hnew,hm⟩)
 ·exact absurd Qn hf
 refine⟨ag [{A:=some ⟨q,0,none⟩},{i:=0}],rfl,?_⟩
 dsimp only[ag]
 refine kb kE ?_
 refine b7 rfl ?_
 refine b7 rfl ?_
 have hok:=HS gP (by omega) (by decide) hf hnew
 refine ak h2 _ lG (List.Perm.refl _) (fun hl=>IV gP hm hok (by decide)) ?_
 rintro w h3 ⟨e,s',rfl,hd,hm2⟩
 obtain⟨rfl,hlen,hbag,b,hb,htab⟩:=Nt hnew hd
 refine⟨fun _=>{i:=0},rfl,?_⟩
 refine ak h3 _ jI (List.Perm.refl _) (fun hl=>CI (id:=1) hm2 (by omega)) ?_
 rintro w h4 ⟨rs,m1,m2,rfl,ht,hm3,At,ct,rfl,ho⟩
 have hrs:rs=[rtA]:=by
  unfold Ri at ht
  rw[if_pos (by rw[hlen];exact⟨by decide,by decide⟩)]at ht
  obtain⟨b2,hb2,hp⟩:=ht
  have:b2=b:=by
   have h0:s'.bs[0]? =some b2:=hb2
   rw[hb]at h0;injection h0 with h0;exact h0.symm
  subst this
  rw[htab]at hp
  exact List.perm_singleton.1 hp
 subst hrs
 refine⟨fun _=>{A:=At,n:=1,c:=ct},rfl,?_⟩
 refine aX rfl ?_
 refine aX rfl ?_
 obtain⟨ad,rfl,hcell⟩:=yO (i:=0) ho rfl
 dsimp only
 refine aI ad rfl (sz:=7) kE (by omega) (by omega) rfl ?_
 dsimp only
 refine aZ kE (hcell _ _ (fun x hx=>List.mem_append_left _ (List.mem_append_right _ hx)) 5 _ rfl) ?_
 refine aX rfl ?_
 simp only[List.append_assoc]
 refine ak m1 _ o9 (aM.perm (m:=m1) pE) (fun hl=>J6 hm3) ?_
 rintro w h5 ⟨rfl,hm4⟩
 refine⟨fun _=>{i:=(s'.bag.length:Nat)},rfl,?_⟩
 exact aC ⟨by rw[hbag];rfl,rfl⟩
def Rx(K:az)(n:Nat)(es:List Ed):Prop:= ∃P:Nat→en K→Prop,(∀s,PY K n es s→P 0 s)∧(∀i s s' kd A B C e,i<120→P i s→doR K es kd A B C s s' e→P (i+1) s')∧ ∀i s,P i s→ ∀p,∃rk,Ig s p rk
theorem OC{I:Ctx}{n:Nat}{es:List Ed}{P:Nat→en aU→Prop}{q:Nat}{Al:Option Addr}{cl:Nat}{l:List Q4}(hin:RdC I [] Al (l.flatMap Q4.C))(hl:l.length≤120)(hel:es.length≤12)(hn:n≤6)
  (hP: ∀i s s' kd A B C e,i<120→P i s→doR aU es kd A B C s s' e→P (i+1) s')(hF: ∀i s,P i s→ ∀p,∃rk,Ig s p rk):
  ∀(k i:Nat) (s:en aU) (m h gg:Mem) (u:Nat→Value),i+k=l.length→P i s→i5 aU n es (es.length*200000+i*vP es) s→iB aU n es s q m→aM h m gg→
  Wp Tryz.prog 5 fl (fh Al l.length cl (some ⟨q,0,none⟩) i u) I h (cl_ fun v h'=>v= .bool true∧h'=[]):=by
 intro k
 induction k with
 |zero=>
  intro i s m h gg u hi hp hok hm hpk
  refine lA _ _ _ _ _ _ ?_
  refine b7 (by simp;omega) ?_
  exact aC ⟨rfl,rfl⟩
 |succ k ih=>
  intro i s m h gg u hi hp hok hm hpk
  obtain⟨x,hx⟩: ∃x,l[i]? =some x:=⟨_,List.getElem?_eq_getElem (show i<l.length by omega)⟩
  obtain⟨ad,rfl,hc⟩:=SC hin hx
  have hiw:i*vP es≤119*5000000:=Nat.mul_le_mul (by omega) (by unfold vP;omega)
  have hew:vP es≤5000000:=by unfold vP;omega
  refine Wp.perm (h:=m++gg) ?_ (List.Perm.symm hpk)
  refine lA _ _ _ _ _ _ ?_
  refine aX (by simp;omega) ?_
  refine aI ad rfl (sz:=4) kE (by omega) (by omega) rfl ?_
  dsimp only
  rw[Int.toNat_natCast]
  refine bL (cs:=Q4.C x) (ag [{i:=x.x},{i:=x.y},{i:=x.z},{i:=x.w}]) kE kE (hc.sub Sub.self) rfl ?_
  dsimp only[ag]
  refine ak m gg lG (List.Perm.refl _) (fun hl2=>IV gP hm hok (by omega)) ?_
  rintro w h2 ⟨e,s',rfl,hd,hm2⟩
  refine⟨fun _=>{i:=e},rfl,?_⟩
  have hp':=hP i s s' _ _ _ _ _ (by omega) hp hd
  have hok':=PQ gP hok hd
  refine ak h2 gg vU (List.Perm.refl _) (fun hl2=>Gr hm2 hok'.len (by omega) (hF _ s' hp')) ?_
  rintro w h3 ⟨rfl,hm3⟩
  refine⟨fun _=>{b:=false},rfl,?_⟩
  refine b7 rfl ?_
  refine aj fun _ _=>?_
  rw[dT (by omega)]
  exact ih (i+1) s' h3 _ gg _ (by omega) hp' (hok'.more (by rw[Nat.add_mul];omega)) hm3 (List.Perm.refl _)
theorem Hc{I:Ctx}{rn:Int}{Ae Al:Option Addr}{ce cl:Nat}{le l:List Q4}(hE:RdC I [] Ae (le.flatMap Q4.C))(hL:RdC I [] Al (l.flatMap Q4.C))
  (law: ∀(n:Nat) (es:List Ed),1≤n→n≤6→es.length≤12→ir n es→Rx aU n es):
  Fn Tryz.prog 5 #[.int .i64 rn,.slice Ae le.length ce,.slice Al l.length cl] I [] (fun v h'=>v= .bool true∧h'=[]):=by
 refine w5 _ _ _ _ _ _ _ ?_
 refine aA (v:= .bool true) (fun _=>{b:=true}) yy (fun hl=>K1) rfl ?_
 refine b7 rfl ?_
 refine ay (fun t=>aC ⟨rfl,rfl⟩) (fun t1=>?_)
 refine ay (fun t=>aC ⟨rfl,rfl⟩) (fun t2=>?_)
 refine ay (fun t=>aC ⟨rfl,rfl⟩) (fun t3=>?_)
 refine ay (fun t=>aC ⟨rfl,rfl⟩) (fun t4=>?_)
 have t1:1≤rn:=by simp at t1;omega
 have t2:rn≤6:=by simp at t2;omega
 have t3:le.length≤12:=by simp at t3;omega
 have t4:l.length≤120:=by simp at t4;omega
 obtain⟨n,rfl⟩: ∃n:Nat,rn=(n:Int):=⟨rn.toNat,by omega⟩
 refine ak [] _ pw (List.Perm.refl _) (fun hl=>Eh (K:=aU) (n:=n) (by omega)) ?_
 rintro w h1 ⟨A,c,csn,mN,hN,rfl,rfl,oN,hnd⟩
 refine⟨fun _=>{A:=A,n:=n,c:=c},rfl,?_⟩
 refine ak [] _ xp (List.Perm.refl _) (fun hl=>Lb (hE.up (Sub.self.up hl)) (by omega)) ?_
 rintro w mE ⟨A2,c2,rfl,oE⟩
 refine⟨fun _=>{A:=A2,n:=le.length,c:=c2},rfl,?_⟩
 have hel:(le.map Q4.ed).length=le.length:=by simp
 dsimp only
 refine aN (cl_.aff _) (g:=mE++(mN++hN)) (show List.Perm (mE++((mN++hN)++[])) _ from cE) ?_
 rw[←hel]at oE⊢
 refine ak hN _ wh (aM.perm (m:=hN) pE) (fun hl=>JN (K:=aU) (n:=n) (es:=le.map Q4.ed) (csn:=csn) gP ?_ hnd (fun e=>oN.some_of e) ?_ (fun e=>oE.some_of e) oE.2.1 (by omega) (by omega) (by omega)) ?_
 ·have hl':=((hl.perm (aM.perm (m:=hN) pE)).perm List.perm_append_comm).left
  exact(oN.rd sE).all hl'
 ·have hl':=((hl.perm (aM.perm (m:=hN) pE)).perm List.perm_append_comm).left
  exact(oE.rd sE).all hl'
 rintro w h2 (⟨rfl,hf⟩|⟨q,s,rfl,hf,hnew,hm⟩)
 ·refine⟨ag [{A:=none},{i:=1}],rfl,?_⟩
  dsimp only[ag]
  refine kb kE ?_
  refine aX rfl ?_
  refine kb kE ?_
  exact aC ⟨rfl,rfl⟩
 refine⟨ag [{A:=some ⟨q,0,none⟩},{i:=0}],rfl,?_⟩
 dsimp only[ag]
 refine kb kE ?_
 refine b7 rfl ?_
 refine b7 rfl ?_
 have hok:=HS gP (by omega) (by omega) hf hnew
 obtain⟨P,hP0,hP1,hP2⟩:=law n _ (by omega) (by omega) (by omega) hf
 refine aj fun _ _=>?_
 exact OC hL t4 (by omega) (by omega) hP1 hP2 l.length 0 s h2 _ _ _ (by omega) (hP0 s hnew) (hok.more (by omega)) hm (List.Perm.refl _)
theorem P4{N:Int→Prop}{x:Ltr}(h:nw N x):G9 (J4 x) ⟨x.p.1.toNat,x.p.2,x.v,x.tag.toNat⟩={x with to:=0}:=by
 obtain⟨to,code,seq,ack,⟨pa,pn⟩,v,tag⟩:=x
 obtain⟨h1,h2,h3,⟨h4,h5⟩,h6⟩:=h
 dsimp only at h2 h3 h4 h6
 unfold G9 J4
 simp only[Ltr.mk.injEq,Prod.mk.injEq,true_and,and_true]
 exact⟨Int.toNat_of_nonneg h2.1,Int.toNat_of_nonneg h3.1,Int.toNat_of_nonneg h4.1,Int.toNat_of_nonneg h6.1⟩
theorem Oj{N:Int→Prop}{x y:Ltr}(h:nw N x)(hy:JY (Md x)=some y):y={x with to:=0}:=by
 unfold Md at hy
 by_cases hd:(ii (J4 x)).2=0
 ·have hok:(J4 x).ok:=⟨by show x.seq.toNat<_;have:=h.seq;omega,by show x.ack.toNat<_;have:=h.ack;omega⟩
  have hes: ∀e∈(J4 x).es,e.ok:=by
   intro e he
   obtain rfl:e=⟨x.p.1.toNat,x.p.2,x.v,x.tag.toNat⟩:=List.mem_singleton.1 he
   exact⟨by show x.p.1.toNat<_;have:=h.p.1;omega,h.p.2,by show x.tag.toNat<_;have:=h.tag;omega⟩
  obtain⟨e1,_,e2⟩:=Oy hok hes hd
  rw[e1]at hy
  obtain⟨e,he,rfl,_⟩:=Ih hy
  rw[show(ww (J4 x),(0:Int)).1=ww (J4 x)from rfl]at he⊢
  rw[e2]at he⊢
  have:e=⟨x.p.1.toNat,x.p.2,x.v,x.tag.toNat⟩:=by
   have h0:[(⟨x.p.1.toNat,x.p.2,x.v,x.tag.toNat⟩:mV)]=[e]:=he
   injection h0 with h0;exact h0.symm
  subst this
  exact P4 h
 ·rw[OO hd]at hy
  have:JY []=none:=by
   unfold JY
   rw[show jS []=(vm,2)from u7 (.inl (by decide))]
   rfl
  rw[this]at hy
  cases hy
structure Jy (t:List (Rk×Rt)):Prop where
 nd:(am t).Nodup
 key: ∀q∈t,q.1=(q.2.p,0)∧q.2.dom=0∧ov q.2.p.1.toNat q.2.p.2=true
theorem Jy.put{t:List (Rk×Rt)}(h:Jy t){x:Rt}(hd:x.dom=0):Jy (JF t x):=by
 unfold JF
 split
 ·rename_i hc
  refine⟨jg h.nd,fun q hq=>?_⟩
  rcases zC h.nd hq with rfl|hq
  ·exact⟨rfl,hd,yl hc.1⟩
  ·exact h.key q hq.1
 ·exact h
theorem Jy.del{t:List (Rk×Rt)}(h:Jy t)(k:Rk):Jy (dq t k):=⟨lM h.nd,fun q hq=>h.key q (pB.subset hq)⟩
theorem EG{rs:List Rt}: ∀{ts:List Rt} {t:List (Rk×Rt)},Jy t→Jy (jx rs ts t)∧(∀q∈jx rs ts t,q∈t∧(q.2∈ts→q.2.p∈rs.map (·.p)))
 |[],t,h=>⟨h,fun q hq=>⟨hq,fun h=>by cases h⟩⟩
 |x::ts,t,h=>by
  rw[jx]
  have h1:Jy (if x.dom=0∧x.p∉rs.map (·.p)then dq t (x.p,0)else t):=by split;exact h.del _;exact h
  obtain⟨g1,g2⟩:=EG (ts:=ts) (rs:=rs) h1
  refine⟨g1,fun q hq=>?_⟩
  obtain⟨k1,k2⟩:=g2 q hq
  by_cases hc:x.dom=0∧x.p∉rs.map (·.p)
  ·rw[if_pos hc]at k1
   obtain⟨a,b⟩:=(FA h.nd).1 k1
   refine⟨a,fun hm=>?_⟩
   rcases List.mem_cons.1 hm with e|hm
   ·exfalso
    refine b ?_
    rw[(h.key q a).1,e]
   ·exact k2 hm
  ·rw[if_neg hc]at k1
   refine⟨k1,fun hm=>?_⟩
   rcases List.mem_cons.1 hm with e|hm
   ·rw[e]
    have hd:=(h.key q k1).2.1
    rw[e]at hd
    exact Classical.byContradiction fun hh=>hc ⟨hd,hh⟩
   ·exact k2 hm
theorem F9: ∀{rs:List Rt} {t:List (Rk×Rt)},Jy t→(∀r∈rs,r.dom=0)→(∀r∈rs,ov r.p.1.toNat r.p.2=true→Bx r=true)→Jy (tL rs t)∧ ∀q∈tL rs t,q.2∈rs∨q∈t∧q.2.p∉rs.map (·.p)
 |[],t,h,_,_=>⟨h,fun q hq=> .inr ⟨hq,by simp⟩⟩
 |r::rs,t,h,hd,hm=>by
  rw[tL]
  obtain⟨g1,g2⟩:=F9 (rs:=rs) (h.put (hd r List.mem_cons_self)) (fun x hx=>hd x (List.mem_cons_of_mem _ hx)) (fun x hx=>hm x (List.mem_cons_of_mem _ hx))
  refine⟨g1,fun q hq=>?_⟩
  rcases g2 q hq with k|⟨k1,k2⟩
  ·exact .inl (List.mem_cons_of_mem _ k)
  ·unfold JF at k1
   split at k1
   ·rcases zC h.nd k1 with rfl|⟨k3,k4⟩
    ·exact .inl List.mem_cons_self
    ·refine .inr ⟨k3,?_⟩
     rw[List.map_cons,List.mem_cons,not_or]
     refine⟨fun e=>k4 ?_,k2⟩
     rw[(h.key q k3).1,e]
   ·rename_i hc
    refine .inr ⟨k1,?_⟩
    rw[List.map_cons,List.mem_cons,not_or]
    refine⟨fun e=>hc ?_,k2⟩
    have hq:=h.key q k1
    refine⟨hm r List.mem_cons_self (by rw[←e];exact hq.2.2),.inl ?_⟩
    have:ah t (r.p,0)=some q.2:=by
     rw[←e,←hq.1]
     exact rU h.nd k1
    rw[this]
    exact Option.some_ne_none _
theorem Jh{rs:List Rt}{t t':List (Rk×Rt)}(h:Jy t)(hd: ∀r∈rs,r.dom=0)(hm: ∀r∈rs,ov r.p.1.toNat r.p.2=true→Bx r=true)(hf:Qg rs t t'):Jy t'∧ ∀q∈t',q.2∈rs:=by
 obtain⟨ts,hts,rfl⟩:=hf
 obtain⟨g1,g2⟩:=EG (ts:=ts) (rs:=rs) h
 obtain⟨k1,k2⟩:=F9 g1 hd hm
 refine⟨k1,fun q hq=>?_⟩
 rcases k2 q hq with k|⟨k3,k4⟩
 ·exact k
 ·obtain⟨a,b⟩:=g2 q k3
  exact absurd (b (hts.mem_iff.2 (List.mem_map.2 ⟨q,a,rfl⟩))) k4
theorem SB{v:Vec}:0≤ofV v:=by
 unfold ofV
 split
 ·rename_i h
  have h1:=GD h
  unfold lO at h1
  simp only[Bool.and_eq_true,decide_eq_true_eq]at h1
  have h2:=NV h1.1
  split<;>omega
 ·decide
theorem Iz{n:Nat}(hn:n≤32){d:ao}{rs:List Rt}(h:aV (Nn n) d)(ha:Rn d rs): ∀r∈rs,r.dom=0∧(ov r.p.1.toNat r.p.2=true→Bx r=true)∧ ∃x w,ah d.pre r.p=some x∧vK d x x.least (some w)∧r.next=w.next:=by
 obtain⟨ps,hps,hal⟩:=ha
 have key: ∀(ps:List (Int×Int)) (rs:List Rt),NY d ps rs→ ∀r∈rs,r.dom=0∧(ov r.p.1.toNat r.p.2=true→Bx r=true)∧ ∃x w,ah d.pre r.p=some x∧vK d x x.least (some w)∧r.next=w.next:=by
  intro ps
  induction ps with
  |nil=>intro rs e r hr;rw[show rs=[]from e]at hr;cases hr
  |cons p ps ih=>
   rintro rs ⟨x,w,rs2,hx,hw,h2,rfl⟩ r hr
   rcases List.mem_append.1 hr with hr|hr
   ·cases w with
    |none=>cases hr
    |some w=>
     simp only[Option.map_some,Option.toList_some,List.mem_singleton]at hr
     subst hr
     have hk:=h.kn p x hx
     refine⟨h.dom,fun hm=>?_,x,w,by show ah d.pre x.p=_;rw[hk.px];exact hx,hw,rfl⟩
     have hnx:0≤w.next∧w.next≤32:=by
      rcases hw.2 w rfl with g|⟨k,l,rp,hl,_,_,rfl,_⟩
      ·rw[(hk.own w g).2];decide
      ·have:=(h.lk k (aO.1 (by rw[hl];rfl))).2
       show 0≤k∧k≤32
       omega
     have h1:=SB (v:=w.v)
     have h2:ofV w.v≤4294967295:=Ns w.v
     have hd:=h.dom
     unfold Bx NX
     dsimp only
     unfold NX at hm
     dsimp only at hm
     rw[hm,hd]
     simp only[Bool.true_and,Bool.and_eq_true,decide_eq_true_eq]
     omega
   ·exact ih rs2 h2 r hr
 exact key ps rs hal
section
abbrev d00:ao:=⟨0,64,[],[]⟩
def iS(bs:List (dm ao))(k:Int):Ak:=if 1≤k then(match bs[(k - 1).toNat]? with|some b=>vw b.s|none=>vw d00)else vw d00
theorem rJ{bs:List (dm ao)}{i:Nat}{b:dm ao}(h:bs[i]? =some b):iS bs ((i:Nat)+1)=vw b.s:=by
 unfold iS
 rw[if_pos (by omega),show(((i:Nat):Int)+1 - 1).toNat=i by omega,h]
theorem BH{bs:List (dm ao)}{i:Nat}{b b':dm ao}(h:bs[i]? =some b):iS (bs.set i b')=upd (iS bs) ((i:Nat)+1) (vw b'.s):=by
 funext k
 have hlt:i<bs.length:=(List.getElem?_eq_some_iff.1 h).1
 unfold upd
 by_cases e:k=((i:Nat):Int)+1
 ·rw[if_pos e,e]
  exact rJ (by rw[List.getElem?_set_self hlt])
 ·rw[if_neg e]
  unfold iS
  by_cases hk:1≤k
  ·rw[if_pos hk,if_pos hk,List.getElem?_set_ne (by omega)]
  ·rw[if_neg hk,if_neg hk]
def Rl(n:Nat)(L:Lt→Prop)(pk:Pk):Prop:= ∃x,nw (Nn n) x∧L (ltOf pk.f x)∧pk=⟨0,pk.f,x.to,Md x⟩
theorem Rl.mono{n:Nat}{L L':Lt→Prop}{pk:Pk}(h:Rl n L pk)(hs: ∀l,L l→L' l):Rl n L' pk:=by
 obtain⟨x,h1,h2,h3⟩:=h
 exact⟨x,h1,hs _ h2,h3⟩
structure BIn (b:dm ao):Prop where
 tk:Jy b.tab
 tin: ∃rs,Rn b.s rs∧ ∀q∈b.tab,q.2∈rs
 lks: ∀k,(ah b.links (plK k)).getD 0>0↔(ah b.s.links k).isSome=true
structure lU (n:Nat) (E:Int→Int→Prop) (C:Int) (bs:List (dm ao)) (bag:List Pk) (L:Lt→Prop):Prop where
 cir:Cir E C (iS bs) L
 bag: ∀pk∈bag,Rl n L pk
 out: ∀b∈bs,∀pk∈b.out,Rl n L pk
 ids: ∀i b,bs[i]? =some b→b.id=((i:Nat):Int)+1
 bin: ∀b∈bs,BIn b
variable {n:Nat} {E:Int→Int→Prop} {C:Int} {bs:List (dm ao)} {bag:List Pk} {L:Lt→Prop} {i:Nat} {b b':dm ao}
theorem FM{α:Type}{l:List α}{i j:Nat}{x y:α}(h:(l.set i x)[j]? =some y)(hi:i<l.length):j=i∧y=x∨j≠i∧l[j]? =some y:=by
 by_cases e:j=i
 ·subst e
  rw[List.getElem?_set_self hi]at h
  injection h with h
  exact .inl ⟨rfl,h.symm⟩
 ·rw[List.getElem?_set_ne (Ne.symm e)]at h
  exact .inr ⟨e,h⟩
theorem lU.same(h:lU n E C bs bag L)(hb:bs[i]? =some b)(h1:b'.s=b.s)(h2:b'.out=b.out)(h3:b'.id=b.id)(h4:b'.tab=b.tab)(h5:b'.links=b.links):lU n E C (bs.set i b') bag L where
 cir:=by rw[BH hb,h1,←rJ hb,mT];exact h.cir
 bag:=h.bag
 out:=fun c hc pk hpk=>by
  rcases List.mem_or_eq_of_mem_set hc with hc|e
  ·exact h.out c hc pk hpk
  ·subst e;rw[h2]at hpk;exact h.out b (List.mem_of_getElem? hb) pk hpk
 ids:=fun j c hc=>by
  rcases FM hc (List.getElem?_eq_some_iff.1 hb).1 with⟨rfl,rfl⟩|⟨_,hc⟩
  ·rw[h3];exact h.ids _ _ hb
  ·exact h.ids j c hc
 bin:=fun c hc=>by
  rcases List.mem_or_eq_of_mem_set hc with hc|e
  ·exact h.bin c hc
  ·subst e
   obtain⟨a1,a2,a3⟩:=h.bin b (List.mem_of_getElem? hb)
   exact⟨h4▸a1,by rw[h1,h4];exact a2,by rw[h5,h1];exact a3⟩
theorem lU.more{E':Int→Int→Prop}{C':Int}(h:lU n E C bs bag L)(hE: ∀a b,E a b→E' a b)(hC:C≤C'):lU n E' C' bs bag L:={h with cir:=h.cir.more hE hC}
theorem lU.step{C':Int}{b1:dm ao}{ls:List Ltr}(h:lU n E C bs bag L)(hn:n≤32)(hb:bs[i]? =some b)(hok:aV (Nn n) b1.s)(e1:b1.out=b.out++ls.map (lpk b.id))(e2:b1.id=b.id)(e3:b1.tab=b.tab)
  (hc:Cir E C' (upd (iS bs) ((i:Nat)+1) (vw b1.s)) (w4 L ((i:Nat)+1) ls))(hl: ∀l∈ls,nw (Nn n) l)(hk: ∀k,(ah b1.links (plK k)).getD 0>0↔(ah b1.s.links k).isSome=true)(hr:JK aU b1 b'):
  lU n E C' (bs.set i b') bag (w4 L ((i:Nat)+1) ls):=by
 obtain⟨k1,k2,k3,k4,k5⟩:=tR hr
 have hid:=h.ids i b hb
 have old:=h.bin b (List.mem_of_getElem? hb)
 refine⟨by rw[BH hb,k1];exact hc,fun pk hpk=>(h.bag pk hpk).mono fun l=> .inl,?_,?_,?_⟩
 ·intro c hc pk hpk
  rcases List.mem_or_eq_of_mem_set hc with hc|e
  ·exact(h.out c hc pk hpk).mono fun l=> .inl
  ·subst e
   rw[k5,e1]at hpk
   rcases List.mem_append.1 hpk with hpk|hpk
   ·exact(h.out b (List.mem_of_getElem? hb) pk hpk).mono fun l=> .inl
   ·obtain⟨x,hx,rfl⟩:=List.mem_map.1 hpk
    exact⟨x,hl x hx,.inr ⟨x,hx,by show ltOf b.id x=_;rw[hid]⟩,rfl⟩
 ·intro j c hc
  rcases FM hc (List.getElem?_eq_some_iff.1 hb).1 with⟨rfl,rfl⟩|⟨_,hc⟩
  ·rw[k2,e2];exact hid
  ·exact h.ids j c hc
 ·intro c hc
  rcases List.mem_or_eq_of_mem_set hc with hc|e
  ·exact h.bin c hc
  ·subst e
   obtain⟨b2,⟨rs1,t1,ha1,hf1,rfl⟩,rs2,t2,ha2,hf2,rfl⟩:=hr
   have g1:=Iz hn hok ha1
   have g2:=Iz hn hok ha2
   obtain⟨f1,_⟩:=Jh (by rw[e3];exact old.tk) (fun r hr=>(g1 r hr).1) (fun r hr=>(g1 r hr).2.1) hf1
   obtain⟨f2,f3⟩:=Jh f1 (fun r hr=>(g2 r hr).1) (fun r hr=>(g2 r hr).2.1) hf2
   exact⟨f2,⟨rs2,ha2,f3⟩,hk⟩
theorem lU.settle(h:lU n E C bs bag L):lU n E C (bs.map clr) (bag++bs.flatMap (·.out)) L where
 cir:=by
  have:iS (bs.map clr)=iS bs:=by
   funext k
   unfold iS
   rw[List.getElem?_map]
   cases bs[(k - 1).toNat]? <;>rfl
  rw[this];exact h.cir
 bag:=fun pk hpk=>by
  rcases List.mem_append.1 hpk with hpk|hpk
  ·exact h.bag pk hpk
  ·obtain⟨b,hb,hpk⟩:=List.mem_flatMap.1 hpk
   exact h.out b hb pk hpk
 out:=fun b hb pk hpk=>by
  obtain⟨c,hc,rfl⟩:=List.mem_map.1 hb
  cases hpk
 ids:=fun j c hc=>by
  rw[List.getElem?_map]at hc
  obtain⟨b,hb,rfl⟩:=Option.map_eq_some_iff.1 hc
  exact h.ids j b hb
 bin:=fun c hc=>by
  obtain⟨b,hb,rfl⟩:=List.mem_map.1 hc
  obtain⟨a1,a2,a3⟩:=h.bin b hb
  exact⟨a1,a2,a3⟩
theorem lU.bagS{bag':List Pk}(h:lU n E C bs bag L)(hs: ∀p∈bag',p∈bag):lU n E C bs bag' L:={h with bag:=fun p hp=>h.bag p (hs p hp)}
theorem N2(b:dm ao):sent aU b b.s []=b:=by
 unfold sent
 rw[List.map_nil,List.append_nil]
 rfl
theorem RX{N:Int→Prop}{d:ao}(h:aV N d): ∀q x,ah d.pre q=some x→x.p=q:=fun q x hx=>(h.kn q x hx).px
theorem yg{α β:Type}{l:List (Int×α)}{m:List (Int×β)}(h:am l=am m)(k:Int):(ah l k).isSome=(ah m k).isSome:=by
 refine Bool.eq_iff_iff.2 ?_
 rw[aO,aO,h]
theorem Dh{p:Int×Int}{d d':ao}{ls:List Ltr}(h:ju p d d' ls):am d'.links=am d.links:=(Dl h).2.1
theorem lU.tick(h:lU n E C bs bag L)(hn:n≤32)(hb:bs[i]? =some b)(hbo:BOk aU n b)(hC:C+64<4294967295){now:Int}(hr:GK aU now b b'): ∃L',lU n E (C+64) (bs.set i b') bag L':=by
 obtain⟨s',ps,ls,⟨rfl,qs,hqs,hf⟩,hr⟩:=hr
 have hok:aV (Nn n) b.s:=hbo.ok
 obtain⟨a1,a2,a3⟩:=Gm hok ⟨qs,hqs,hf⟩
 have hlen:qs.length≤64:=by have:=hqs.length_eq;have:=hok.few;simp[am]at*;omega
 have g:=Cir.fold (Y:=(i:Int)+1) (step:=uV) (K:=aV (Nn n)) (fun p d d' ls hd hs=>(Af hd hs).1)
  (fun {C S L d d' p ls} hj hc hy hd hs=>hj.again1 hc hy (fun x hx=>(hd.kn p x hx).px) (fun x hx=>(hd.kn p x hx).opn) hs) h.cir (by omega) (rJ hb) hok hf
 have hkeys:am s'.links=am b.s.links:=hf.keep (C:=fun d d'=>am d'.links=am d.links) (fun _=>rfl) (fun _ _ _ a b=>b.trans a) (fun p d d' ls hs=>by
  obtain⟨x,ks,_,_,rfl,_⟩:=hs
  exact qc _ _ _)
 refine⟨_,h.step hn hb (b1:={b with s:=s',out:=b.out++([]:List Pk).map (fun q=>⟨0,b.id,q.t,q.B⟩)++ls.map (lpk b.id)}) a1 (by simp) rfl rfl (g.1.more (fun _ _ x=>x) (by omega)) a3 (fun k=>?_) hr⟩
 rw[show(ah s'.links k).isSome=(ah b.s.links k).isSome from yg hkeys k]
 exact(h.bin b (List.mem_of_getElem? hb)).lks k
theorem lU.ownC(h:lU n E C bs bag L)(hn:n≤32)(hb:bs[i]? =some b)(hbo:BOk aU n b)(hC:C<4294967295){d now e:Int}{p:Int×Int}(hp:qb p)(hr:zy aU d p now b b' e): ∃L',lU n E (C+1) (bs.set i b') bag L':=by
 have h0:lU n E (C+1) (bs.set i b) bag L:=by rw[iy hb];exact h.more (fun _ _ x=>x) (by omega)
 unfold zy at hr
 split at hr
 ·rw[hr.1];exact⟨L,h0⟩
 ·obtain⟨s',ls,e1,hu,_,hr⟩:=hr
  have hok:aV (Nn n) b.s:=hbo.ok
  have hu:GP p ⟨10000000,0,0⟩ 0 b.s s' ls e1:=hu
  obtain⟨a1,a2,a3⟩:=MU hok hp ⟨by decide,by decide⟩ hu
  have g:=h.cir.own hC (rJ hb) (RX hok) hu
  have hkeys:(e1≠0→s'=b.s∧ls=[])∧am s'.links=am b.s.links:=by
   unfold GP at hu
   split at hu
   ·exact⟨fun _=>⟨hu.1,hu.2.1⟩,by rw[hu.1]⟩
   ·split at hu
    ·exact⟨fun _=>⟨hu.1,hu.2.1⟩,by rw[hu.1]⟩
    ·split at hu
     ·exact⟨fun _=>⟨hu.1,hu.2.1⟩,by rw[hu.1]⟩
     ·refine⟨fun hh=>absurd hu.1 hh,(Dh hu.2).trans ?_⟩
      show am (sH b.s p).links=_
      rw[zU]
  split at hr
  ·rename_i he
   obtain⟨rfl,rfl⟩:=hkeys.1 he
   rw[hr]
   refine⟨L,?_⟩
   have:=N2 b
   rw[this]
   exact h0
  ·refine⟨_,h.step hn hb (b1:={sent aU b s' ls with owns:=aL b.owns (0,0,p) true}) a1 rfl rfl rfl g a3 (fun k=>?_) hr⟩
   show(ah b.links (plK k)).getD 0>0↔(ah s'.links k).isSome=true
   rw[yg hkeys.2 k]
   exact(h.bin b (List.mem_of_getElem? hb)).lks k
theorem lU.dropC(h:lU n E C bs bag L)(hn:n≤32)(hb:bs[i]? =some b)(hbo:BOk aU n b)(hC:C<4294967295){d now e:Int}{p:Int×Int}(hr:uD aU d p now b b' e): ∃L',lU n E (C+1) (bs.set i b') bag L':=by
 have h0:lU n E (C+1) (bs.set i b) bag L:=by rw[iy hb];exact h.more (fun _ _ x=>x) (by omega)
 unfold uD at hr
 split at hr
 ·rw[hr.1];exact⟨L,h0⟩
 ·obtain⟨_,s',ls,⟨e1,hu⟩,hr⟩:=hr
  have hok:aV (Nn n) b.s:=hbo.ok
  have hu:zQ p b.s s' ls e1:=hu
  obtain⟨a1,a2,a3⟩:=Je hok hu
  have g:=h.cir.drop hC (rJ hb) (RX hok) hu
  have hkeys:am s'.links=am b.s.links:=by
   unfold zQ at hu
   split at hu
   ·rw[hu.1]
   ·split at hu
    ·rw[hu.1]
    ·exact(Dh hu.2).trans rfl
  refine⟨_,h.step hn hb (b1:={sent aU b s' ls with owns:=dq b.owns (d,0,p)}) a1 rfl rfl rfl g a3 (fun k=>?_) hr⟩
  show(ah b.links (plK k)).getD 0>0↔(ah s'.links k).isSome=true
  rw[yg hkeys k]
  exact(h.bin b (List.mem_of_getElem? hb)).lks k
theorem OF{k:Int}{l:Ltr}{d d':ao}{ls:List Ltr}(h:vq k l d d' ls):am d'.links=am d.links:=by
 unfold vq at h
 split at h
 ·rw[h.1]
 ·rename_i f hf
  have hk:k∈am d.links:=aO.1 (by rw[hf];rfl)
  split at h
  ·rw[h.1]
  ·dsimp only at h
   have e1:am (eo k l.p l.v l.tag {d with links:=aL d.links k {f with got:=l.seq}}).links=am d.links:=by
    rw[kq]
    show am (aL _ _ _)=_
    rw[gL,if_pos hk]
   generalize eo k l.p l.v l.tag {d with links:=aL d.links k {f with got:=l.seq}}=d1 at h e1
   have e2:am (if l.code=2 then {d1 with links:=aL d1.links k (aW {f with got:=l.seq})}else d1).links=am d.links:=by
    split
    ·show am (aL d1.links k _)=_
     rw[gL,if_pos (by rw[e1];exact hk),e1]
    ·exact e1
   generalize(if l.code=2 then {d1 with links:=aL d1.links k (aW {f with got:=l.seq})}else d1)=d2 at h e2
   split at h
   ·rw[h.1];exact e2
   ·obtain⟨ls2,hs,_⟩:=h
    exact(Dh hs).trans e2
theorem lU.recvC(h:lU n noE C bs bag L)(hn:n≤32){pk:Pk}(hpk:Rl n L pk)(hb:bs[(pk.t - 1).toNat]? =some b)(ht:1≤pk.t)(hbo:BOk aU n b)(hC:C+2<4294967295){now e:Int}(hr:uc aU pk.f pk.B now b b' e): ∃L',lU n noE (C+2) (bs.set (pk.t - 1).toNat b') bag L':=by
 have h0: ∀{c:dm ao},c.s=b.s→c.out=b.out→c.id=b.id→c.tab=b.tab→c.links=b.links→lU n noE (C+2) (bs.set (pk.t - 1).toNat c) bag L:=fun a1 a2 a3 a4 a5=>(h.same hb a1 a2 a3 a4 a5).more (fun _ _ x=>x) (by omega)
 unfold uc at hr
 split at hr
 ·rw[hr.1];exact⟨L,h0 rfl rfl rfl rfl rfl⟩
 ·obtain⟨s',ls,⟨he,hu⟩,hr⟩:=hr
  have hok:aV (Nn n) b.s:=hbo.ok
  obtain⟨x,hx1,hx2,hx3⟩:=hpk
  have htx:pk.t=x.to:=by rw[hx3]
  have hBx:pk.B=Md x:=by rw[hx3]
  have hY:(((pk.t - 1).toNat:Nat):Int)+1=pk.t:=by omega
  rw[hBx]at hu he
  cases hy:JY (Md x)with
  |none=>
   rw[hy]at hu
   obtain⟨rfl,rfl⟩:=hu
   split at hr
   ·rw[hr];exact⟨L,h0 rfl rfl rfl rfl rfl⟩
   ·have hcc:Cir noE (C+2) (upd (iS bs) (((pk.t - 1).toNat:Nat)+1) (vw (sent aU b b.s []).s)) (w4 L (((pk.t - 1).toNat:Nat)+1) []):=by
     rw[na,show(sent aU b b.s []).s=b.s from rfl,←rJ hb,mT]
     exact h.cir.more (fun _ _ x=>x) (by omega)
    exact⟨_,h.step (b1:=sent aU b b.s []) (ls:=[]) hn hb hok rfl rfl rfl hcc (fun l hl=>by cases hl) (h.bin b (List.mem_of_getElem? hb)).lks hr⟩
  |some y=>
   rw[hy]at hu
   have hu:vq pk.f y b.s s' ls:=hu
   have hyx:=Oj hx1 hy
   have e0:e=0:=by rw[he];exact(Ih hy).choose_spec.2.2
   rw[if_neg (by omega)]at hr
   have hp:qb y.p:=by rw[hyx];exact hx1.p
   have ht':wE y.tag:=by rw[hyx];exact hx1.tag
   have hs:0≤y.seq∧y.seq<4294967296:=by rw[hyx];exact hx1.seq
   obtain⟨a1,a2,a3⟩:=IM hok hp ht' hs hu
   have hlin:L ⟨pk.f,(((pk.t - 1).toNat:Nat):Int)+1,y.code,y.seq,y.ack,y.p,ofV y.v⟩:=by
    rw[hY,htx,hyx];exact hx2
   have g:=h.cir.hearR hok hC (rJ hb) hlin hp ht' hs (fun x=>x) (fun x=>x) hu
   refine⟨_,h.step hn hb (b1:=sent aU b s' ls) a1 rfl rfl rfl g a3 (fun k=>?_) hr⟩
   show(ah b.links (plK k)).getD 0>0↔(ah s'.links k).isSome=true
   rw[yg (OF hu) k]
   exact(h.bin b (List.mem_of_getElem? hb)).lks k
end
section
variable {n:Nat} {E:Int→Int→Prop} {C:Int} {bs:List (dm ao)} {bag:List Pk} {L:Lt→Prop} {Y k:Int} {b b':dm ao}
theorem Q1(hY:1≤Y):(((Y - 1).toNat:Nat):Int)+1=Y:=by omega
theorem FG(hY:1≤Y)(h:bs[(Y - 1).toNat]? =some b):iS bs Y=vw b.s:=by have:=rJ h;rwa[Q1 hY]at this
theorem CS(hY:1≤Y)(h:bs[(Y - 1).toNat]? =some b):iS (bs.set (Y - 1).toNat b')=upd (iS bs) Y (vw b'.s):=by have:=BH (b':=b') h;rwa[Q1 hY]at this
theorem O2{c:Int}(h:1≤c∧c≤15):lO ⟨10000,IntKind.i64.wrap (10*c),1⟩=true:=by
 unfold lO
 rw[cr (by omega)]
 simp only[Bool.and_eq_true,decide_eq_true_eq]
 omega
theorem lU.linkC(h:lU n E C bs bag L)(hn:n≤32)(hY:1≤Y)(hb:bs[(Y - 1).toNat]? =some b)(hbo:BOk aU n b)(hC:C+64<4294967295){c e:Int}(hc:1≤c∧c≤15)(hk:Nn n k)(hne:k≠Y)(hE:E Y k)(hE2:E k Y)(hlk:(iS bs Y).lk k=false)(hr:uS aU k c b b' e):
  ∃v' ls,iS (bs.set (Y - 1).toNat b')=upd (iS bs) Y v'∧v'.rep=(iS bs Y).rep∧v'.opn=(iS bs Y).opn∧v'.tld=(iS bs Y).tld∧(∀i,v'.lk i=if i=k then true else(iS bs Y).lk i)∧v'.got k=0∧
   (∀l∈ls,l.to=k∧l.ack=0∧ofV l.v=(iS bs Y).tld l.p∧l.seq≤v'.snt k)∧lU n E (C+64) (bs.set (Y - 1).toNat b') bag (w4 L Y ls):=by
 have hid:=h.ids _ b hb
 rw[Q1 hY]at hid
 have hst:=FG hY hb
 have hin:=h.bin b (List.mem_of_getElem? hb)
 have hok:aV (Nn n) b.s:=hbo.ok
 have hk1:=hk.1
 have hk2:=hk.2
 rw[hst]at hlk⊢
 have hno:ah b.s.links k=none:=by
  replace hlk:(ah b.s.links k).isSome=false:=hlk
  cases hh:ah b.s.links k with
  |none=>rfl
  |some x=>rw[hh]at hlk;cases hlk
 unfold uS at hr
 rw[if_neg (by rw[hid];omega),if_neg (by rw[hin.lks k,hno];exact Bool.false_ne_true)]at hr
 obtain⟨_,s',ls,hu,hr⟩:=hr
 have hu:UpR k ⟨10000,IntKind.i64.wrap (10*c),1⟩ b.s s' ls:=hu
 obtain⟨a1,a2,a3⟩:=PW hok hk hu
 obtain⟨g1,g2,g3,g4,g5⟩:=h.cir.up hok hC hst hE hE2 hne hno (O2 hc) (by omega) hu
 have hc2:lU n E (C+64) (bs.set (Y - 1).toNat b') bag (w4 L ((((Y - 1).toNat:Nat):Int)+1) ls):=by
  refine h.step (b1:={sent aU b s' ls with links:=aL b.links (plK k) c}) hn hb a1 rfl rfl rfl (by rw[Q1 hY];exact g1) a3 (fun i=>?_) hr
  show(ah (aL b.links (plK k) c) (plK i)).getD 0>0↔(ah s'.links i).isSome=true
  have hv:(ah s'.links i).isSome=if i=k then true else(ah b.s.links i).isSome:=g3 i
  rw[aJ,hv]
  by_cases e:i=k
  ·rw[if_pos (by rw[e]),if_pos e]
   constructor
   ·intro _;rfl
   ·intro _;show c>0;omega
  ·rw[if_neg (fun h=>e (Hy.1 h)),if_neg e]
   exact hin.lks i
 rw[Q1 hY]at hc2
 obtain⟨k1,_⟩:=tR hr
 refine⟨vw s',ls,?_,?_,?_,?_,g3,g4,fun l hl=>⟨(g5 l hl).1,(g5 l hl).2.2.1,(g5 l hl).2.2.2.1,(g5 l hl).2.2.2.2⟩,hc2⟩
 ·rw[CS hY hb,k1];rfl
 ·unfold vw;rw[g2]
 ·unfold vw;rw[g2]
 ·unfold vw;rw[g2]
theorem lU.unlinkC(h:lU n E C bs bag L)(hn:n≤32)(hY:1≤Y)(hb:bs[(Y - 1).toNat]? =some b)(hbo:BOk aU n b)(hC:C+64<4294967295){now e:Int}(hne:k≠Y)(hE:E Y k)(hE2:E k Y)(hlk:(iS bs Y).lk k=true)(hr:nj aU k now b b' e):
  ∃v' L',iS (bs.set (Y - 1).toNat b')=upd (iS bs) Y v'∧(∀i,v'.lk i=if i=k then false else(iS bs Y).lk i)∧(∀p,v'.rep p k=INF∧v'.opn p k=none)∧lU n E (C+64) (bs.set (Y - 1).toNat b') bag L':=by
 have hst:=FG hY hb
 have hin:=h.bin b (List.mem_of_getElem? hb)
 have hok:aV (Nn n) b.s:=hbo.ok
 rw[hst]at hlk⊢
 have hsome:(ah b.s.links k).isSome=true:=hlk
 have hno:ah b.s.links k≠none:=by intro e;rw[e]at hsome;cases hsome
 unfold nj at hr
 rw[if_neg (by have:=(hin.lks k).2 hsome;omega)]at hr
 obtain⟨_,s',ls,hu,hr⟩:=hr
 have hu:DK k b.s s' ls:=hu
 obtain⟨a1,a2,a3⟩:=Jc hok hu
 obtain⟨g1,g2,g3⟩:=h.cir.down hok hC hst hE hE2 hne hno hu
 have hc2:lU n E (C+64) (bs.set (Y - 1).toNat b') bag (w4 L ((((Y - 1).toNat:Nat):Int)+1) ls):=by
  refine h.step (b1:={sent aU b s' ls with links:=dq b.links (plK k)}) hn hb a1 rfl rfl rfl (by rw[Q1 hY];exact g1) a3 (fun i=>?_) hr
  show(ah (dq b.links (plK k)) (plK i)).getD 0>0↔(ah s'.links i).isSome=true
  have hv:(ah s'.links i).isSome=if i=k then false else(ah b.s.links i).isSome:=g2 i
  rw[db hbo.lnd,hv]
  by_cases e:i=k
  ·rw[if_pos (by rw[e]),if_pos e]
   simp
  ·rw[if_neg (fun h=>e (Hy.1 h)),if_neg e]
   exact hin.lks i
 obtain⟨k1,_⟩:=tR hr
 refine⟨vw s',_,?_,g2,g3,hc2⟩
 rw[CS hY hb,k1];rfl
end
theorem Ov{n:Nat}{es:List Ed}(hf:ir n es){i j:Nat}{e x:Ed}(he:es[i]? =some e)(hx:es[j]? =some x)(hp:x.a=e.a∧x.b=e.b∨x.a=e.b∧x.b=e.a):i=j:=by
 have key: ∀{i j:Nat} {e x:Ed},es[i]? =some e→es[j]? =some x→(x.a=e.a∧x.b=e.b∨x.a=e.b∧x.b=e.a)→ ¬i<j:=by
  intro i j e x he hx hp hij
  have h1:=(Jd (hf j x hx)).2
  have h2:e∈es.take j:=List.mem_of_getElem? (i:=i) (by rw[List.getElem?_take,if_pos hij];exact he)
  rw[List.any_eq_false]at h1
  refine h1 e h2 ?_
  unfold mQ
  simp only[Bool.or_eq_true,Bool.and_eq_true,beq_iff_eq]
  omega
 have h1:=key he hx hp
 have h2:=key hx he (by omega)
 omega
structure EdI (es:List Ed) (up:List Bool) (bs:List (dm ao)):Prop where
 e1: ∀(i:Nat) (e:Ed) (u:Bool),es[i]? =some e→up[i]? =some u→(iS bs e.a).lk e.b=u∧(iS bs e.b).lk e.a=u
 e2: ∀a b,(iS bs a).lk b=true→ ∃(i:Nat) (e:Ed),es[i]? =some e∧up[i]? =some true∧(e.a=a∧e.b=b∨e.a=b∧e.b=a)
theorem EdI.change{n:Nat}{es:List Ed}{up:List Bool}{bs bs':List (dm ao)}(h:EdI es up bs)(hf:ir n es){i:Nat}{e:Ed}(he:es[i]? =some e)(hup:i<up.length){u:Bool}(hl: ∀Y k,(Bc e.a e.b Y k→(iS bs' Y).lk k=u)∧(¬Bc e.a e.b Y k→(iS bs' Y).lk k=(iS bs Y).lk k)):EdI es (up.set i u) bs' where
 e1:=fun j x v hx hv=>by
  rcases FM hv hup with⟨rfl,rfl⟩|⟨hji,hv⟩
  ·rw[he]at hx;injection hx with hx;subst hx
   exact⟨(hl _ _).1 (.inl ⟨rfl,rfl⟩),(hl _ _).1 (.inr ⟨rfl,rfl⟩)⟩
  ·have hn: ∀Y k,(Y=x.a∧k=x.b∨Y=x.b∧k=x.a)→ ¬Bc e.a e.b Y k:=by
    intro Y k h1 h2
    refine hji (Ov hf hx he ?_)
    rcases h1 with⟨rfl,rfl⟩|⟨rfl,rfl⟩<;>rcases h2 with⟨h2,h3⟩|⟨h2,h3⟩<;>omega
   rw[(hl _ _).2 (hn _ _ (.inl ⟨rfl,rfl⟩)),(hl _ _).2 (hn _ _ (.inr ⟨rfl,rfl⟩))]
   exact h.e1 j x v hx hv
 e2:=fun a b hab=>by
  by_cases hp:Bc e.a e.b a b
  ·rw[(hl a b).1 hp]at hab
   refine⟨i,e,he,by rw[List.getElem?_set_self hup,hab],?_⟩
   rcases hp with⟨rfl,rfl⟩|⟨rfl,rfl⟩
   ·exact .inl ⟨rfl,rfl⟩
   ·exact .inr ⟨rfl,rfl⟩
  ·rw[(hl a b).2 hp]at hab
   obtain⟨j,x,hx,hj,hxy⟩:=h.e2 a b hab
   refine⟨j,x,hx,?_,hxy⟩
   rw[List.getElem?_set_ne]
   ·exact hj
   ·rintro rfl
    rw[he]at hx;injection hx with hx;subst hx
    exact hp (hxy.imp (fun h=>⟨h.1.symm,h.2.symm⟩) (fun h=>⟨h.2.symm,h.1.symm⟩))
theorem KX{n:Nat}{es:List Ed}{C:Int}{bs:List (dm ao)}{up:List Bool}{bag:List Pk}{L:Lt→Prop}{i:Nat}{e:Ed}{bA bA' bB bB':dm ao}{x y:Int}(hbo: ∀b∈bs,BOk aU n b)(hn:n≤32)(hf:ir n es)(ha:Nn n e.a)(hb:Nn n e.b)(hab:e.a≠e.b)(hc:1≤e.c∧e.c≤15)(hcore:lU n noE C bs bag L)(hedi:EdI es up bs)(hC:C+128<4294967295)(he:es[i]? =some e)(hup:up[i]? =some false)
  (h1:bs[(e.a - 1).toNat]? =some bA)(h2:uS aU e.b e.c bA bA' x)(h3:(bs.set (e.a - 1).toNat bA')[(e.b - 1).toNat]? =some bB)(h4:uS aU e.a e.c bB bB' y):
  ∃L',lU n noE (C+128) ((bs.set (e.a - 1).toNat bA').set (e.b - 1).toNat bB') bag L'∧EdI es (up.set i true) ((bs.set (e.a - 1).toNat bA').set (e.b - 1).toNat bB'):=by
 obtain⟨l1,l2⟩:=hedi.e1 i e false he hup
 have h3':bs[(e.b - 1).toNat]? =some bB:=by rw[List.getElem?_set_ne (by have:=ha.1;have:=hb.1;omega)]at h3;exact h3
 have cE:lU n (Bc e.a e.b) C bs bag L:=hcore.more (fun _ _ x=>x.elim) (Int.le_refl _)
 obtain⟨vA,lsA,sA,rA,oA,tA,kA,gA,fA,c1⟩:=cE.linkC hn ha.1 h1 (hbo bA (List.mem_of_getElem? h1)) (by omega) hc hb (Ne.symm hab) (.inl ⟨rfl,rfl⟩) (.inr ⟨rfl,rfl⟩) l1 h2
 have hBb:iS (bs.set (e.a - 1).toNat bA') e.b=iS bs e.b:=by rw[sA];exact tX (Ne.symm hab)
 obtain⟨vB,lsB,sB,rB,oB,tB,kB,gB,fB,c2⟩:=c1.linkC hn hb.1 h3 (hbo bB (List.mem_of_getElem? h3')) (by omega) hc ha hab (.inr ⟨rfl,rfl⟩) (.inl ⟨rfl,rfl⟩) (by rw[hBb];exact l2) h4
 rw[hBb]at rB oB tB kB fB
 have hst: ∀Y,iS ((bs.set (e.a - 1).toNat bA').set (e.b - 1).toNat bB') Y=if Y=e.b then vB else if Y=e.a then vA else iS bs Y:=by
  intro Y
  rw[sB,sA]
  unfold upd
  rfl
 have vAa:=hst e.a
 rw[if_neg hab,if_pos rfl]at vAa
 have vBb:=hst e.b
 rw[if_pos rfl]at vBb
 have hci:=hcore.cir
 have noL: ∀l,L l→ ¬(l.fr=e.a∧l.to=e.b)∧ ¬(l.fr=e.b∧l.to=e.a):=by
  intro l hl
  have:=hci.nolet l hl (fun x=>x)
  constructor
  ·rintro⟨x1,x2⟩;rw[x1,x2,l1]at this;cases this.1
  ·rintro⟨x1,x2⟩;rw[x1,x2,l2]at this;cases this.1
 have fresh: ∀{a b:Int},(iS bs a).lk b=false→ ∀p,(iS bs a).rep p b=INF∧(iS bs a).opn p b=none:=by
  intro a b hl p
  constructor
  ·exact Classical.byContradiction fun hh=>by
    rcases hci.repl a p b hh with g|g
    ·rw[hl]at g;cases g
    ·exact g
  ·exact Classical.byContradiction fun hh=>by
    rcases hci.opl a p b hh with g|g
    ·rw[hl]at g;cases g
    ·exact g
 have hcir:Cir noE (C+64+64) (iS ((bs.set (e.a - 1).toNat bA').set (e.b - 1).toNat bB')) (w4 (w4 L e.a lsA) e.b lsB):=by
  refine c2.cir.unraise ?_ ?_ ?_ ?_ ?_ ?_ ?_ ?_
  ·rw[vAa,kA,if_pos rfl]
  ·rw[vBb,kB,if_pos rfl]
  ·rw[vAa,rA,oA];exact fresh l1
  ·rw[vBb,rB,oB];exact fresh l2
  ·rw[vAa];exact gA
  ·rw[vBb];exact gB
  ·intro l hl e1 e2
   rw[vAa,tA]
   rcases hl with(hl|⟨z,hz,rfl⟩)|⟨z,hz,rfl⟩
   ·exact absurd ⟨e1,e2⟩ (noL l hl).1
   ·obtain⟨f1,f2,f3,f4⟩:=fA z hz
    exact⟨f3,f4,f2⟩
   ·exact absurd e1 (Ne.symm hab)
  ·intro l hl e1 e2
   rw[vBb,tB]
   rcases hl with(hl|⟨z,hz,rfl⟩)|⟨z,hz,rfl⟩
   ·exact absurd ⟨e1,e2⟩ (noL l hl).2
   ·exact absurd e1 hab
   ·obtain⟨f1,f2,f3,f4⟩:=fB z hz
    exact⟨f3,f4,f2⟩
 refine⟨_,lU.more (E:=noE) {c2 with cir:=hcir} (fun _ _ x=>x) (by omega),?_⟩
 have hlt:i<up.length:=(List.getElem?_eq_some_iff.1 hup).1
 refine hedi.change hf he hlt (u:=true) fun Y k=>⟨?_,fun hp=>?_⟩
 ·rintro(⟨rfl,rfl⟩|⟨rfl,rfl⟩)
  ·show(iS ((bs.set (e.a - 1).toNat bA').set (e.b - 1).toNat bB') e.a).lk e.b=true
   rw[vAa,kA,if_pos rfl]
  ·show(iS ((bs.set (e.a - 1).toNat bA').set (e.b - 1).toNat bB') e.b).lk e.a=true
   rw[vBb,kB,if_pos rfl]
 ·show(iS ((bs.set (e.a - 1).toNat bA').set (e.b - 1).toNat bB') Y).lk k=_
  rw[hst Y]
  by_cases eb:Y=e.b
  ·rw[if_pos eb,kB,if_neg (fun x=>hp (.inr ⟨eb,x⟩)),eb]
  ·rw[if_neg eb]
   by_cases ea:Y=e.a
   ·rw[if_pos ea,kA,if_neg (fun x=>hp (.inl ⟨ea,x⟩)),ea]
   ·rw[if_neg ea]
structure CV (n:Nat) (es:List Ed) (C:Int) (s:en aU) (L:Lt→Prop):Prop where
 core:lU n noE C s.bs s.bag L
 edi:EdI es s.up s.bs
theorem He{n:Nat}{es:List Ed}{B:Nat}{C:Int}{s s':en aU}{L:Lt→Prop}{i:Nat}{e:Ed}(hB:i5 aU n es B s)(hf:ir n es)(h:CV n es C s L)(hC:C+128<4294967295)(he:es[i]? =some e)(hup:s.up[i]? =some false)(hr:Ag aU e i s s'): ∃L',CV n es (C+128) s' L':=by
 obtain⟨ha,hb,hab,hc⟩:=hB.ed e (List.mem_of_getElem? he)
 have hn:n≤32:=by have:=hB.n16;omega
 obtain⟨bA,bA',bB,bB',x,y,h1,h2,h3,h4,rfl⟩:=hr
 obtain⟨L',g1,g2⟩:=KX hB.bok hn hf ha hb hab hc h.core h.edi hC he hup h1 h2 h3 h4
 exact⟨L',g1,g2⟩
end Go.Proofs.YtadanegddceleaaGreatS
