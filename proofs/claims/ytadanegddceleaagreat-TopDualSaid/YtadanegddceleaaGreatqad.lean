import Derived.Laws.AppendOwn
import Derived.Laws.Strings
import Derived.Test.YtadanegddceleaaGreatqac
set_option linter.unusedSimpArgs false
set_option linter.unusedVariables false
set_option maxRecDepth 20000
namespace Go.Proofs.YtadanegddceleaaGreatS
section
variable {P:Program} {I:Ctx} {f:Ctl} {Q:Value→Mem→Prop} {h:Mem}
theorem aD{h g:Mem}(hc: ∀(D:DecidableEq (Nat×Obj)) (a:Nat×Obj),h.count a=g.count a):h.Perm g:=by
 have D:DecidableEq (Nat×Obj):=Classical.typeDecidableEq _
 exact List.perm_iff_count.2 fun a=>hc D a
theorem QE{nx:Next}{h1 g h2:Mem}{K:Value→Mem→Prop}(hn:nxw P I nx h1 K)(p:h2.Perm (h1++g))(hk: ∀v h h',h'.Perm (h++g)→K v h→K v h'):nxw P I nx h2 K:=by
 have hI:dJ I h2→ ∀b,b∈keys g→I b=none:=by
  intro hl b hb
  cases hIb:I b with
  |none=>rfl
  |some o=>
   have:=(hl.perm p).ctx hIb
   rw[aT]at this
   exact absurd (List.mem_append_right _ hb) this
 cases nx with
 |value v=>exact hk _ _ _ p hn
 |skip=>exact hk _ _ _ p hn
 |enter f args=>
  intro hl
  obtain⟨hc,hr,hp,hf⟩:=hn (hl.perm p).left
  exact⟨hc,hr++g,p.trans ((hp.append_right g).trans (by rw[List.append_assoc])),(hf.sub fun b o hb=>k9 (hI hl) hb).mono fun v h1 hq=>hk _ _ _ (by rw[List.append_assoc]) hq⟩
 |round l f tmps a b=>
  intro hl
  obtain⟨hc,hr,hp,hf⟩:=hn (hl.perm p).left
  exact⟨hc,hr++g,p.trans ((hp.append_right g).trans (by rw[List.append_assoc])),(hf.sub fun b o hb=>k9 (hI hl) hb).mono fun v h1 hq=>hk _ _ _ (by rw[List.append_assoc]) hq⟩
 |_=>exact hn.elim
theorem lE(hQ:Aff Q): ∀(t:Tr) {h g h':Mem},h'.Perm (h++g)→holds P f I Q t h→holds P f I Q t h':=by
 have lv: ∀{h g h':Mem},h'.Perm (h++g)→dJ I h'→dJ I h:=fun p hl=>(hl.perm p).left
 have sb: ∀{h g h':Mem},h'.Perm (h++g)→ ∀x∈h,x∈h':=fun p x hx=>p.mem_iff.2 (List.mem_append_left _ hx)
 have sw: ∀{α:Type} (s:Sem α) {h g h':Mem} {R:α→Mem→Prop},h'.Perm (h++g)→swp P I s h R→swp P I s h' (fun a h2=> ∃h1,h2.Perm (h1++g)∧R a h1):=by
  intro α s h g h' R p hs
  refine cL _ (JC _ p.symm (Gz g _ hs)) ?_
  rintro a h2 ⟨h3,p3,h1,rfl,hr⟩
  exact⟨h1,p3.symm,hr⟩
 intro t
 induction t with
 |done v=>intro h g h' p hh hl;exact hQ _ _ _ _ p (hh (lv p hl))
 |stop todo τ=>intro h g h' p hh hl;exact(hh (lv p hl)).drop.perm p.symm
 |stopU todo τ=>intro h g h' p hh hl u;exact(hh (lv p hl) u).drop.perm p.symm
 |ite b x y ihx ihy=>intro h g h' p hh hl;exact⟨fun hb=>ihx p ((hh (lv p hl)).1 hb),fun hb=>ihy p ((hh (lv p hl)).2 hb)⟩
 |rd s sh k ih=>intro h g h' p hh hl;exact jk _ (wX (sb p) _ (hh (lv p hl))) fun v ⟨l,hv,hk⟩=>⟨l,hv,ih l p hk⟩
 |sem s sh k ih=>
  intro h g h' p hh hl
  refine cL _ (sw s p (hh (lv p hl))) ?_
  rintro v h2 ⟨h1,p1,l,hv,hk⟩
  exact⟨l,hv,ih l p1 hk⟩
 |unit s k ih=>
  intro h g h' p hh hl
  refine cL _ (sw s p (hh (lv p hl))) ?_
  rintro v h2 ⟨h1,p1,hk⟩
  exact ih p1 hk
 |nx s sh k ih=>
  intro h g h' p hh hl
  refine cL _ (sw s p (hh (lv p hl))) ?_
  rintro v h2 ⟨h1,p1,l,hv,hk⟩
  exact⟨l,hv,ih l p1 hk⟩
 |gen s sh k ih=>
  intro h g h' p hh hl
  refine cL _ (sw s p (hh (lv p hl))) ?_
  rintro nx h2 ⟨h1,p1,hn⟩
  exact QE hn p1 fun v h h' p2 ⟨l,hv,hk⟩=>⟨l,hv,ih l p2 hk⟩
 |rdn s sh k ih=>intro h g h' p hh hl;exact jk _ (wX (sb p) _ (hh (lv p hl))) fun v ⟨l,hv,hk⟩=>⟨l,hv,ih l p hk⟩
 |call g' args sh k ih=>
  intro h g h' p hh hl
  obtain⟨hc',hc,hr,hp,hf⟩:=hh (lv p hl)
  have hI: ∀b,b∈keys g→I b=none:=by
   intro b hb
   cases hIb:I b with
   |none=>rfl
   |some o=>
    have:=(hl.perm p).ctx hIb
    rw[aT]at this
    exact absurd (List.mem_append_right _ hb) this
  refine⟨hc',hc,hr++g,p.trans ((hp.append_right g).trans (by rw[List.append_assoc])),(hf.sub fun b o hb=>k9 hI hb).mono ?_⟩
  rintro v h1 ⟨l,hv,hk⟩
  exact⟨l,hv,ih l (by rw[List.append_assoc]) hk⟩
 |yld l args k ih=>
  intro h g h' p hh hl
  obtain⟨r,hr,hlen,hc,hr',hp,hf⟩:=hh (lv p hl)
  have hI: ∀b,b∈keys g→I b=none:=by
   intro b hb
   cases hIb:I b with
   |none=>rfl
   |some o=>
    have:=(hl.perm p).ctx hIb
    rw[aT]at this
    exact absurd (List.mem_append_right _ hb) this
  refine⟨r,hr.mono (sb p),hlen,hc,hr'++g,p.trans ((hp.append_right g).trans (by rw[List.append_assoc])),(hf.sub fun b o hb=>k9 hI hb).mono ?_⟩
  rintro v h1 ⟨b,hv,hk⟩
  exact⟨b,hv,ih b (by rw[List.append_assoc]) hk⟩
 |pcall g' args sh k ih=>intro h g h' p hh hl;obtain⟨l,hp,hk⟩:=hh (lv p hl);exact⟨l,hp,ih l p hk⟩
 |pin s v k ih=>intro h g h' p hh hl;exact⟨wX (sb p) _ (hh (lv p hl)).1,ih p (hh (lv p hl)).2⟩
 |stuck=>intro h g h' p hh hl;exact(hh (lv p hl)).elim
theorem aN(hQ:Aff Q){t:Tr}{g:Mem}(p:h.Perm g)(hh:holds P f I Q t g):holds P f I Q t h:=lE hQ t (g:=[]) (by simpa using p) hh
theorem u3(hQ:Aff Q){t:Tr}{h1 g:Mem}(p:h.Perm (h1++g))(hh:holds P f I Q t h1):holds P f I Q t h:=lE hQ t p hh
theorem zS{t:Tr}(hh:dJ I h→holds P f I Q t h):holds P f I Q t h:=by
 cases t<;>exact fun hl=>hh hl hl
def ag:List jT→Nat→jT
 |[],_=>{}
 |a::_,0=>a
 |_::r,n+1=>ag r n
def D2(P:Program)(t:TypeId):Bool:=match P.underlying t with|some (.struct _)|some (.array _ _)=>true|some _=>false|none=>true
def PO(P:Program)(t:TypeId):Bool:=match P.underlying t with|some (.struct _)|some (.array _ _)=>true|_=>false
def i4(P:Program)(t:TypeId):Option Nat:=(P.info? t).map (·.size)
def df(I:Ctx)(h:Mem)(a:Addr)(cs:List Value):Prop:= ∀(i:Nat) (v:Value),cs[i]? =some v→bh I h (a.add i) v
theorem kp(b o n:Nat):(⟨b,o,none⟩:Addr).add n=⟨b,o+n,none⟩:=by
 unfold Addr.add
 split
 ·rename_i h;subst h;rfl
 ·rfl
theorem add_add(a:Addr)(m n:Nat):(a.add m).add n=a.add (m+n):=by
 unfold Addr.add
 split<;>split<;>simp_all<;>omega
theorem aR{j b off:Nat}{arr:Array Value}{t:TypeId}{fz:Nat×Nat}{v:Value}(hj:h[j]? =some (b,.cells arr t fz))(hv:arr[off]? =some v):bh I h ⟨b,off,none⟩ v:=
 ⟨rfl,arr,t,fz,.inl (List.mem_of_getElem? hj),hv⟩
theorem F5{j b off:Nat}{arr:Array Value}{t:TypeId}{fz:Nat×Nat}{cs:List Value}(hj:h[j]? =some (b,.cells arr t fz))(hv: ∀i v,cs[i]? =some v→arr[off+i]? =some v):df I h ⟨b,off,none⟩ cs:=
 fun i v hi=>by rw[kp];exact aR hj (hv i v hi)
theorem gZ{j b off:Nat}{arr:Array Value}{t:TypeId}{fz:Nat×Nat}{cs:List Value}(hj:h[j]? =some (b,.cells arr t fz))(hv:(arr.toList.drop off).take cs.length=cs):df I h ⟨b,off,none⟩ cs:=by
 refine F5 hj fun i v hi=>?_
 rw[←hv,List.getElem?_take]at hi
 split at hi
 ·rw[List.getElem?_drop]at hi;simpa using hi
 ·cases hi
theorem IG{t:TypeId}(ht:D2 P t=false):bq P (isAgg t)=some false:=by
 unfold D2 at ht
 unfold isAgg
 cases hu:P.underlying t with
 |none=>simp[hu]at ht
 |some u=>
  rw[bo _ _ (ap hu)]
  rw[hu]at ht
  cases u<;>first|rfl|cases ht
theorem Gw{t:TypeId}(ht:PO P t=true):bq P (isAgg t)=some true:=by
 unfold PO at ht
 unfold isAgg
 cases hu:P.underlying t with
 |none=>simp[hu]at ht
 |some u=>
  rw[bo _ _ (ap hu)]
  rw[hu]at ht
  cases u<;>first|rfl|cases ht
theorem aB{α β:Type}{a:α}{s:Sem α}{F:α→Sem β}{R:β→Prop}(hs:bq P s=some a)(hr:rwp P I h (F a) R):rwp P I h (s>>=F) R:=by
 rw[cH];exact d8 _ hs hr
theorem aK{α β:Type}{a:α}{s:Sem α}{F:α→Sem β}{R:β→Mem→Prop}(hs:bq P s=some a)(hr:swp P I (F a) h R):swp P I (s>>=F) h R:=by
 rw[aS];exact dj _ (d8 _ hs hr)
theorem eV{t:TypeId}{n:Nat}(hs:i4 P t=some n):bq P (sizeOf t)=some n:=by
 unfold i4 at hs
 cases hi:P.info? t with
 |none=>simp[hi]at hs
 |some ti=>
  rw[hi]at hs
  simp only[Option.map_some,Option.some.injEq]at hs
  unfold sizeOf
  rw[bo _ _ (bc hi),hs];rfl
theorem ia{t:TypeId}{a:Addr}{v:Value}{R:Value→Prop}(ht:D2 P t=false)(hc:bh I h a v)(hr:R v):rwp P I h (loadVar t a) R:=by
 unfold loadVar
 refine aB (IG ht) ?_
 exact⟨v,hc,hr⟩
theorem sP{a:Addr}: ∀(n i:Nat) (acc:Array Value) (cs:List Value) (R:Array Value→Prop),cs.length=n→(∀q v,cs[q]? =some v→bh I h (a.add (i+q)) v)→R (acc++⟨cs⟩)→rwp P I h (loadCellsFrom a i n acc) R
 |0,i,acc,cs,R,hl,hc,hr=>by
  have:cs=[]:=List.eq_nil_of_length_eq_zero hl
  subst this
  have h2:acc++(⟨[]⟩:Array Value)=acc:=by simp
  rw[h2]at hr
  exact hr
 |n+1,i,acc,cs,R,hl,hc,hr=>by
  cases cs with
  |nil=>simp at hl
  |cons v cs=>
   refine⟨v,by have:=hc 0 v rfl;simpa using this,?_⟩
   refine sP n (i+1) (acc.push v) cs R (by simpa using hl) (fun q u hq=>?_) ?_
   ·have:=hc (q+1) u (by simpa using hq)
    rw[show i+(q+1)=i+1+q by omega]at this
    exact this
   ·have h2:acc.push v++(⟨cs⟩:Array Value)=acc++⟨v::cs⟩:=by
     apply Array.ext';simp
    rw[h2];exact hr
theorem Aq{a:Addr}{cs:List Value}{n:Nat}{R:Array Value→Prop}(hl:cs.length=n)(hc:df I h a cs)(hr:R ⟨cs⟩):rwp P I h (loadCells a n) R:=by
 refine sP n 0 #[] cs R hl (fun q v hq=>by rw[Nat.zero_add];exact hc q v hq) ?_
 have h2:(#[]:Array Value)++(⟨cs⟩:Array Value)=⟨cs⟩:=by simp
 rw[h2];exact hr
theorem FE{t:TypeId}{a:Addr}{cs:List Value}{R:Value→Prop}(ht:PO P t=true)(hs:i4 P t=some cs.length)(hc:df I h a cs)(hr:R (.agg ⟨cs⟩)):rwp P I h (loadVar t a) R:=by
 unfold loadVar
 refine aB (Gw ht) ?_
 simp only[if_true]
 refine aB (eV hs) ?_
 rw[cH]
 exact Aq rfl hc hr
section
variable {sh:Sh} {k:(Nat→jT)→Tr}
theorem aY{Q0:Value→Mem→Prop}{v:Value}{h1 g:Mem}(hp:h.Perm (h1++g))(hq:Q0 v h1):holds P f I (cl_ Q0) (.done v) h:=fun _=>⟨h1,g,hp,hq⟩
theorem d9{Q0:Value→Mem→Prop}{v:Value}(pre:Mem){m:Mem}(hp:h=pre++m)(hq:Q0 v m):holds P f I (cl_ Q0) (.done v) h:=aY (by rw[hp];exact List.perm_append_comm) hq
theorem aC{Q0:Value→Mem→Prop}{v:Value}(hq:Q0 v []):holds P f I (cl_ Q0) (.done v) h:=fun _=>⟨[],h,by simp,hq⟩
theorem aj{todo:List Item}{τ:(Nat→Value)→List Value}(hw: ∀u,dJ I h→Wp P f todo (τ u) I h Q):holds P f I Q (.stopU todo τ) h:=fun hl u=>hw u hl
theorem ay{b:Bool}{x y:Tr}(ht:b=true→holds P f I Q x h)(hf:b=false→holds P f I Q y h):holds P f I Q (.ite b x y) h:=fun _=>⟨ht,hf⟩
theorem aX{b:Bool}{x y:Tr}(hb:b=true)(ht:holds P f I Q x h):holds P f I Q (.ite b x y) h:=fun _=>⟨fun _=>ht,fun h=>(by rw[hb]at h;cases h)⟩
theorem b7{b:Bool}{x y:Tr}(hb:b=false)(ht:holds P f I Q y h):holds P f I Q (.ite b x y) h:=fun _=>⟨fun h=>(by rw[hb]at h;cases h),fun _=>ht⟩
theorem FT{s:Sem Value}(l:Nat→jT)(hs:rwp P I h s (fun v=>v=sh.val l))(hk:holds P f I Q (k l) h):holds P f I Q (.rd s sh k) h:=fun _=>jk _ hs fun v hv=>⟨l,hv,hk⟩
theorem k8{s:Sem Next}(l:Nat→jT)(hs:rwp P I h s (fun v=>v= .value (sh.val l)))(hk:holds P f I Q (k l) h):holds P f I Q (.rdn s sh k) h:=fun _=>jk _ hs fun v hv=>⟨l,hv,hk⟩
theorem DN{s:Sem Next}{v:Value}{t:Tr}(hs:rwp P I h s (fun x=>x= .value v))(hk:holds P f I Q t h):holds P f I Q (.pin s v t) h:=fun _=>⟨hs,hk⟩
theorem Fm{g:FuncId}{args:List Value}{k:(Nat→jT)→Tr}{sh:Sh}{v:Value}(l:Nat→jT)(hca:af P g)(hin:P.inits.idxOf? g=none)(hf: ∀h,dJ I h→Fn P g ⟨args⟩ (plus I h) [] (fun u h1=>u=v∧h1=[]))
  (hv:v=sh.val l)(hk:holds P f I Q (k l) h):holds P f I Q (.pcall g args sh k) h:=fun _=>⟨l,⟨hca,hin,fun h hl=>(hf h hl).mono fun u h1 ⟨a,b⟩=>⟨a.trans hv,b⟩⟩,hk⟩
theorem aZ{t:TypeId}{a:Addr}{ik:IntKind}{x:Int}(ht:D2 P t=false)(hc:bh I h a (.int ik x))(hk:holds P f I Q (k fun _=>{i:=x}) h):holds P f I Q (.rd (Instr.loadAt t (.pointer (some a))) (.one (.sc (.int ik))) k) h:=FT _ (ia ht hc rfl) hk
theorem Is{t:TypeId}{a:Addr}{x:Bool}(ht:D2 P t=false)(hc:bh I h a (.bool x))(hk:holds P f I Q (k fun _=>{b:=x}) h):holds P f I Q (.rd (Instr.loadAt t (.pointer (some a))) (.one (.sc .bool)) k) h:=FT _ (ia ht hc rfl) hk
theorem dS{t:TypeId}{a:Addr}{A:Option Addr}{n c:Nat}(ht:D2 P t=false)(hc:bh I h a (.slice A n c))(hk:holds P f I Q (k fun _=>{A:=A,n:=n,c:=c}) h):holds P f I Q (.rd (Instr.loadAt t (.pointer (some a))) (.one (.sc .sl)) k) h:=FT _ (ia ht hc rfl) hk
theorem ub{t:TypeId}{a:Addr}{A:Option Addr}(ht:D2 P t=false)(hc:bh I h a (.pointer A))(hk:holds P f I Q (k fun _=>{A:=A}) h):holds P f I Q (.rd (Instr.loadAt t (.pointer (some a))) (.one (.sc .ptr)) k) h:=FT _ (ia ht hc rfl) hk
theorem bL{t:TypeId}{a:Addr}{cs:List Value}(l:Nat→jT)(ht:PO P t=true)(hs:i4 P t=some cs.length)(hc:df I h a cs)(hv:(.agg ⟨cs⟩:Value)=sh.val l)(hk:holds P f I Q (k l) h):
  holds P f I Q (.rd (Instr.loadAt t (.pointer (some a))) sh k) h:=FT l (FE ht hs hc hv) hk
theorem u6{t:TypeId}{a:Addr}{cs:List Value}(l:Nat→jT)(ht:PO P t=true)(hs:i4 P t=some cs.length)(hc:df I h a cs)(hv:(.agg ⟨cs⟩:Value)=sh.val l)(hk:holds P f I Q (k l) h):
  holds P f I Q (.rd (loadVar t a) sh k) h:=FT l (FE ht hs hc hv) hk
theorem aP{t:TypeId}{v:Value}(hk: ∀g,g∉keys h→I g=none→holds P f I Q (k fun _=>{n:=g}) ((g,.cells v.cells t (0,0))::h)):holds P f I Q (.sem (Instr.box t v) DB k) h:=
 fun _ g hg hI=>⟨fun _=>{n:=g},rfl,hk g hg hI⟩
theorem jE{t:TypeId}{z:Value}(hz:iC P t=some z):bq P (zeroValue t)=some z:=by
 unfold iC at hz
 cases hi:P.info? t with
 |none=>simp[hi]at hz
 |some ti=>
  rw[hi]at hz
  simp only[Option.bind_some]at hz
  unfold zeroValue
  rw[bo _ _ (bc hi),hz];rfl
theorem bt{t:TypeId}{z:Value}(hz:iC P t=some z)(hk: ∀g,g∉keys h→I g=none→holds P f I Q (k fun _=>{n:=g}) ((g,.cells z.cells t (0,0))::h)):holds P f I Q (.sem (Instr.alloc t true (.tuple #[])) DB k) h:=by
 intro _
 unfold Instr.alloc
 refine aK (jE hz) ?_
 exact fun g hg hI=>⟨fun _=>{n:=g},rfl,hk g hg hI⟩
def S9(P:Program)(t:TypeId)(n:Nat)(ps:Array (Nat×Value)):Option (TypeId×Array Value):=
 match P.underlying t with
 |some (.slice e)=>
  match i4 P e with
  |some sz=>
   if n*sz>2^24 then none else
   match(if n*sz=0 then some #[]else(iC P e).map (·.cells))with
   |some z=>(Instr.fill (fun i=>some (i*sz,sz)) ((Array.range (n*sz)).map (z[· %z.size]!)) ps.toList).map fun cs=>(e,cs)
   |none=>none
  |none=>none
 |_=>none
theorem RM{t e:TypeId}{n:Nat}{ps:Array (Nat×Value)}{cs:Array Value}{R:Value→Mem→Prop}(hl:S9 P t n ps=some (e,cs))
  (hk: ∀g,g∉keys h→I g=none→R (.slice (some ⟨g,0,none⟩) n n) ((g,.cells cs e (0,0))::h)):swp P I (Instr.buildSlice t n ps) h R:=by
 unfold S9 at hl
 cases hu:P.underlying t with
 |none=>simp[hu]at hl
 |some u=>
  rw[hu]at hl
  cases u with
  |slice e'=>
   simp only at hl
   cases hs:i4 P e' with
   |none=>simp[hs]at hl
   |some sz=>
    rw[hs]at hl
    simp only at hl
    split at hl
    ·cases hl
    ·rename_i hbig
     unfold Instr.buildSlice
     refine aK (ap hu) (aK (eV hs) ?_)
     simp only[if_neg hbig]
     by_cases h0:n*sz=0
     ·rw[if_pos h0]at hl
      simp only[Option.map_eq_some_iff,Prod.mk.injEq]at hl
      obtain⟨cs',hf,rfl,rfl⟩:=hl
      simp only[if_pos h0,pure_bind,hf]
      exact hk
     ·rw[if_neg h0]at hl
      cases hz:iC P e' with
      |none=>simp[hz]at hl
      |some z=>
       rw[hz]at hl
       simp only[Option.map_some,Option.map_eq_some_iff,Prod.mk.injEq]at hl
       obtain⟨cs',hf,rfl,rfl⟩:=hl
       simp only[if_neg h0,pure_bind]
       refine aK (jE hz) ?_
       simp only[hf]
       exact hk
  |_=>simp at hl
theorem gK{t e:TypeId}{n:Nat}{ps:Array (Nat×Value)}(cs:Array Value)(hl:S9 P t n ps=some (e,cs))
  (hk: ∀g,g∉keys h→I g=none→holds P f I Q (k fun _=>{n:=g}) ((g,.cells cs e (0,0))::h)):holds P f I Q (.sem (Instr.buildSlice t n ps) (.one (.sc (.row n))) k) h:=
 fun _=>RM hl fun g hg hI=>⟨fun _=>{n:=g},rfl,hk g hg hI⟩
theorem ak{g:FuncId}{args:List Value}{Qc:Value→Mem→Prop}(hc hr:Mem)(hca:af P g)(hp:h.Perm (hc++hr))(hf:dJ I h→Fn P g ⟨args⟩ (plus I hr) hc Qc)
  (hk: ∀v h1,Qc v h1→ ∃l,v=sh.val l∧holds P f I Q (k l) (h1++hr)):holds P f I Q (.call g args sh k) h:=
 fun hl=>⟨hca,hc,hr,hp,(hf hl).mono hk⟩
theorem aA{g:FuncId}{args:List Value}{v:Value}(l:Nat→jT)(hca:af P g)(hf:dJ I h→Fn P g ⟨args⟩ (plus I h) [] (fun u h1=>u=v∧h1=[]))(hv:v=sh.val l)
  (hk:holds P f I Q (k l) h):holds P f I Q (.call g args sh k) h:=
 ak [] h hca (List.Perm.refl _) hf fun u h1 ⟨hu,h1e⟩=>⟨l,hu.trans hv,by rw[h1e];exact hk⟩
end
theorem mY{j b:Nat}{t0:TypeId}: ∀(vs:List Value) (off i:Nat) (arr:Array Value) {h:Mem} {R:Unit→Mem→Prop},h[j]? =some (b,.cells arr t0 (0,0))→off+i+vs.length≤arr.size→
  (∀v∈vs,(∀x,v≠ .agg x)∧ ∀x,v≠ .tuple x)→(∀arr':Array Value,arr'.size=arr.size→(∀q,arr'[q]? =if off+i≤q∧q<off+i+vs.length then vs[q - (off+i)]? else arr[q]?)→R () (h.set j (b,.cells arr' t0 (0,0))))→
  swp P I (storeCells ⟨b,off,none⟩ vs i) h R
 |[],off,i,arr,h,R,hj,hlen,hv,hr=>by
  have:=hr arr rfl (fun q=>by rw[if_neg (by simp)])
  have he:h.set j (b,.cells arr t0 (0,0))=h:=by
   apply List.ext_getElem?
   intro q
   rw[List.getElem?_set]
   split
   ·rename_i hq;subst hq;rw[hj];simp[(List.getElem?_eq_some_iff.1 hj).1]
   ·rfl
  rw[he]at this
  exact this
 |v::vs,off,i,arr,h,R,hj,hlen,hv,hr=>by
  simp only[List.length_cons]at hlen
  have hjl:=(List.getElem?_eq_some_iff.1 hj).1
  unfold storeCells
  rw[aS,M8,kp]
  refine⟨(hv v List.mem_cons_self).1,(hv v List.mem_cons_self).2,rfl,j,arr,t0,hj,by simp only;omega,?_⟩
  simp only
  refine mY (j:=j) (b:=b) (t0:=t0) vs off (i+1) (arr.setIfInBounds (off+i) v) (by rw[List.getElem?_set,if_pos rfl,if_pos hjl]) (by simp;omega) (fun u hu=>hv u (List.mem_cons_of_mem _ hu)) ?_
  intro arr' hs hq
  have h2:=hr arr' (by rw[hs];simp) (fun q=>?_)
  ·rw[List.set_set];exact h2
  ·rw[hq q]
   by_cases h1:q=off+i
   ·subst h1
    rw[if_neg (by omega),if_pos (by simp)]
    have:off+i<arr.size:=by omega
    simp[this]
   ·rw[Array.getElem?_setIfInBounds_ne (Ne.symm h1)]
    by_cases h3:off+(i+1)≤q∧q<off+(i+1)+vs.length
    ·rw[if_pos h3,if_pos (by simp;omega),show q - (off+i)=(q - (off+(i+1)))+1 by omega]
     simp
    ·rw[if_neg h3,if_neg (by simp;omega)]
def wr(arr:Array Value)(off:Nat)(vs:List Value):Array Value:=⟨arr.toList.take off++vs++arr.toList.drop (off+vs.length)⟩
theorem MB{arr:Array Value}{off:Nat}{vs:List Value}(h:off+vs.length≤arr.size):(wr arr off vs).size=arr.size:=by
 simp only[wr,List.size_toArray,List.length_append,List.length_take,List.length_drop,Array.length_toList]
 omega
theorem I6{arr:Array Value}{off:Nat}{vs:List Value}(h:off+vs.length≤arr.size)(q:Nat):(wr arr off vs)[q]? =if off≤q∧q<off+vs.length then vs[q - off]? else arr[q]? :=by
 have h1:(arr.toList.take off).length=off:=by simp;omega
 show((arr.toList.take off++vs++arr.toList.drop (off+vs.length)).toArray)[q]? =_
 rw[List.getElem?_toArray,List.append_assoc]
 by_cases h2:q<off
 ·rw[List.getElem?_append_left (by omega),if_neg (by omega),List.getElem?_take,if_pos h2];simp
 ·rw[List.getElem?_append_right (by omega),h1]
  by_cases h3:q<off+vs.length
  ·rw[List.getElem?_append_left (by omega),if_pos (by omega)]
  ·rw[List.getElem?_append_right (by omega),if_neg (by omega),List.getElem?_drop,show off+vs.length+(q - off - vs.length)=q by omega];simp
theorem IC{a b:Array Value}(h: ∀q:Nat,a[q]? =b[q]?):a=b:=by
 apply Array.ext'
 apply List.ext_getElem?
 intro q
 have:=h q
 simpa using this
theorem Oz{t t0:TypeId}{v:Value}{j b off:Nat}{arr:Array Value}{R:Unit→Mem→Prop}(hj:h[j]? =some (b,.cells arr t0 (0,0)))(hs:i4 P t=some v.cells.size)(hlen:off+v.cells.size≤arr.size)
  (hv: ∀u∈v.cells.toList,(∀x,u≠ .agg x)∧ ∀x,u≠ .tuple x)(hr:R () (h.set j (b,.cells (wr arr off v.cells.toList) t0 (0,0)))):swp P I (Instr.storeAt t (.pointer (some ⟨b,off,none⟩)) v) h R:=by
 show swp P I (storeVar t ⟨b,off,none⟩ v) h R
 unfold storeVar
 refine aK (eV hs) ?_
 simp only[ne_eq,not_true_eq_false,if_false]
 refine mY v.cells.toList off 0 arr hj (by simpa using hlen) hv ?_
 intro arr' hs' hq
 have:arr'=wr arr off v.cells.toList:=IC fun q=>by rw[hq q,I6 (by simpa using hlen)];simp
 rw[this];exact hr
theorem iW{t t0:TypeId}{v:Value}{k:Tr}(j:Nat){b off:Nat}{arr:Array Value}(hj:h[j]? =some (b,.cells arr t0 (0,0)))(hs:i4 P t=some v.cells.size)(hlen:off+v.cells.size≤arr.size)
  (hv: ∀u∈v.cells.toList,(∀x,u≠ .agg x)∧ ∀x,u≠ .tuple x)(hk:holds P f I Q k (h.set j (b,.cells (wr arr off v.cells.toList) t0 (0,0)))):
  holds P f I Q (.unit (Instr.storeAt t (.pointer (some ⟨b,off,none⟩)) v) k) h:=fun _=>Oz hj hs hlen hv hk
end
section
variable {P:Program} {I J:Ctx} {f:Ctl} {Q:Value→Mem→Prop} {h:Mem}
def Sub(J I:Ctx)(h:Mem):Prop:= ∀b o,J b=some o→Has I h b o
theorem Sub.self:Sub I I h:=fun b o hb=> .inr hb
theorem Sub.mono{g:Mem}(hs:Sub J I h)(hg: ∀x∈h,x∈g):Sub J I g:=fun b o hb=>(hs b o hb).mono hg
theorem Oa{g:Mem}(hg: ∀x∈g,x∈h):Sub (plus I g) I h:=by
 intro b o hb
 unfold Go.Proofs.YtadanegddceleaaGreatS.plus at hb
 cases hf:g.find? (fun p=>p.1==b)with
 |some p=>
  rw[hf]at hb
  injection hb with hb
  obtain⟨hm,rfl⟩:=Jk hf
  subst hb
  exact .inl (hg _ hm)
 |none=>rw[hf]at hb;exact .inr hb
theorem aF(hl:dJ I h){b:Nat}{o:Obj}(hb:Has I h b o):plus I h b=some o:=by
 rcases hb with hb|hb
 ·exact yd hl.nd hb
 ·rw[H2 (hl.ctx hb)];exact hb
theorem Sub.up(hs:Sub J I h)(hl:dJ I h): ∀b o,J b=some o→plus I h b=some o:=fun b o hb=>aF hl (hs b o hb)
theorem bh.sub{a:Addr}{v:Value}(hc:bh J [] a v)(hs:Sub J I h):bh I h a v:=by
 obtain⟨h1,cs,t,fz,h2,h3⟩:=hc
 exact⟨h1,cs,t,fz,h2.elim (fun hm=>by simp at hm) (hs _ _),h3⟩
theorem bh.up{a:Addr}{v:Value}{J':Ctx}(hc:bh J [] a v)(hs: ∀b o,J b=some o→J' b=some o):bh J' [] a v:=by
 obtain⟨h1,cs,t,fz,h2,h3⟩:=hc
 exact⟨h1,cs,t,fz,h2.elim (fun hm=>by simp at hm) (fun hb=> .inr (hs _ _ hb)),h3⟩
theorem bh.all(hl:dJ I h){a:Addr}{v:Value}(hc:bh I h a v):bh (plus I h) [] a v:=by
 obtain⟨h1,cs,t,fz,h2,h3⟩:=hc
 exact⟨h1,cs,t,fz,.inr (aF hl h2),h3⟩
theorem df.sub{a:Addr}{cs:List Value}(hc:df J [] a cs)(hs:Sub J I h):df I h a cs:=fun i v hi=>(hc i v hi).sub hs
theorem df.up{a:Addr}{cs:List Value}{J':Ctx}(hc:df J [] a cs)(hs: ∀b o,J b=some o→J' b=some o):df J' [] a cs:=fun i v hi=>(hc i v hi).up hs
theorem df.all(hl:dJ I h){a:Addr}{cs:List Value}(hc:df I h a cs):df (plus I h) [] a cs:=fun i v hi=>(hc i v hi).all hl
theorem df.left{a:Addr}{cs ds:List Value}(hc:df I h a (cs++ds)):df I h a cs:=fun i v hi=>hc i v (by rw[List.getElem?_append_left (List.getElem?_eq_some_iff.1 hi).1];exact hi)
theorem df.drop{a:Addr}{cs:List Value}(hc:df I h a cs)(n:Nat):df I h (a.add n) (cs.drop n):=fun i v hi=>by
 rw[add_add]
 exact hc (n+i) v (by rw[List.getElem?_drop]at hi;exact hi)
theorem df.take{a:Addr}{cs:List Value}(hc:df I h a cs)(n:Nat):df I h a (cs.take n):=fun i v hi=>by
 rw[List.getElem?_take]at hi
 split at hi
 ·exact hc i v hi
 ·cases hi
def RdC(I:Ctx)(h:Mem)(A:Option Addr)(cs:List Value):Prop:=cs≠[]→ ∃a,A=some a∧df I h a cs
theorem RdC.nil(A:Option Addr):RdC I h A []:=fun hn=>absurd rfl hn
theorem RdC.sub{A:Option Addr}{cs:List Value}(hc:RdC J [] A cs)(hs:Sub J I h):RdC I h A cs:=fun hn=>let⟨a,h1,h2⟩:=hc hn;⟨a,h1,h2.sub hs⟩
theorem RdC.up{A:Option Addr}{cs:List Value}{J':Ctx}(hc:RdC J [] A cs)(hs: ∀b o,J b=some o→J' b=some o):RdC J' [] A cs:=fun hn=>let⟨a,h1,h2⟩:=hc hn;⟨a,h1,h2.up hs⟩
theorem RdC.all(hl:dJ I h){A:Option Addr}{cs:List Value}(hc:RdC I h A cs):RdC (plus I h) [] A cs:=fun hn=>let⟨a,h1,h2⟩:=hc hn;⟨a,h1,h2.all hl⟩
theorem RdC.take{A:Option Addr}{cs:List Value}(hc:RdC I h A cs)(n:Nat):RdC I h A (cs.take n):=fun hn=>by
 obtain⟨a,h1,h2⟩:=hc (fun e=>hn (by rw[e];simp))
 exact⟨a,h1,h2.take n⟩
theorem RdC.drop{A:Option Addr}{cs:List Value}(hc:RdC I h A cs)(n:Nat):RdC I h (A.map (·.add n)) (cs.drop n):=fun hn=>by
 obtain⟨a,h1,h2⟩:=hc (fun e=>hn (by rw[e];simp))
 exact⟨a.add n,by rw[h1];rfl,h2.drop n⟩
theorem RdC.own{j b:Nat}{arr:Array Value}{t:TypeId}{fz:Nat×Nat}(hj:h[j]? =some (b,.cells arr t fz))(n:Nat):RdC I h (some ⟨b,0,none⟩) (arr.toList.take n):=
 fun _=>⟨_,rfl,F5 hj fun i v hi=>by rw[List.getElem?_take]at hi;split at hi<;>simp_all⟩
theorem m7{A:Option Addr}{n c sz:Nat}{cs:List Value}{R:Array Value→Prop}(hl:cs.length=n*sz)(hc:RdC I h A cs)(hA:A=none→n=0)(hr:R ⟨cs⟩):rwp P I h (Builtin.firstCells sz n (.slice A n c)) R:=by
 cases A with
 |none=>
  have:n=0:=hA rfl
  subst this
  have:cs=[]:=List.eq_nil_of_length_eq_zero (by omega)
  subst this
  exact hr
 |some a=>
  show rwp P I h (loadCells a (n*sz)) R
  by_cases he:cs=[]
  ·subst he
   simp at hl
   rw[←hl]
   exact hr
  ·obtain⟨a',h1,h2⟩:=hc he
   injection h1 with h1
   subst h1
   exact Aq hl h2 hr
def Own(e:TypeId)(sz:Nat)(A:Option Addr)(n c:Nat)(cs:List Value)(m:Mem):Prop:=
 cs.length=n*sz∧n≤c∧((A=none∧c=0∧m=[])∨ ∃b arr,A=some ⟨b,0,none⟩∧m=[(b,.cells arr e (0,0))]∧arr.size=c*sz∧arr.toList.take (n*sz)=cs)
theorem Own.nil(e:TypeId)(sz:Nat):Own e sz none 0 0 [] []:=⟨by simp,Nat.le_refl _,.inl ⟨rfl,rfl,rfl⟩⟩
theorem Own.rd{e:TypeId}{sz:Nat}{A:Option Addr}{n c:Nat}{cs:List Value}{m:Mem}(ho:Own e sz A n c cs m)(hm: ∀x∈m,x∈h):RdC I h A cs:=by
 obtain⟨h1,h2,⟨rfl,rfl,rfl⟩|⟨b,arr,rfl,rfl,h3,h4⟩⟩:=ho
 ·have hn:n=0:=by omega
  have:cs=[]:=List.eq_nil_of_length_eq_zero (by rw[h1,hn];simp)
  subst this;exact RdC.nil _
 ·obtain⟨j,hj⟩:=List.getElem?_of_mem (hm _ List.mem_cons_self)
  rw[←h4];exact RdC.own hj _
theorem Own.some_of{e:TypeId}{sz:Nat}{A:Option Addr}{n c:Nat}{cs:List Value}{m:Mem}(ho:Own e sz A n c cs m):A=none→n=0:=by
 obtain⟨h1,h2,⟨rfl,rfl,rfl⟩|⟨b,arr,rfl,rfl,h3,h4⟩⟩:=ho
 ·intro _;omega
 ·intro h;cases h
theorem Own.row{e:TypeId}{sz n:Nat}{b:Nat}{arr:Array Value}(hs:arr.size=n*sz):Own e sz (some ⟨b,0,none⟩) n n arr.toList [(b,.cells arr e (0,0))]:=
 ⟨by simpa using hs,Nat.le_refl _,.inr ⟨b,arr,rfl,rfl,hs,List.take_of_length_le (by simp;omega)⟩⟩
theorem d7(z:Array Value)(n:Nat):(Builtin.zeroCells z n).size=n*z.size:=by simp[Builtin.zeroCells]
def OX(P:Program)(t:TypeId):Bool:=match P.underlying t with|some (.int _)=>false|some _=>true|none=>false
theorem GW{t:TypeId}(ht:OX P t=true): ∃u,P.underlying t=some u∧ ∀k,u≠ .int k:=by
 unfold OX at ht
 cases hu:P.underlying t with
 |none=>rw[hu]at ht;cases ht
 |some u=>
  rw[hu]at ht
  refine⟨u,rfl,fun k hk=>?_⟩
  subst hk
  cases ht
theorem oZ.info{ts e:TypeId}{sz by_:Nat}{z:Value}(hb:oZ P ts e sz by_ z): ∃ti,P.info? e=some ti∧ti.size=sz∧ti.bytes=by_∧ti.zero=some z:=by
 have:=hb.i
 cases hi:P.info? e with
 |none=>simp[hi]at this
 |some ti=>rw[hi]at this;simp at this;exact⟨ti,rfl,this.1,this.2.1,this.2.2⟩
theorem Gq{ts tx e ty:TypeId}{sz by_:Nat}{z:Value}(hb:oZ P ts e sz by_ z){A:Option Addr}{n c n2:Nat}{x:Value}{cs cs2:List Value}{m hr:Mem}{K:Value→Mem→Prop}
  (hx: ∃u,P.underlying tx=some u∧ ∀k,u≠ .int k)(hn:Builtin.lenOf x=pure n2)(hf: ∀R:Array Value→Prop,R ⟨cs2⟩→rwp P I h (Builtin.firstCells sz n2 x) R)(hl2:cs2.length=n2*sz)
  (hv: ∀v∈cs2,(∀x,v≠ .agg x)∧ ∀x,v≠ .tuple x)(hp:h.Perm (m++hr))(ho:Own e sz A n c cs m)(hbd:(n+n2)*by_≤140737488355328)(hby:0<by_)
  (hk: ∀A' c' m' h',(n+n2≤c→A'=A∧c'=c)→h'.Perm (m'++hr)→Own e sz A' (n+n2) c' (cs++cs2) m'→K (.slice A' (n+n2) c') h')(haff: ∀v h1 g h2,h2.Perm (h1++g)→K v h1→K v h2):
  swp P I (Builtin.append_ #[ts,tx] ty #[.slice A n c,x]) h K:=by
 obtain⟨ti,hi,hti1,hti2,hti3⟩:=hb.info
 obtain⟨u,hu1,hu2⟩:=hx
 have hsz:i4 P e=some sz:=by simp[i4,hi,hti1]
 have hz:iC P e=some z:=by simp[iC,hi,hti3]
 unfold Builtin.append_
 simp only[List.getElem?_toArray,List.getElem?_cons_zero,List.getElem?_cons_succ]
 refine aK (ap hb.u) ?_
 simp only[]
 refine aK (eV hsz) ?_
 refine aK (ap hu1) ?_
 refine aK (a:=false) ?_ ?_
 ·show some _=some false
  cases u<;>first|rfl|exact absurd rfl (hu2 _)
 show swp P I (if false=true then _ else _) h K
 rw[if_neg (by simp)]
 rw[hn]
 refine aK (a:=n2) rfl ?_
 obtain⟨ho1,ho2,ho3⟩:=ho
 show swp P I (if n+n2≤c then _ else _) h K
 split
 ·
  rename_i hroom
  rw[aS]
  refine dj _ (hf _ ?_)
  rcases ho3 with⟨rfl,rfl,rfl⟩|⟨b,arr,rfl,rfl,h3,h4⟩
  ·have hn0:n+n2=0:=by omega
   have hc0:cs++cs2=[]:=List.eq_nil_of_length_eq_zero (by rw[List.length_append,ho1,hl2,←Nat.add_mul,hn0];simp)
   have:=hk none 0 [] h (fun _=>⟨rfl,rfl⟩) hp (by rw[hn0,hc0];exact Own.nil _ _)
   exact this
  ·show swp P I (storeCells ((⟨b,0,none⟩:Addr).add (n*sz)) cs2>>=fun _=>_) h K
   rw[kp,Nat.zero_add]
   obtain⟨j,hj⟩:=List.getElem?_of_mem (hp.mem_iff.2 (List.mem_append_left hr List.mem_cons_self))
   have hle:n*sz+cs2.length≤arr.size:=by
    rw[hl2,h3,←Nat.add_mul];exact Nat.mul_le_mul_right _ hroom
   rw[aS]
   refine mY cs2 (n*sz) 0 arr hj (by simpa using hle) hv ?_
   intro arr' hs' hq
   have he:arr'=wr arr (n*sz) cs2:=IC fun q=>by rw[hq q,I6 hle];simp
   subst he
   refine hk _ _ [(b,.cells (wr arr (n*sz) cs2) e (0,0))] _ (fun _=>⟨rfl,rfl⟩) ?_ ⟨by rw[List.length_append,ho1,hl2,Nat.add_mul],hroom,.inr ⟨b,_,rfl,rfl,by rw[MB hle,h3],?_⟩⟩
   ·have h5:=BT hj (b,Obj.cells (wr arr (n*sz) cs2) e (0,0))
    exact h5.1.trans ((List.Perm.cons_inv (h5.2.symm.trans hp)).cons _)
   ·have h6:(arr.toList.take (n*sz)).length=n*sz:=by rw[h4,ho1]
    simp only[wr]
    rw[←h4,Nat.add_mul,←hl2]
    have h7:(arr.toList.take (n*sz)++cs2).length=n*sz+cs2.length:=by rw[List.length_append,h6]
    rw[List.take_append_of_le_length (by omega),List.take_of_length_le (by omega)]
 ·
  rename_i hroom
  have hlt:c<n+n2:=by omega
  have hgf:=growslice_fits (old:=c) (need:=n+n2) (bytes:=by_) hlt hbd
  refine aK (bc hi) ?_
  rw[hti2]
  show swp P I (if(((n+n2:Nat):Int)>IntKind.i64.max∧(false=true∨by_=0))then _ else _) h K
  rw[if_neg (by rintro⟨_,h|h⟩<;>simp_all)]
  refine aK (bc hi) ?_
  rw[hti2]
  show swp P I (if Builtin.nextslicecap (n+n2) c*by_>2^48 then _ else _) h K
  rw[if_neg (by omega)]
  rw[aS]
  refine⟨fun hfo=>by simp[Question.forced]at hfo,fun _ t=>?_⟩
  have hcap: ∃q,(Question.appendCap (n+n2) c e).cut t=n+n2+q:=⟨t%(2^63 - (n+n2)),rfl⟩
  obtain⟨q,hq⟩:=hcap
  rw[hq]
  show swp P I (typeInfo e>>=fun _=>_) h K
  refine aK (bc hi) ?_
  rw[aS]
  have hask: ∀(y:Nat) (R:Unit→Mem→Prop),R () h→swp P I (askRoom y) h R:=by
   intro y R hr
   unfold askRoom
   split
   ·exact hr
   ·exact hr
  refine hask _ _ ?_
  rw[aS]
  have hA:A=none→n=0:=by
   rcases ho3 with⟨rfl,rfl,rfl⟩|⟨b,arr,rfl,rfl,h3,h4⟩
   ·intro _;omega
   ·intro h;cases h
  have ho:Own e sz A n c cs m:=⟨ho1,ho2,ho3⟩
  refine dj _ (m7 ho1 (ho.rd fun x hx=>hp.mem_iff.2 (List.mem_append_left _ hx)) hA ?_)
  show swp P I ((if(!false)=true then Builtin.firstCells sz n2 x else _)>>=fun _=>_) h K
  rw[if_pos (by simp),aS]
  refine dj _ (hf _ ?_)
  refine aK (jE hz) ?_
  rw[aS]
  intro g hg hI
  have hk2:=hk (some ⟨g,0,none⟩) (n+n2+q) [(g,.cells (⟨cs⟩++⟨cs2⟩++Builtin.zeroCells z.cells (n+n2+q - (n+n2))) e (0,0))] ((g,.cells (⟨cs⟩++⟨cs2⟩++Builtin.zeroCells z.cells (n+n2+q - (n+n2))) e (0,0))::hr) (fun hh=>absurd hh hroom) (List.Perm.refl _) ?_
  ·refine haff _ _ m _ ?_ hk2
   exact(hp.cons _).trans ((List.perm_append_comm (l₁:=m) (l₂:=hr)).cons _)
  ·refine⟨by rw[List.length_append,ho1,hl2,Nat.add_mul],by omega,.inr ⟨g,_,rfl,rfl,?_,?_⟩⟩
   ·simp only[Array.size_append,d7,hb.z,List.size_toArray,ho1,hl2]
    rw[←Nat.add_mul,←Nat.add_mul]
    congr 1
    omega
   ·simp only[Array.toList_append]
    rw[Nat.add_mul,←ho1,←hl2,List.take_append_of_le_length (by simp),List.take_of_length_le (by simp)]
end
section
variable {P:Program} {I J:Ctx} {f:Ctl} {Q:Value→Mem→Prop} {h:Mem} {sh:Sh} {k:(Nat→jT)→Tr}
theorem yA{s:Sem Value}{R:Next→Mem→Prop}(hs:swp P I s h (fun v h'=>R (.value v) h')):swp P I (do pure (.value (←s)):Sem Next) h R:=by
 rw[Fo];exact hs
theorem iq{s:Sem Value}{R:Next→Prop}(hs:rwp P I h s (fun v=>R (.value v))):rwp P I h (vN s) R:=by
 unfold vN
 rw[Sq];exact hs
theorem bP(hQ:Aff Q){ts tx e ty:TypeId}{sz by_:Nat}{z:Value}{cons:Array Bool}(hb:oZ P ts e sz by_ z)(hx:OX P tx=true){A A2:Option Addr}{n c n2 c2:Nat}{cs cs2:List Value}{m hr:Mem}
  (h2:RdC I h A2 cs2)(hA2:A2=none→n2=0)(hl2:cs2.length=n2*sz)(hv: ∀v∈cs2,(∀x,v≠ .agg x)∧ ∀x,v≠ .tuple x)(hp:h.Perm (m++hr))(ho:Own e sz A n c cs m)
  (hbd:(n+n2)*by_≤140737488355328)(hby:0<by_)(hk: ∀A' c' m',Own e sz A' (n+n2) c' (cs++cs2) m'→holds P f I Q (k fun _=>{A:=A',n:=n+n2,c:=c'}) (m'++hr)):
  holds P f I Q (.nx (builtin .append #[ts,tx] ty cons #[.slice A n c,.slice A2 n2 c2]) LG k) h:=by
 intro _
 refine yA (Gq (K:=fun v h'=> ∃l,Next.value v= .value (LG.val l)∧holds P f I Q (k l) h') hb (GW hx) rfl (fun R hr=>m7 hl2 h2 hA2 hr) hl2 hv hp ho hbd hby ?_ ?_)
 ·intro A' c' m' h' _ hp' ho'
  exact⟨fun _=>{A:=A',n:=n+n2,c:=c'},rfl,aN hQ hp' (hk A' c' m' ho')⟩
 ·rintro v h1 g h2 hp2 ⟨l,hv,hh⟩
  exact⟨l,hv,u3 hQ hp2 hh⟩
theorem Ja{t e:TypeId}{sz:Nat}{A:Option Addr}{n c:Nat}{ik:IntKind}{i:Int}{a:Addr}{R:Value→Prop}(ht:P.underlying t=some (.slice e))(hs:i4 P e=some sz)(h0:0≤i)(h1:i<n)(hA:A=some a)
  (hr:R (.pointer (some (a.add (i.toNat*sz))))):rwp P I h (Instr.indexAt t (.slice A n c) (.int ik i)) R:=by
 subst hA
 unfold Instr.indexAt
 refine aB (a:=(ik,i)) rfl ?_
 refine aB (ap ht) ?_
 refine aB (a:=(some a,n,e)) rfl ?_
 refine aB (ap ht) ?_
 show rwp P I h (if 0≤i∧i<(n:Int)then _ else _) R
 rw[if_pos ⟨h0,h1⟩]
 refine aB (eV hs) ?_
 exact hr
theorem aI{t e:TypeId}{sz:Nat}{A:Option Addr}{n c:Nat}{ik:IntKind}{i:Int}(a:Addr)(ht:P.underlying t=some (.slice e))(hs:i4 P e=some sz)(h0:0≤i)(h1:i<n)(hA:A=some a)
  (hk:holds P f I Q (k fun _=>{a:=a.add (i.toNat*sz)}) h):holds P f I Q (.rd (Instr.indexAt t (.slice A n c) (.int ik i)) Ay k) h:=FT _ (Ja ht hs h0 h1 hA rfl) hk
def okB:Option Value→Nat→Nat→Prop
 |none,d,r=>r=d
 |some (.int _ i),_,r=>i=r
 |_,_,_=>False
theorem BU{v:Value}{y d r:Nat}{code:BoundsCode}{R:Nat→Prop}(ho:okB (some v) d r)(hy:r≤y)(hr:R r):rwp P I h (Instr.sliceBound v y code) R:=by
 cases v<;>first|exact ho.elim|skip
 rename_i ik i
 have hi:i=r:=ho
 subst hi
 unfold Instr.sliceBound
 refine aB (a:=(ik,(r:Int))) rfl ?_
 show rwp P I h (if 0≤(r:Int)∧(r:Int)≤(y:Int)then _ else _) R
 rw[if_pos ⟨by omega,by omega⟩]
 exact hr
theorem NM{b:Bool}{len cap l u m:Nat}{lo hi mx:Option Value}{R:Nat×Nat×Nat→Prop}(hlo:okB lo 0 l)(hhi:okB hi len u)(hmx:okB mx cap m)(hmh:mx≠none→hi≠none)(h1:l≤u)(h2:u≤m)(h3:m≤cap)(hr:R (l,u,m)):
  rwp P I h (Instr.sliceBounds b len cap lo hi mx) R:=by
 unfold Instr.sliceBounds
 have fin: ∀(R':Nat→Prop),R' l→(∀v,lo=some v→ ∀code,rwp P I h (Instr.sliceBound v u code) R')∧(lo=none→R' 0):=by
  intro R' hr'
  refine⟨fun v hv code=>?_,fun hv=>?_⟩
  ·subst hv;exact BU hlo h1 hr'
  ·subst hv;have:l=0:=hlo;rw[←this];exact hr'
 obtain⟨f1,f2⟩:=fin (fun l=>R (l,u,m)) hr
 cases mx with
 |none=>
  have hm:m=cap:=hmx
  subst hm
  refine aB (a:=m) rfl ?_
  cases hi with
  |none=>
   have hu:u=len:=hhi
   subst hu
   refine aB (a:=u) rfl ?_
   cases lo with
   |none=>exact f2 rfl
   |some v=>show rwp P I h (Instr.sliceBound v u _>>=fun l=>pure (l,u,m)) R;rw[cH];exact f1 v rfl _
  |some w=>
   show rwp P I h (Instr.sliceBound w m _>>=fun _=>_) R
   rw[cH]
   refine BU hhi h2 ?_
   cases lo with
   |none=>exact f2 rfl
   |some v=>show rwp P I h (Instr.sliceBound v u _>>=fun l=>pure (l,u,m)) R;rw[cH];exact f1 v rfl _
 |some x=>
  show rwp P I h (Instr.sliceBound x cap _>>=fun _=>_) R
  rw[cH]
  refine BU hmx h3 ?_
  cases hi with
  |none=>exact absurd rfl (hmh (by simp))
  |some w=>
   show rwp P I h (Instr.sliceBound w m _>>=fun _=>_) R
   rw[cH]
   refine BU hhi h2 ?_
   cases lo with
   |none=>exact f2 rfl
   |some v=>show rwp P I h (Instr.sliceBound v u _>>=fun l=>pure (l,u,m)) R;rw[cH];exact f1 v rfl _
def HX(A:Option Addr)(l m sz:Nat):Option Addr:=if m=l then A else A.map (·.add (l*sz))
theorem MT{t e:TypeId}{sz:Nat}{A:Option Addr}{n c l u m:Nat}{lo hi mx:Option Value}{R:Value→Prop}(ht:P.underlying t=some (.slice e))(hs:i4 P e=some sz)(hlo:okB lo 0 l)(hhi:okB hi n u)(hmx:okB mx c m)
  (hmh:mx≠none→hi≠none)(h1:l≤u)(h2:u≤m)(h3:m≤c)(hr:R (.slice (HX A l m sz) (u - l) (m - l))):rwp P I h (Instr.sliceAt t (.slice A n c) lo hi mx) R:=by
 unfold Instr.sliceAt
 refine aB (ap ht) ?_
 show rwp P I h (Instr.slice t (.slice A n c) lo hi mx) R
 unfold Instr.slice
 refine aB (ap ht) ?_
 show rwp P I h (Instr.sliceBounds true n c lo hi mx>>=fun _=>_) R
 rw[cH]
 refine NM hlo hhi hmx hmh h1 h2 h3 ?_
 refine aB (eV hs) ?_
 exact hr
theorem uK{t e:TypeId}{sz:Nat}{A:Option Addr}{n c:Nat}{lo hi mx:Option Value}(l u m:Nat)(ht:P.underlying t=some (.slice e))(hs:i4 P e=some sz)(hlo:okB lo 0 l)(hhi:okB hi n u)(hmx:okB mx c m)
  (hmh:mx≠none→hi≠none)(h1:l≤u)(h2:u≤m)(h3:m≤c)(hk:holds P f I Q (k fun _=>{A:=HX A l m sz,n:=u - l,c:=m - l}) h):holds P f I Q (.rd (Instr.sliceAt t (.slice A n c) lo hi mx) LG k) h:=
 FT _ (MT ht hs hlo hhi hmx hmh h1 h2 h3 rfl) hk
theorem RdC.cut{A:Option Addr}{cs:List Value}(hc:RdC I h A cs){l u m sz:Nat}(h2:u≤m):RdC I h (HX A l m sz) ((cs.drop (l*sz)).take ((u - l)*sz)):=by
 unfold HX
 split
 ·rename_i he
  have:u - l=0:=by omega
  rw[this];simp;exact RdC.nil _
 ·exact(hc.drop _).take _
theorem Jx{t:TypeId}{x y:Operand}{A:Option Addr}{R:Next→Prop}{op:BinOp}(hop:op= .eql∨op= .neq)(ht:(match P.underlying t with|some (.pointer _)=>true|_=>false)=true)(hr:R (.value (.bool (if op matches .eql then A.isNone else A.isSome)))):
  rwp P I h (eqN op t x y (.pointer A) (.pointer none)) R:=by
 cases hu:P.underlying t with
 |none=>rw[hu]at ht;cases ht
 |some d=>
  rw[hu]at ht
  cases d<;>first|cases ht|skip
  unfold eqN
  refine iq ?_
  have he:bq P (Op.equal t (.pointer A) (.pointer none))=some A.isNone:=by
   unfold Op.equal Op.maxDepth
   rw[show(10000:Nat)=9999+1 from rfl,Op.equalIn,bo _ _ (ap hu)]
   cases A<;>rfl
  rcases hop with rfl|rfl
  ·refine aB (a:=()) rfl ?_
   show rwp P I h (do pure (Value.bool ((←Op.equal t (.pointer A) (.pointer none)))):Sem Value) _
   exact aB he hr
  ·refine aB (a:=()) rfl ?_
   show rwp P I h (do pure (Value.bool (!(←Op.equal t (.pointer A) (.pointer none)))):Sem Value) _
   refine aB he ?_
   cases A<;>exact hr
theorem yv{t:TypeId}{x y:Operand}{A:Option Addr}{n c:Nat}{R:Next→Prop}{op:BinOp}(hop:op= .eql∨op= .neq)(ht:(match P.underlying t with|some (.slice _)=>true|_=>false)=true)(hr:R (.value (.bool (if op matches .eql then A.isNone else A.isSome)))):
  rwp P I h (eqN op t x y (.slice A n c) (.slice none 0 0)) R:=by
 cases hu:P.underlying t with
 |none=>rw[hu]at ht;cases ht
 |some d=>
  rw[hu]at ht
  cases d<;>first|cases ht|skip
  unfold eqN
  refine iq ?_
  have he:bq P (Op.equal t (.slice A n c) (.slice none 0 0))=some A.isNone:=by
   unfold Op.equal Op.maxDepth
   rw[show(10000:Nat)=9999+1 from rfl,Op.equalIn,bo _ _ (ap hu)]
   cases A<;>rfl
  rcases hop with rfl|rfl
  ·refine aB (a:=()) rfl ?_
   show rwp P I h (do pure (Value.bool ((←Op.equal t (.slice A n c) (.slice none 0 0)))):Sem Value) _
   exact aB he hr
  ·refine aB (a:=()) rfl ?_
   show rwp P I h (do pure (Value.bool (!(←Op.equal t (.slice A n c) (.slice none 0 0)))):Sem Value) _
   refine aB he ?_
   cases A<;>exact hr
def bC(l:List UInt8):List Value:=l.map fun b=> .int .u8 (b.toNat:Int)
@[simp] theorem GJ(l:List UInt8):(bC l).length=l.length:=by simp[bC]
@[simp] theorem bC_append (l m:List UInt8):bC (l++m)=bC l++bC m:=by simp[bC]
theorem bC_plain (l:List UInt8): ∀v∈bC l,(∀x,v≠ .agg x)∧ ∀x,v≠ .tuple x:=by
 intro v hv
 obtain⟨b,_,rfl⟩:=List.mem_map.1 hv
 exact⟨fun x h=>(by cases h),fun x h=>(by cases h)⟩
end
section
variable {P:Program} {I J:Ctx} {f:Ctl} {Q:Value→Mem→Prop} {h:Mem} {sh:Sh} {k:(Nat→jT)→Tr}
theorem cr{x:Int}(h: -9223372036854775808≤x∧x<9223372036854775808):IntKind.i64.wrap x=x:=by
 have:IntKind.i64.wrap x=if(true&&decide (x%18446744073709551616≥9223372036854775808))=true then x%18446744073709551616 - 18446744073709551616 else x%18446744073709551616:=rfl
 rw[this]
 simp only[Bool.true_and,decide_eq_true_eq]
 split<;>omega
theorem dT{n:Nat}(h:n<4611686018427387904):IntKind.wrap .i64 ((n:Int)+1)=((n+1:Nat):Int):=cr (by omega)
theorem df.at{a:Addr}{cs ds:List Value}(hc:df I h a cs)(k:Nat)(hq: ∀q v,ds[q]? =some v→cs[k+q]? =some v):df I h (a.add k) ds:=fun q v hv=>by rw[add_add];exact hc _ v (hq q v hv)
theorem Own.cells{e:TypeId}{sz:Nat}{a:Addr}{n c:Nat}{cs:List Value}{m hr:Mem}(ho:Own e sz (some a) n c cs m)(hp:h.Perm (m++hr)):df I h a cs:=by
 by_cases he:cs=[]
 ·subst he;intro q v hv;simp at hv
 ·obtain⟨a',h1,h2⟩:=ho.rd (I:=I) (h:=h) (fun x hx=>hp.mem_iff.2 (List.mem_append_left _ hx)) he
  injection h1 with h1
  subst h1
  exact h2
theorem Own.cut{e:TypeId}{sz:Nat}{A:Option Addr}{n c:Nat}{cs:List Value}{m:Mem}(ho:Own e sz A n c cs m){i:Nat}(hi:i≤n):Own e sz A i c (cs.take (i*sz)) m:=by
 obtain⟨h1,h2,h3⟩:=ho
 have hle:i*sz≤n*sz:=Nat.mul_le_mul_right _ hi
 refine⟨by rw[List.length_take,h1];omega,by omega,?_⟩
 rcases h3 with h3|⟨b,arr,e1,e2,h4,h5⟩
 ·exact .inl h3
 ·refine .inr ⟨b,arr,e1,e2,h4,?_⟩
  rw[←h5,List.take_take,Nat.min_eq_left hle]
theorem Own.ext{e:TypeId}{sz:Nat}{A:Option Addr}{n c:Nat}{cs:List Value}{m:Mem}(ho:Own e sz A n c cs m){i:Nat}(hi:n≤i)(hc:i≤c): ∃cs',cs'.take (n*sz)=cs∧Own e sz A i c cs' m:=by
 obtain⟨h1,h2,⟨rfl,rfl,rfl⟩|⟨b,arr,e1,e2,h4,h5⟩⟩:=ho
 ·have:n=0:=by omega
  have:i=0:=by omega
  subst i n
  exact⟨[],by simpa using h1,Own.nil _ _⟩
 ·have hle:n*sz≤i*sz:=Nat.mul_le_mul_right _ hi
  have hle2:i*sz≤c*sz:=Nat.mul_le_mul_right _ hc
  exact⟨arr.toList.take (i*sz),by rw[List.take_take,Nat.min_eq_left hle,h5],by simp;omega,hc,.inr ⟨b,arr,e1,e2,h4,rfl⟩⟩
theorem qR(a:Addr):a.add 0=a:=by unfold Addr.add;simp
theorem nB(A:Option Addr)(m sz:Nat):HX A 0 m sz=A:=by
 unfold HX
 split
 ·rfl
 ·cases A with
  |none=>rfl
  |some a=>simp[qR]
theorem B0{a:Addr}{l m sz:Nat}(h:m≠l):HX (some a) l m sz=some (a.add (l*sz)):=by
 unfold HX;rw[if_neg h];rfl
theorem QO{a:Addr}{l m sz:Nat}(h:HX (some a) l m sz=none){p:Prop}:p:=by
 unfold HX at h
 split at h<;>cases h
def wrL(cs:List Value)(o:Nat)(vs:List Value):List Value:=cs.take o++vs++cs.drop (o+vs.length)
theorem NP{cs:List Value}{o:Nat}:wrL cs o []=cs:=by simp[wrL]
theorem Lr{cs vs:List Value}{o:Nat}(h:o+vs.length≤cs.length):(wrL cs o vs).length=cs.length:=by
 simp only[wrL,List.length_append,List.length_take,List.length_drop];omega
theorem JO{cs vs:List Value}{o:Nat}(h:o≤cs.length):(wrL cs o vs).take o=cs.take o:=by
 have h1:(cs.take o).length=o:=by simp;omega
 rw[wrL,List.append_assoc,List.take_append_of_le_length (by omega),List.take_of_length_le (by omega)]
theorem QF{cs vs:List Value}{o:Nat}(h:o+vs.length≤cs.length)(q:Nat):(wrL cs o vs)[q]? =if o≤q∧q<o+vs.length then vs[q - o]? else cs[q]? :=by
 have:=I6 (arr:=⟨cs⟩) (off:=o) (vs:=vs) (by simpa using h) q
 simpa[wr,wrL]using this
theorem xc{e:TypeId}{sz:Nat}{a:Addr}{n c o:Nat}{cs vs:List Value}{m hr:Mem}{R:Unit→Mem→Prop}(hp:h.Perm (m++hr))(ho:Own e sz (some a) n c cs m)(hlen:o+vs.length≤n*sz)
  (hv: ∀v∈vs,(∀x,v≠ .agg x)∧ ∀x,v≠ .tuple x)(hk: ∀m' h',h'.Perm (m'++hr)→Own e sz (some a) n c (wrL cs o vs) m'→R () h'):swp P I (storeCells (a.add o) vs) h R:=by
 obtain⟨h1,h2,⟨h,_,_⟩|⟨b,arr,e1,rfl,h4,h5⟩⟩:=ho
 ·cases h
 ·injection e1 with e1
  subst e1
  rw[kp,Nat.zero_add]
  obtain⟨j,hj⟩:=List.getElem?_of_mem (hp.mem_iff.2 (List.mem_append_left hr List.mem_cons_self))
  have hle:n*sz≤arr.size:=by rw[h4];exact Nat.mul_le_mul_right _ h2
  refine mY vs o 0 arr hj (by omega) hv ?_
  intro arr' hs' hq
  have he:arr'=wr arr o vs:=IC fun q=>by rw[hq q,I6 (by omega)];simp
  subst he
  refine hk [(b,.cells (wr arr o vs) e (0,0))] _ ?_ ⟨?_,h2,.inr ⟨b,_,rfl,rfl,by rw[MB (by omega),h4],?_⟩⟩
  ·have h5:=BT hj (b,Obj.cells (wr arr o vs) e (0,0))
   exact h5.1.trans ((List.Perm.cons_inv (h5.2.symm.trans hp)).cons _)
  ·rw[Lr (by omega),h1]
  ·subst h5
   have l1:(arr.toList.take o).length=o:=by simp;omega
   simp only[wr,wrL]
   rw[List.take_append,List.take_of_length_le (l:=arr.toList.take o++vs) (by rw[List.length_append,l1];omega),List.length_append,l1,List.take_take,Nat.min_eq_left (by omega),List.drop_take]
theorem iH{t e:TypeId}{v:Value}{k:Tr}{sz:Nat}{a ad:Addr}{n c:Nat}(o:Nat){cs:List Value}{m hr:Mem}(hQ:Aff Q)(hp:h.Perm (m++hr))(ho:Own e sz (some a) n c cs m)(had:ad=a.add o)(hs:i4 P t=some v.cells.size)(hlen:o+v.cells.size≤n*sz)
  (hv: ∀u∈v.cells.toList,(∀x,u≠ .agg x)∧ ∀x,u≠ .tuple x)(hk: ∀m',Own e sz (some a) n c (wrL cs o v.cells.toList) m'→holds P f I Q k (m'++hr)):
  holds P f I Q (.unit (Instr.storeAt t (.pointer (some ad)) v) k) h:=by
 intro _
 subst had
 show swp P I (storeVar t (a.add o) v) h _
 unfold storeVar
 refine aK (eV hs) ?_
 simp only[ne_eq,not_true_eq_false,if_false]
 exact xc hp ho (by simpa using hlen) hv fun m' h' hp' ho'=>aN hQ hp' (hk m' ho')
theorem B8{z:Array Value}(hz: ∀v∈z.toList,(∀x,v≠ .agg x)∧ ∀x,v≠ .tuple x)(n:Nat): ∀v∈(Builtin.zeroCells z n).toList,(∀x,v≠ .agg x)∧ ∀x,v≠ .tuple x:=by
 intro v hv
 simp only[Builtin.zeroCells,Array.toList_map,List.mem_map,Array.toList_range,List.mem_range]at hv
 obtain⟨i,hi,rfl⟩:=hv
 have hs:0<z.size:=by
  rcases Nat.eq_zero_or_pos z.size with h|h
  ·rw[h]at hi;omega
  ·exact h
 have hm:=Nat.mod_lt i hs
 rw[getElem!_pos z _ hm]
 exact hz _ (by simp)
theorem NU{ts e ty:TypeId}{sz by_:Nat}{z:Value}{cons:Array Bool}(hb:oZ P ts e sz by_ z){A A':Option Addr}{n c n' c' o:Nat}{cs:List Value}{m hr:Mem}(hQ:Aff Q)(hp:h.Perm (m++hr))(ho:Own e sz A n c cs m)
  (hA:n'=0∨ ∃a,A=some a∧A'=some (a.add o))(hlen:o+n'*sz≤n*sz)(hv: ∀u∈z.cells.toList,(∀x,u≠ .agg x)∧ ∀x,u≠ .tuple x)
  (hk: ∀m',Own e sz A n c (wrL cs o (Builtin.zeroCells z.cells n').toList) m'→holds P f I Q (k fun _=>{}) (m'++hr)):
  holds P f I Q (.nx (builtin .clear #[ts] ty cons #[.slice A' n' c']) (.tup []) k) h:=by
 intro _
 refine yA ?_
 show swp P I (Builtin.clear_ #[ts] ty #[.slice A' n' c']) h _
 unfold Builtin.clear_
 simp only[List.getElem?_toArray,List.getElem?_cons_zero,List.getElem?_cons_succ]
 refine aK (ap hb.u) ?_
 rcases hA with rfl|⟨a,rfl,rfl⟩
 ·have h0:(Builtin.zeroCells z.cells 0).toList=[]:=by simp[Builtin.zeroCells]
  rw[h0,NP]at hk
  have hfin:swp P I (pure (Value.tuple #[])) h (fun v h'=> ∃l,Next.value v= .value ((Sh.tup []).val l)∧holds P f I Q (k l) h'):=⟨fun _=>{},rfl,aN hQ hp (hk m ho)⟩
  cases A'<;>exact hfin
 ·obtain⟨ti,hi,hti1,hti2,hti3⟩:=hb.info
  have hz:iC P e=some z:=by simp[iC,hi,hti3]
  cases n' with
  |zero=>
   have h0:(Builtin.zeroCells z.cells 0).toList=[]:=by simp[Builtin.zeroCells]
   rw[h0,NP]at hk
   exact⟨fun _=>{},rfl,aN hQ hp (hk m ho)⟩
  |succ n'=>
   show swp P I (zeroValue e>>=fun zv=>storeCells (a.add o) (Builtin.zeroCells zv.cells (n'+1)).toList>>=fun _=>pure (Value.tuple #[])) h _
   refine aK (jE hz) ?_
   rw[aS]
   refine xc hp ho ?_ (B8 hv _) fun m' h' hp' ho'=>⟨fun _=>{},rfl,aN hQ hp' (hk m' ho')⟩
   rw[Array.length_toList,d7,hb.z]
   exact hlen
theorem Lh(hQ:Aff Q){ts tx e ty:TypeId}{sz by_:Nat}{z:Value}{cons:Array Bool}(hb:oZ P ts e sz by_ z)(hx:OX P tx=true){A A2:Option Addr}{n c n2 c2:Nat}{cs cs2:List Value}{m hr:Mem}
  (h2:RdC I h A2 cs2)(hA2:A2=none→n2=0)(hl2:cs2.length=n2*sz)(hv: ∀v∈cs2,(∀x,v≠ .agg x)∧ ∀x,v≠ .tuple x)(hp:h.Perm (m++hr))(ho:Own e sz A n c cs m)
  (hbd:(n+n2)*by_≤140737488355328)(hby:0<by_)(hroom:n+n2≤c)(hk: ∀m',Own e sz A (n+n2) c (cs++cs2) m'→holds P f I Q (k fun _=>{A:=A,n:=n+n2,c:=c}) (m'++hr)):
  holds P f I Q (.nx (builtin .append #[ts,tx] ty cons #[.slice A n c,.slice A2 n2 c2]) LG k) h:=by
 intro _
 refine yA (Gq (K:=fun v h'=> ∃l,Next.value v= .value (LG.val l)∧holds P f I Q (k l) h') hb (GW hx) rfl (fun R hr=>m7 hl2 h2 hA2 hr) hl2 hv hp ho hbd hby ?_ ?_)
 ·intro A' c' m' h' he hp' ho'
  obtain⟨rfl,rfl⟩:=he hroom
  exact⟨fun _=>{A:=A',n:=n+n2,c:=c'},rfl,aN hQ hp' (hk m' ho')⟩
 ·rintro v h1 g h2 hp2 ⟨l,hv,hh⟩
  exact⟨l,hv,u3 hQ hp2 hh⟩
theorem JP{t e:TypeId}{sz by_:Nat}{z:Value}(hb:oZ P t e sz by_ z){n c:Nat}{ik ik2:IntKind}(hn:n≤c)(hbd:by_*c≤140737488355328)(hby:0<by_)
  (hk: ∀g,g∉keys h→I g=none→Own e sz (some ⟨g,0,none⟩) n c (Builtin.zeroCells z.cells n).toList [(g,.cells (Builtin.zeroCells z.cells c) e (0,0))]→
   holds P f I Q (k fun _=>{A:=some ⟨g,0,none⟩,n:=n,c:=c}) ((g,.cells (Builtin.zeroCells z.cells c) e (0,0))::h)):
  holds P f I Q (.sem (Instr.makeSlice t (.int ik n) (.int ik2 c)) LG k) h:=by
 intro _
 obtain⟨ti,hi,hti1,hti2,hti3⟩:=hb.info
 have hsz:i4 P e=some sz:=by simp[i4,hi,hti1]
 have hz:iC P e=some z:=by simp[iC,hi,hti3]
 have hc63:c≤140737488355328:=Nat.le_trans (Nat.le_mul_of_pos_left c hby) hbd
 unfold Instr.makeSlice
 refine aK (ap hb.u) ?_
 simp only[]
 refine aK (a:=(n:Int)) rfl ?_
 refine aK (a:=(c:Int)) rfl ?_
 refine aK (bc hi) ?_
 rw[hti2]
 have w: ∀x:Nat,x≤140737488355328→IntKind.i64.wrap (x:Int)=x:=by
  intro x hx
  exact cr (by omega)
 rw[w n (by omega),w c hc63]
 have t1: ∀x:Nat,x≤c→((decide ((x:Int)<0)||decide ((by_:Int)*(x:Int)>2^48))=false):=by
  intro x hx
  have h1:by_*x≤140737488355328:=Nat.le_trans (Nat.mul_le_mul_left _ hx) hbd
  have h2:(by_:Int)*(x:Int)≤140737488355328:=by rw[←Int.natCast_mul];omega
  simp only[Bool.or_eq_false_iff,decide_eq_false_iff_not]
  omega
 rw[if_neg (by
  rw[t1 c (Nat.le_refl _)]
  simp
  omega)]
 show swp P I (askRoom ((c:Int).toNat*by_)>>=fun _=>_) h _
 rw[aS]
 have hask: ∀(y:Nat) (R:Unit→Mem→Prop),R () h→swp P I (askRoom y) h R:=by
  intro y R hr
  unfold askRoom
  split
  ·exact hr
  ·exact hr
 refine hask _ _ ?_
 refine aK (eV hsz) ?_
 simp only[Int.toNat_natCast]
 have key: ∀zc:Array Value,(zc=z.cells∨c*sz=0)→swp P I (newRow e ((Array.range (c*sz)).map fun x=>zc[x%zc.size]!)>>=fun a=>pure (Value.slice (some a) n c)) h
   (fun v h'=> ∃l,v=LG.val l∧holds P f I Q (k l) h'):=by
  intro zc hzc
  have he:((Array.range (c*sz)).map fun x=>zc[x%zc.size]!)=Builtin.zeroCells z.cells c:=by
   rcases hzc with rfl|h0
   ·simp[Builtin.zeroCells,hb.z]
   ·simp[Builtin.zeroCells,hb.z,h0]
  rw[he]
  intro g hg hI
  refine⟨fun _=>{A:=some ⟨g,0,none⟩,n:=n,c:=c},rfl,hk g hg hI ?_⟩
  refine⟨by rw[Array.length_toList,d7,hb.z],hn,.inr ⟨g,_,rfl,rfl,by rw[d7,hb.z],?_⟩⟩
  have hle:n*sz≤c*sz:=Nat.mul_le_mul_right _ hn
  simp only[Builtin.zeroCells,Array.toList_map,Array.toList_range,hb.z,←List.map_take,List.take_range,Nat.min_eq_left hle]
 by_cases h0:c*sz=0
 ·simp only[if_pos h0,pure_bind]
  exact key #[] (.inr h0)
 ·simp only[if_neg h0]
  refine aK (jE hz) ?_
  exact key z.cells (.inl rfl)
end
section
variable {α:Type} {el el':α→List Value→Prop} {sz:Nat}
def nD(el:α→List Value→Prop):List α→List Value→Prop
 |[],cs=>cs=[]
 |p::l,cs=> ∃c r,cs=c++r∧el p c∧nD el l r
theorem nD.mono(hs: ∀p c,el p c→el' p c): ∀{l:List α} {cs:List Value},nD el l cs→nD el' l cs
 |[],_,h=>h
 |p::l,_,⟨c,r,e,h1,h2⟩=>⟨c,r,e,hs _ _ h1,nD.mono hs h2⟩
theorem nD.len(hl: ∀p c,el p c→c.length=sz): ∀{l:List α} {cs:List Value},nD el l cs→cs.length=l.length*sz
 |[],_,h=>by rw[show _=[]from h];simp
 |p::l,_,⟨c,r,e,h1,h2⟩=>by rw[e,List.length_append,hl _ _ h1,nD.len hl h2,List.length_cons,Nat.succ_mul,Nat.add_comm]
theorem nD.append: ∀{l l':List α} {cs cs':List Value},nD el l cs→nD el l' cs'→nD el (l++l') (cs++cs')
 |[],l',cs,cs',h,h'=>by rw[show cs=[]from h];exact h'
 |p::l,l',_,cs',⟨c,r,e,h1,h2⟩,h'=>⟨c,r++cs',by rw[e,List.append_assoc],h1,h2.append h'⟩
theorem nD.one{p:α}{c:List Value}(h:el p c):nD el [p] c:=⟨c,[],by simp,h,rfl⟩
theorem nD.snoc{l:List α}{cs:List Value}{p:α}{c:List Value}(h:nD el l cs)(h':el p c):nD el (l++[p]) (cs++c):=h.append (nD.one h')
theorem nD.get(hl: ∀p c,el p c→c.length=sz): ∀{l:List α} {cs:List Value} {i:Nat} {p:α},nD el l cs→l[i]? =some p→ ∃c,el p c∧ ∀q v,c[q]? =some v→cs[i*sz+q]? =some v
 |[],_,i,p,_,hp=>by simp at hp
 |x::l,_,0,p,⟨c,r,e,h1,h2⟩,hp=>by
  simp at hp
  subst hp
  refine⟨c,h1,fun q v hq=>?_⟩
  rw[e,Nat.zero_mul,Nat.zero_add,List.getElem?_append_left (List.getElem?_eq_some_iff.1 hq).1]
  exact hq
 |x::l,_,i+1,p,⟨c,r,e,h1,h2⟩,hp=>by
  obtain⟨c',h3,h4⟩:=nD.get hl h2 (by simpa using hp)
  have hc:=hl _ _ h1
  refine⟨c',h3,fun q v hq=>?_⟩
  rw[e,List.getElem?_append_right (by rw[hc,Nat.succ_mul];omega),hc,show(i+1)*sz+q - sz=i*sz+q by rw[Nat.succ_mul];omega]
  exact h4 q v hq
theorem nD.take(hl: ∀p c,el p c→c.length=sz): ∀{l:List α} {cs:List Value} (i:Nat),nD el l cs→nD el (l.take i) (cs.take (i*sz))
 |l,cs,0,h=>by simp[nD]
 |[],cs,i+1,h=>by rw[show cs=[]from h];simp[nD]
 |p::l,cs,i+1,⟨c,r,e,h1,h2⟩=>by
  have hc:=hl _ _ h1
  refine⟨c,r.take (i*sz),?_,h1,nD.take hl i h2⟩
  rw[e,List.take_append,List.take_of_length_le (by rw[hc,Nat.succ_mul];omega),hc,show(i+1)*sz - sz=i*sz by rw[Nat.succ_mul];omega]
theorem nD.drop(hl: ∀p c,el p c→c.length=sz): ∀{l:List α} {cs:List Value} (i:Nat),nD el l cs→nD el (l.drop i) (cs.drop (i*sz))
 |l,cs,0,h=>by simpa using h
 |[],cs,i+1,h=>by rw[show cs=[]from h];simp[nD]
 |p::l,cs,i+1,⟨c,r,e,h1,h2⟩=>by
  have hc:=hl _ _ h1
  have:=nD.drop hl i h2
  rw[e,List.drop_append,List.drop_of_length_le (l:=c) (by rw[hc,Nat.succ_mul];omega),hc,show(i+1)*sz - sz=i*sz by rw[Nat.succ_mul];omega]
  simpa using this
theorem nD.plain(hl: ∀p c,el p c→ ∀v∈c,(∀x,v≠ .agg x)∧ ∀x,v≠ .tuple x): ∀{l:List α} {cs:List Value},nD el l cs→ ∀v∈cs,(∀x,v≠ .agg x)∧ ∀x,v≠ .tuple x
 |[],cs,h=>by rw[show cs=[]from h];simp
 |p::l,cs,⟨c,r,e,h1,h2⟩=>by
  rw[e]
  intro v hv
  rcases List.mem_append.1 hv with hv|hv
  ·exact hl _ _ h1 v hv
  ·exact nD.plain hl h2 v hv
theorem nD.at(hl: ∀p c,el p c→c.length=sz){J:Ctx}{A:Option Addr}{l:List α}{cs:List Value}(h:nD el l cs)(hr:RdC J [] A cs)(hsz:0<sz){i:Nat}{p:α}(hp:l[i]? =some p):
  ∃a c,A=some a∧el p c∧df J [] (a.add (i*sz)) c:=by
 obtain⟨c,h1,h2⟩:=nD.get hl h hp
 have hc:=hl _ _ h1
 obtain⟨a,rfl,h3⟩:=hr (fun he=>by
  obtain⟨v,hv⟩: ∃v,c[0]? =some v:=⟨_,List.getElem?_eq_getElem (by omega)⟩
  have:=h2 0 v hv
  rw[he]at this
  simp at this)
 exact⟨a,c,rfl,h1,fun q v hq=>by rw[add_add];exact h3 _ v (h2 q v hq)⟩
end
end Go.Proofs.YtadanegddceleaaGreatS
