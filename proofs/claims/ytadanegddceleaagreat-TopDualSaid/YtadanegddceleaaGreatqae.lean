import Derived.WideShapes
import Derived.ChangeAt
import Derived.ChangeSame
import Derived.Carry
import Derived.DataElems
import Derived.SizedLaws
import Derived.ChangeSlices
import Derived.Test.YtadanegddceleaaGreatqad
set_option linter.unusedSimpArgs false
set_option linter.unusedVariables false
set_option maxRecDepth 20000
namespace Go.Proofs.YtadanegddceleaaGreatS
section
open Go Go.RowKit Go.ChangeShapes Go.WideShapes
structure RdB (I:Ctx) (A:Option Addr) (n:Nat) (l:List UInt8):Prop where
 len:l.length=n
 nil:A=none→n=0
 rd:RdC I [] A (bC l)
theorem RdB.up{I J:Ctx}{A:Option Addr}{n:Nat}{l:List UInt8}(h:RdB I A n l)(hs: ∀b o,I b=some o→J b=some o):RdB J A n l:=⟨h.len,h.nil,h.rd.up hs⟩
abbrev wC(w:World):Ctx:=fun b=>w.heap[b]?
theorem QW{w:World}{a:Addr}{v:Value}(h:w.cell? a=some v):bh (wC w) [] a v:=by
 unfold World.cell? at h
 split at h
 ·rename_i c t f hb
  split at h
  ·cases h
  ·rename_i hs
   refine⟨by cases hx:a.spot with|none=>rfl|some y=>rw[hx]at hs;simp at hs,c,t,f,.inr hb,h⟩
 ·cases h
def Rd{α:Type}(P:Program)(t:TypeId)(el:Ctx→α→List Value→Prop):Prop:=
 ∀(H:Type) (enc:TypeId×Value→H) (w:World) (base:Nat) (spare:Nat→Bool) (held:Bool) (fuel:Nat) (cs:List Value) (y:DataW H×List MemPlace),
  DataW.trod enc P w base spare held fuel t cs=some y→ ∃x,el (wC w) x cs
section
variable {P:Program} {α β:Type}
theorem Rd.map{t:TypeId}{el:Ctx→α→List Value→Prop}{el':Ctx→β→List Value→Prop}(h:Rd P t el)(hm: ∀J x cs,el J x cs→ ∃y,el' J y cs):Rd P t el':=
 fun H enc w base spare held fuel cs y hy=>let⟨x,hx⟩:=h H enc w base spare held fuel cs y hy;hm _ x cs hx
abbrev elI(k:IntKind)(_:Ctx)(x:Int)(cs:List Value):Prop:=cs=[.int k x]∧(Lit.int k x).wf=true
theorem zX{t:TypeId}{k:IntKind}(ht:P.underlying t=some (.int k)):Rd P t (elI k):=by
 intro H enc w base spare held fuel cs y hy
 cases fuel with
 |zero=>simp[DataW.trod]at hy
 |succ fuel=>
  unfold DataW.trod at hy
  rw[ht]at hy
  match cs,hy with
  |[.int k' n],hy=>
   simp only at hy
   split at hy
   ·rename_i h
    obtain⟨rfl,hw⟩:=h
    exact⟨n,rfl,hw⟩
   ·cases hy
def RdF(P:Program)(fs:List Field)(off sz:Nat)(el:Ctx→α→List Value→Prop):Prop:=
 ∀(H:Type) (enc:TypeId×Value→H) (w:World) (base:Nat) (spare:Nat→Bool) (held:Bool) (fuel:Nat) (cs:List Value),
  (∀f∈fs,∃y,DataW.trod enc P w base spare held fuel f.type ((cs.drop f.offset).take (P.cellsOf f.type))=some y)→ ∃x,el (wC w) x ((cs.drop off).take sz)
theorem Id{f:Field}{off sz:Nat}{el:Ctx→α→List Value→Prop}(h:Rd P f.type el)(ho:f.offset=off)(hc:P.cellsOf f.type=sz):RdF P [f] off sz el:=by
 intro H enc w base spare held fuel cs hf
 obtain⟨y,hy⟩:=hf f (List.mem_singleton.2 rfl)
 rw[ho,hc]at hy
 exact h H enc w base spare held fuel _ y hy
abbrev elP(el:Ctx→α→List Value→Prop)(el':Ctx→β→List Value→Prop)(J:Ctx)(x:α×β)(cs:List Value):Prop:= ∃c d,cs=c++d∧el J x.1 c∧el' J x.2 d
theorem vd{f:Field}{fs:List Field}{off sz sz':Nat}{el:Ctx→α→List Value→Prop}{el':Ctx→β→List Value→Prop}(h:Rd P f.type el)(ho:f.offset=off)(hc:P.cellsOf f.type=sz)
  (h':RdF P fs (off+sz) sz' el'):RdF P (f::fs) off (sz+sz') (elP el el'):=by
 intro H enc w base spare held fuel cs hf
 obtain⟨x,hx⟩:=Id h ho hc H enc w base spare held fuel cs (fun g hg=>hf g (by rw[List.mem_singleton]at hg;rw[hg];exact List.mem_cons_self))
 obtain⟨z,hz⟩:=h' H enc w base spare held fuel cs (fun g hg=>hf g (List.mem_cons_of_mem _ hg))
 refine⟨(x,z),_,_,?_,hx,hz⟩
 rw[List.take_add,List.drop_drop]
theorem B7{α β:Type}{g:α→Option β}: ∀{l:List α} {r:List β},l.mapM g=some r→ ∀f∈l,∃y,g f=some y
 |[],_,_=>fun f hf=>by cases hf
 |a::l,r,h=>fun f hf=>by
  rw[List.mapM_cons]at h
  simp only[Option.bind_eq_bind,Option.bind_eq_some_iff,Option.pure_def]at h
  obtain⟨x,hx,ys,hys,_⟩:=h
  rcases List.mem_cons.1 hf with rfl|hf
  ·exact⟨x,hx⟩
  ·exact B7 hys f hf
theorem GH{t:TypeId}{fs:Array Field}{sz:Nat}{el:Ctx→α→List Value→Prop}(ht:P.underlying t=some (.struct fs))(hc:P.cellsOf t=sz)(h:RdF P fs.toList 0 sz el):Rd P t el:=by
 intro H enc w base spare held fuel cs y hy
 cases fuel with
 |zero=>simp[DataW.trod]at hy
 |succ fuel=>
  unfold DataW.trod at hy
  rw[ht]at hy
  simp only at hy
  split at hy
  ·rename_i hl
   cases hm:fs.toList.mapM (fun f=>DataW.trod enc P w base spare held fuel f.type ((cs.drop f.offset).take (P.cellsOf f.type)))with
   |none=>rw[hm]at hy;cases hy
   |some xs=>
    obtain⟨x,hx⟩:=h H enc w base spare held fuel cs (B7 hm)
    rw[List.drop_zero,List.take_of_length_le (by omega)]at hx
    exact⟨x,hx⟩
  ·cases hy
theorem Kr{w:World}{base:Nat}{a:Addr}{n:Nat}{cs:List Value}(h:w.cells? base a n=some cs):cs.length=n∧ ∀i u,cs[i]? =some u→w.cell? (a.add i)=some u:=by
 unfold World.cells? at h
 split at h
 ·have key: ∀(l:List Nat) (r:List Value),l.mapM (fun i=>w.cell? (a.add i))=some r→r.length=l.length∧ ∀(i:Nat) (u:Value),r[i]? =some u→ ∃j,l[i]? =some j∧w.cell? (a.add j)=some u:=by
   intro l
   induction l with
   |nil=>intro r hr;simp at hr;subst hr;simp
   |cons b l ih=>
    intro r hr
    rw[List.mapM_cons]at hr
    simp only[Option.bind_eq_bind,Option.bind_eq_some_iff,Option.pure_def,Option.some.injEq]at hr
    obtain⟨x,hx,ys,hys,rfl⟩:=hr
    obtain⟨h1,h2⟩:=ih ys hys
    refine⟨by simp[h1],?_⟩
    intro i u hi
    cases i with
    |zero=>simp at hi;subst hi;exact⟨b,rfl,hx⟩
    |succ i=>simp at hi;obtain⟨j,hj,hu⟩:=h2 i u hi;exact⟨j,by simpa using hj,hu⟩
  obtain⟨h1,h2⟩:=key _ _ h
  refine⟨by simpa using h1,?_⟩
  intro i u hi
  obtain⟨j,hj,hu⟩:=h2 i u hi
  rw[List.getElem?_range]at hj
  ·injection hj with hj;subst hj;exact hu
  ·obtain⟨hl,_⟩:=List.getElem?_eq_some_iff.1 hi;rw[h1]at hl;simpa using hl
 ·cases h
abbrev QS(el:Ctx→α→List Value→Prop)(J:Ctx)(l:List α)(cs:List Value):Prop:=
 ∃A c cs',cs=[.slice A l.length c]∧RdC J [] A cs'∧nD (el J) l cs'∧(A=none→l.length=0)∧l.length≤c∧c≤maxLen
theorem Jv{t e:TypeId}{sz:Nat}{el:Ctx→α→List Value→Prop}(ht:P.underlying t=some (.slice e))(hc:P.cellsOf e=sz)(hlen: ∀J x c,el J x c→c.length=sz)(h:Rd P e el):Rd P t (QS el):=by
 intro H enc w base spare held fuel cs y hy
 cases fuel with
 |zero=>simp[DataW.trod]at hy
 |succ fuel=>
  unfold DataW.trod at hy
  rw[ht]at hy
  match cs,hy with
  |[.slice none 0 0],_=>exact⟨[],none,0,[],rfl,RdC.nil _,rfl,fun _=>rfl,Nat.le_refl _,by unfold maxLen;omega⟩
  |[.slice (some a) len cap],hy=>
   simp only at hy
   split at hy
   ·rename_i hb
    obtain⟨hb1,hb2,hb3⟩:=hb
    obtain⟨elems,hm,_⟩:=Option.bind_eq_some_iff.1 hy
    have hsome:=B7 hm
    have each: ∀i,i<len→ ∃x c,el (wC w) x c∧ ∀j u,c[j]? =some u→w.cell? (a.add (i*sz+j))=some u:=by
     intro i hi
     obtain⟨z,hz⟩:=hsome i (List.mem_range.2 hi)
     obtain⟨c,hcs,hr⟩:=Option.bind_eq_some_iff.1 hz
     obtain⟨hl,hcell⟩:=Kr hcs
     obtain⟨x,hx⟩:=h H enc w base spare held fuel c z hr
     refine⟨x,c,hx,?_⟩
     intro j u hj
     have:=hcell j u hj
     rw[hc]at this
     have e2:(a.add (i*sz)).add j=a.add (i*sz+j):=Addr.add_add _ _ _
     rw[e2]at this
     exact this
    have all: ∀n,n≤len→ ∃(l:List α) (cs':List Value),l.length=n∧nD (el (wC w)) l cs'∧ ∀i u,cs'[i]? =some u→w.cell? (a.add i)=some u:=by
     intro n
     induction n with
     |zero=>intro _;exact⟨[],[],rfl,rfl,by simp⟩
     |succ n ih=>
      intro hn
      obtain⟨l,cs',hl,hrow,hcl⟩:=ih (by omega)
      obtain⟨x,c,h1,h2⟩:=each n (by omega)
      have hlen':=hrow.len (hlen _)
      refine⟨l++[x],cs'++c,by simp[hl],hrow.snoc h1,?_⟩
      intro i u hi
      by_cases hlt:i<cs'.length
      ·rw[List.getElem?_append_left hlt]at hi
       exact hcl i u hi
      ·rw[List.getElem?_append_right (by omega)]at hi
       have:=h2 _ u hi
       rw[hl]at hlen'
       rw[show n*sz+(i - cs'.length)=i by omega]at this
       exact this
    obtain⟨l,cs',hl,hrow,hcl⟩:=all len (Nat.le_refl _)
    refine⟨l,some a,cap,cs',by rw[hl],fun _=>⟨a,rfl,fun i u hi=>QW (hcl i u hi)⟩,hrow,fun h=>(by cases h),by omega,by omega⟩
   ·cases hy
theorem QH{el:Ctx→α→List Value→Prop}{J:Ctx}{v:Value}{l:List α}(s: ∃a n c,v= .slice a n c)(h:QS el J l v.cells.toList): ∃A c cs',v= .slice A l.length c∧RdC J [] A cs'∧nD (el J) l cs':=by
 obtain⟨a,n,c,rfl⟩:=s
 obtain⟨A,c',cs',e,hr,hrow, -⟩:=h
 simp[Value.cells]at e
 obtain⟨rfl,rfl,rfl⟩:=e
 exact⟨a,c,cs',rfl,hr,hrow⟩
end
end
section
variable {P:Program} {I:Ctx} {f:Ctl} {Q:Value→Mem→Prop} {h:Mem} {sh:Sh} {k:(Nat→jT)→Tr}
theorem Qk{t:TypeId}{ik yk:IntKind}{x y:Int}(hy:0≤y)(hk:holds P f I Q (k fun _=>{i:=x.fdiv (2^(min y.toNat ik.bits))}) h):holds P f I Q (.rdn (D6 .shr t (.int ik x) (.int yk y)) (.one (.sc (.int ik))) k) h:=by
 refine k8 _ ?_ hk
 unfold D6
 refine iq ?_
 refine aB (a:=()) rfl ?_
 show rwp P I h (Op.shift .shr ik x yk y) _
 unfold Op.shift
 rw[if_neg (by omega)]
 rfl
theorem QV{t:TypeId}{ik yk:IntKind}{x y:Int}(hy:0≤y)(hk:holds P f I Q (k fun _=>{i:=ik.wrap (x*2^(min y.toNat ik.bits))}) h):holds P f I Q (.rdn (D6 .shl t (.int ik x) (.int yk y)) (.one (.sc (.int ik))) k) h:=by
 refine k8 _ ?_ hk
 unfold D6
 refine iq ?_
 refine aB (a:=()) rfl ?_
 show rwp P I h (Op.shift .shl ik x yk y) _
 unfold Op.shift
 rw[if_neg (by omega)]
 rfl
theorem Nh{ts tx e ty:TypeId}{sz by_:Nat}{z:Value}{cons:Array Bool}{ik xk:IntKind}(hb:oZ P ts e sz by_ z)(hx:P.underlying tx=some (.int xk)){n:Nat}(hn:0<n)(hbd:n*by_≤140737488355328)(hby:0<by_)
  (hk: ∀g c o,g∉keys h→I g=none→Own e sz (some ⟨g,0,none⟩) n c (Builtin.zeroCells z.cells n).toList [(g,o)]→holds P f I Q (k fun _=>{A:=some ⟨g,0,none⟩,n:=n,c:=c}) ((g,o)::h)):
  holds P f I Q (.nx (builtin .append #[ts,tx] ty cons #[.slice none 0 0,.int ik (n:Int)]) LG k) h:=by
 intro _
 obtain⟨ti,hi,hti1,hti2,hti3⟩:=hb.info
 have hsz:i4 P e=some sz:=by simp[i4,hi,hti1]
 have hz:iC P e=some z:=by simp[iC,hi,hti3]
 have hn63:n≤140737488355328:=Nat.le_trans (Nat.le_mul_of_pos_right n hby) hbd
 refine yA ?_
 show swp P I (Builtin.append_ #[ts,tx] ty #[.slice none 0 0,.int ik (n:Int)]) h _
 unfold Builtin.append_
 simp only[List.getElem?_toArray,List.getElem?_cons_zero,List.getElem?_cons_succ]
 refine aK (ap hb.u) ?_
 simp only[]
 refine aK (eV hsz) ?_
 refine aK (ap hx) ?_
 refine aK (a:=true) rfl ?_
 show swp P I (if true=true then _ else _) h _
 rw[if_pos rfl]
 refine aK (a:=(n:Int)) rfl ?_
 have hw:IntKind.i64.wrap (n:Int)=n:=cr (by omega)
 rw[hw]
 rw[if_neg (by omega)]
 refine aK (bc hi) ?_
 rw[hti2]
 have hle:(n:Int)*(by_:Int)≤140737488355328:=by rw[←Int.natCast_mul];omega
 rw[if_neg (by omega)]
 refine aK (a:=n) (by show some ((n:Int).toNat)=some n;simp) ?_
 show swp P I (if 0+n≤0 then _ else _) h _
 rw[if_neg (by omega)]
 have hgf:=growslice_fits (old:=0) (need:=0+n) (bytes:=by_) (by omega) (by simpa using hbd)
 refine aK (bc hi) ?_
 rw[hti2]
 have hmx: ¬(((0+n:Nat):Int)>IntKind.i64.max):=by
  show¬(((0+n:Nat):Int)>9223372036854775807)
  omega
 rw[if_neg (fun hh=>hmx hh.1)]
 refine aK (bc hi) ?_
 rw[hti2]
 rw[if_neg (by omega)]
 rw[aS]
 refine⟨fun hfo=>by simp[Question.forced]at hfo,fun _ t=>?_⟩
 have hcap: ∃q,(Question.appendCap (0+n) 0 e).cut t=0+n+q:=⟨t%(2^63 - (0+n)),rfl⟩
 obtain⟨q,hq⟩:=hcap
 rw[hq]
 show swp P I (typeInfo e>>=fun _=>_) h _
 refine aK (bc hi) ?_
 rw[aS]
 have hask: ∀(y:Nat) (R:Unit→Mem→Prop),R () h→swp P I (askRoom y) h R:=by
  intro y R hr
  unfold askRoom
  split
  ·exact hr
  ·exact hr
 refine hask _ _ ?_
 refine aK (a:=#[]) rfl ?_
 show swp P I ((if(!true)=true then Builtin.firstCells sz n (.int ik (n:Int))else if n*sz=0 then(pure #[]:Sem (Array Value))else do pure (Builtin.zeroCells (←zeroValue e).cells n))>>=fun _=>_) h _
 rw[if_neg (by simp)]
 have fin:swp P I ((do let w←zeroValue e;let r←newRow e (#[]++Builtin.zeroCells z.cells n++Builtin.zeroCells w.cells (0+n+q - (0+n)));pure (Value.slice (some r) (0+n) (0+n+q))):Sem Value) h (fun v h'=> ∃l,Next.value v= .value (LG.val l)∧holds P f I Q (k l) h'):=by
  refine aK (jE hz) ?_
  rw[aS]
  intro g hg hI
  refine⟨fun _=>{A:=some ⟨g,0,none⟩,n:=n,c:=n+q},by simp[Sh.val,Sh1.val,Sc.val],hk g (n+q) _ hg hI ⟨by rw[Array.length_toList,d7,hb.z],by omega,.inr ⟨g,_,rfl,rfl,?_,?_⟩⟩⟩
  ·simp only[Array.size_append,d7,hb.z,List.size_toArray,List.length_nil,Nat.zero_add]
   rw[←Nat.add_mul,show n+(n+q - n)=n+q by omega]
  ·have h1:(Builtin.zeroCells z.cells n).toList.length=n*sz:=by rw[Array.length_toList,d7,hb.z]
   simp only[Array.toList_append,List.nil_append]
   rw[List.take_append_of_le_length (by omega),List.take_of_length_le (by omega)]
 by_cases h0:n*sz=0
 ·rw[if_pos h0]
  have h1:Builtin.zeroCells z.cells n=#[]:=Array.eq_empty_of_size_eq_zero (by rw[d7,hb.z,h0])
  rw[h1]at fin
  exact fin
 ·rw[if_neg h0,aS]
  refine aK (jE hz) ?_
  exact fin
theorem RG{x:Int}:IntKind.u8.wrap x=x%256:=rfl
theorem RE{x:Int}:IntKind.u16.wrap x=x%65536:=rfl
theorem EI{x:Int}:IntKind.u32.wrap x=x%4294967296:=rfl
theorem wA{n:Nat}(h:n<4294967296):IntKind.u32.wrap (n:Int)=n:=by rw[EI];omega
theorem B1{n:Nat}(h:n<65536):IntKind.u16.wrap (n:Int)=n:=by rw[RE];omega
theorem Fv(n m:Nat):(n:Int).fdiv (2^m)=((n/2^m:Nat):Int):=by
 rw[Int.fdiv_eq_ediv_of_nonneg _ (by exact Int.pow_nonneg (by decide))]
 simp
def be:Nat→Nat→List UInt8
 |0,_=>[]
 |k+1,n=>UInt8.ofNat (n/256^k)::be k n
@[simp] theorem ek(k n:Nat):(be k n).length=k:=by
 induction k with
 |zero=>rfl
 |succ k ih=>simp[be,ih]
def val(l:List UInt8):Nat:=l.foldl (fun a b=>a*256+b.toNat) 0
theorem Fx(l:List UInt8)(b:UInt8):val (l++[b])=val l*256+b.toNat:=by simp[val]
theorem Pa{α:Type}{p:List α→Prop}(h0:p [])(h1: ∀l a,p l→p (l++[a]))(l:List α):p l:=by
 have key: ∀m:List α,p m.reverse:=by
  intro m
  induction m with
  |nil=>exact h0
  |cons a m ih=>rw[List.reverse_cons];exact h1 _ _ ih
 have:=key l.reverse
 rwa[List.reverse_reverse]at this
theorem NJ(l:List UInt8):val l<256^l.length:=by
 refine Pa (p:=fun l=>val l<256^l.length) (by simp[val]) (fun l b ih=>?_) l
 rw[Fx,List.length_append,List.length_singleton,Nat.pow_succ]
 have:=b.toNat_lt
 omega
theorem pi(n:Nat):(UInt8.ofNat n).toNat=n%256:=by simp
theorem Qa(k n:Nat):be (k+1) n=be k (n/256)++[UInt8.ofNat n]:=by
 induction k with
 |zero=>simp[be]
 |succ k ih=>
  rw[be,ih,be,Nat.div_div_eq_div_mul,show 256*256^k=256^(k+1) by rw[Nat.pow_succ,Nat.mul_comm]]
  rfl
theorem R4(k n:Nat):val (be k n)=n%256^k:=by
 induction k generalizing n with
 |zero=>simp[be,val,Nat.mod_one]
 |succ k ih=>
  rw[Qa,Fx,ih,pi]
  have h1:n%256^(k+1)=n%256+256*(n/256%256^k):=by rw[Nat.pow_succ,Nat.mul_comm (256^k),Nat.mod_mul]
  omega
theorem EF(n:Nat):(Builtin.zeroCells #[.int .u8 0] n).toList=bC (List.replicate n 0):=by
 simp only[Builtin.zeroCells,bC,List.map_replicate,Array.toList_map,Array.toList_range,List.size_toArray,List.length_singleton,Nat.mul_one,Nat.mod_one]
 apply List.ext_getElem?
 intro i
 simp[List.getElem?_replicate,List.getElem?_range]
 split<;>simp_all
theorem Qy(m:Nat)(b:UInt8)(l:List UInt8):wrL (bC (List.replicate (m+1) 0++l)) m [.int .u8 (b.toNat:Int)]=bC (List.replicate m 0++(b::l)):=by
 unfold wrL
 have h1:List.replicate (m+1) (0:UInt8)++l=List.replicate m 0++(0::l):=by rw[List.replicate_succ'];simp
 have h2:(bC (List.replicate m (0:UInt8))).length=m:=by simp
 rw[h1,bC_append,List.take_append_of_le_length (by omega),List.take_of_length_le (by omega),List.append_assoc,bC_append]
 congr 1
 rw[List.drop_append,List.drop_of_length_le (by simp),h2]
 simp[bC]
theorem QQ(x:Nat)(b:UInt8)(hx:x<16777216):oh .or .u32 (IntKind.wrap .u32 ((x:Int)*2^8)) (IntKind.wrap .u32 (b.toNat:Int))=((x*256+b.toNat:Nat):Int):=by
 have hb:=b.toNat_lt
 have h1:IntKind.wrap .u32 ((x:Int)*2^8)=((x*256:Nat):Int):=by rw[EI];omega
 have h2:IntKind.wrap .u32 (b.toNat:Int)=((b.toNat:Nat):Int):=by rw[EI];omega
 rw[h1,h2]
 show IntKind.u32.wrap ((BitVec.ofInt 32 ((x*256:Nat):Int)|||BitVec.ofInt 32 ((b.toNat:Nat):Int)).toNat:Int)=_
 rw[BitVec.toNat_or,BitVec.ofInt_natCast,BitVec.ofInt_natCast,BitVec.toNat_ofNat,BitVec.toNat_ofNat,Nat.mod_eq_of_lt (by omega),Nat.mod_eq_of_lt (by omega)]
 have h3:x*256|||b.toNat=x*256+b.toNat:=by
  have:=Nat.shiftLeft_add_eq_or_of_lt (i:=8) (b:=b.toNat) (by omega) x
  rw[Nat.shiftLeft_eq]at this
  exact this.symm
 rw[h3]
 exact wA (by omega)
end
section
variable {P:Program} {I:Ctx} {f:Ctl} {Q:Value→Mem→Prop} {h:Mem}
theorem EW{b off:Nat}{arr:Array Value}{t:TypeId}{fz:Nat×Nat}{v:Value}(hm:(b,.cells arr t fz)∈h)(hv:arr[off]? =some v):bh I h ⟨b,off,none⟩ v:=⟨rfl,arr,t,fz,.inl hm,hv⟩
theorem RI{b off n:Nat}{arr:Array Value}{t:TypeId}{fz:Nat×Nat}(hm:(b,.cells arr t fz)∈h):df I h ⟨b,off,none⟩ ((arr.toList.drop off).take n):=by
 intro i v hi
 rw[kp]
 refine EW hm ?_
 rw[List.getElem?_take]at hi
 split at hi
 ·rw[List.getElem?_drop]at hi;simpa using hi
 ·cases hi
theorem cw{b off:Nat}{cs:List Value}{arr:Array Value}{t:TypeId}{fz:Nat×Nat}(hm:(b,.cells arr t fz)∈h)(hv:(arr.toList.drop off).take cs.length=cs):df I h ⟨b,off,none⟩ cs:=by
 rw[←hv];exact RI hm
theorem mq0{x:Nat×Obj}{l:Mem}:x∈x::l:=List.mem_cons_self
theorem mq1{x y:Nat×Obj}{l:Mem}(h:x∈l):x∈y::l:=List.mem_cons_of_mem _ h
theorem mq2{x:Nat×Obj}{l m:Mem}(h:x∈l):x∈m++l:=List.mem_append_right _ h
def Upd(h:Mem)(x y:Nat×Obj)(h':Mem):Prop:= ∃j:Nat,h[j]? =some x∧h'=h.set j y
theorem Upd.here{x y:Nat×Obj}{l:Mem}:Upd (x::l) x y (y::l):=⟨0,rfl,rfl⟩
theorem Upd.there{x y z:Nat×Obj}{l l':Mem}(h:Upd l x y l'):Upd (z::l) x y (z::l'):=by
 obtain⟨j,h1,rfl⟩:=h
 exact⟨j+1,by simpa using h1,by simp⟩
theorem Upd.right{x y:Nat×Obj}{l l' m:Mem}(h:Upd l x y l'):Upd (m++l) x y (m++l'):=by
 obtain⟨j,h1,rfl⟩:=h
 refine⟨m.length+j,?_,?_⟩
 ·rw[List.getElem?_append_right (by omega)]
  simpa using h1
 ·rw[List.set_append_right _ _ (by omega)]
  simp
theorem OZ{t t0:TypeId}{v:Value}{k:Tr}{b off:Nat}{arr:Array Value}{h':Mem}(hu:Upd h (b,.cells arr t0 (0,0)) (b,.cells (wr arr off v.cells.toList) t0 (0,0)) h')(hs:i4 P t=some v.cells.size)(hlen:off+v.cells.size≤arr.size)
  (hv: ∀u∈v.cells.toList,(∀x,u≠ .agg x)∧ ∀x,u≠ .tuple x)(hk:holds P f I Q k h'):
  holds P f I Q (.unit (Instr.storeAt t (.pointer (some ⟨b,off,none⟩)) v) k) h:=by
 obtain⟨j,hj,rfl⟩:=hu
 exact iW j hj hs hlen hv hk
section
variable {sh:Sh} {k:(Nat→jT)→Tr}
theorem Ql{t:TypeId}{b off:Nat}{arr:Array Value}{t0:TypeId}{fz:Nat×Nat}{v:Value}{T:Tr}(hm:(b,.cells arr t0 fz)∈h)(ht:D2 P t=false)(hv:arr[off]? =some v)(hk:holds P f I Q T h):
  holds P f I Q (.pin (vN (Instr.loadAt t (.pointer (some ⟨b,off,none⟩)))) v T) h:=DN (iq (ia ht (EW hm hv) rfl)) hk
end
theorem RdC.byte{A:Option Addr}{l:List UInt8}{i:Nat}{b:UInt8}(hr:RdC I h A (bC l))(hb:l[i]? =some b): ∃a,A=some a∧bh I h (a.add i) (.int .u8 (b.toNat:Int)):=by
 obtain⟨a,h1,h2⟩:=hr (fun he=>by have:=congrArg List.length he;simp at this;subst this;simp at hb)
 exact⟨a,h1,h2 i _ (by simp[bC,hb])⟩
theorem Jj{t e t2:TypeId}{ik:IntKind}{x:Int}{A:Option Addr}{n c:Nat}{l:List UInt8}{b:UInt8}{k:(Nat→jT)→(Nat→jT)→Tr}(i:Nat)(hr:RdC I h A (bC l))(hb:l[i]? =some b)(hl:l.length=n)(hx:x=(i:Int))
  (ht:P.underlying t=some (.slice e))(hs:i4 P e=some 1)(ht2:D2 P t2=false)
  (hk: ∀a',bh I h a' (.int .u8 (b.toNat:Int))→holds P f I Q (k (fun _=>{a:=a'}) (fun _=>{i:=(b.toNat:Int)})) h):
  holds P f I Q (.rd (Instr.indexAt t (.slice A n c) (.int ik x)) Ay fun l=> .rd (Instr.loadAt t2 (.pointer (some ((l 0).a)))) (.one (.sc (.int .u8))) (k l)) h:=by
 obtain⟨a,rfl,hc⟩:=hr.byte hb
 have hi:=(List.getElem?_eq_some_iff.1 hb).1
 subst hx
 refine aI a ht hs (by omega) (by omega) rfl ?_
 rw[Int.toNat_natCast,Nat.mul_one]
 exact aZ ht2 hc (hk _ hc)
theorem HP{t e t2:TypeId}{ik:IntKind}{x:Int}{a:Addr}{n c:Nat}{b:UInt8}{k:(Nat→jT)→(Nat→jT)→Tr}(i:Nat)(hc:bh I h (a.add i) (.int .u8 (b.toNat:Int)))(hi:i<n)(hx:x=(i:Int))
  (ht:P.underlying t=some (.slice e))(hs:i4 P e=some 1)(ht2:D2 P t2=false)
  (hk:holds P f I Q (k (fun _=>{a:=a.add i}) (fun _=>{i:=(b.toNat:Int)})) h):
  holds P f I Q (.rd (Instr.indexAt t (.slice (some a) n c) (.int ik x)) Ay fun l=> .rd (Instr.loadAt t2 (.pointer (some ((l 0).a)))) (.one (.sc (.int .u8))) (k l)) h:=by
 subst hx
 refine aI a ht hs (by omega) (by omega) rfl ?_
 rw[Int.toNat_natCast,Nat.mul_one]
 exact aZ ht2 hc hk
theorem RdB.cells{A:Option Addr}{n:Nat}{l:List UInt8}(h:RdB I A n l)(hn:0<n): ∃a,A=some a∧ ∀i b,l[i]? =some b→bh I [] (a.add i) (.int .u8 (b.toNat:Int)):=by
 have hl:=h.len
 obtain⟨a,h1,h2⟩:=h.rd (fun he=>by have:=congrArg List.length he;simp at this;subst this;simp at hl;omega)
 exact⟨a,h1,fun i b hb=>h2 i _ (by simp[bC,hb])⟩
theorem RdB.take{A:Option Addr}{n:Nat}{l:List UInt8}(h:RdB I A n l){i:Nat}(hi:i≤n):RdB I A i (l.take i):=by
 have hl:=h.len
 refine⟨by simp;omega,fun hA=>by have:=h.nil hA;omega,?_⟩
 have:=h.rd.take i
 simpa[bC,List.map_take]using this
theorem RdB.rest{A:Option Addr}{n c:Nat}{l:List UInt8}(h:RdB I A n l){i:Nat}(hi:i≤n)(hc:n≤c):RdB I (HX A i c 1) (n - i) (l.drop i):=by
 have hl:=h.len
 refine⟨by simp;omega,fun hA=>?_,?_⟩
 ·unfold HX at hA
  split at hA
  ·have:=h.nil hA;omega
  ·cases A with
   |none=>have:=h.nil rfl;omega
   |some a=>cases hA
 ·have:=h.rd.cut (l:=i) (u:=n) (m:=c) (sz:=1) hc
  rw[Nat.mul_one,Nat.mul_one,List.take_of_length_le (by simp;omega)]at this
  simpa[bC,List.map_drop]using this
section
variable {sh:Sh} {k:(Nat→jT)→Tr}
def okA(P:Program)(t:TypeId)(n:Nat):Bool:=PO P t&&i4 P t==some n
theorem Qp{t:TypeId}{n:Nat}(h:okA P t n=true):PO P t=true∧i4 P t=some n:=by
 unfold okA at h
 rw[Bool.and_eq_true,beq_iff_eq]at h
 exact h
theorem IF{t:TypeId}{b off:Nat}{arr:Array Value}{t0:TypeId}{fz:Nat×Nat}{cs:List Value}{R:Value→Prop}(hm:(b,.cells arr t0 fz)∈h)(hv:(arr.toList.drop off).take cs.length=cs)(ht:okA P t cs.length=true)(hr:R (.agg ⟨cs⟩)):rwp P I h (loadVar t ⟨b,off,none⟩) R:=by
 obtain⟨h1,h2⟩:=Qp ht
 exact FE h1 h2 (cw hm hv) hr
theorem laG{t:TypeId}{b off:Nat}{arr:Array Value}{t0:TypeId}{fz:Nat×Nat}(cs:List Value)(l:Nat→jT)(hm:(b,.cells arr t0 fz)∈h)(hv:(arr.toList.drop off).take cs.length=cs)(ht:okA P t cs.length=true)(hs:(.agg ⟨cs⟩:Value)=sh.val l)
  (hk:holds P f I Q (k l) h):holds P f I Q (.rd (Instr.loadAt t (.pointer (some ⟨b,off,none⟩))) sh k) h:=FT l (IF hm hv ht hs) hk
theorem lvG{t:TypeId}{b off:Nat}{arr:Array Value}{t0:TypeId}{fz:Nat×Nat}(cs:List Value)(l:Nat→jT)(hm:(b,.cells arr t0 fz)∈h)(hv:(arr.toList.drop off).take cs.length=cs)(ht:okA P t cs.length=true)(hs:(.agg ⟨cs⟩:Value)=sh.val l)
  (hk:holds P f I Q (k l) h):holds P f I Q (.rd (loadVar t ⟨b,off,none⟩) sh k) h:=FT l (IF hm hv ht hs) hk
theorem ldI{t:TypeId}{b off:Nat}{arr:Array Value}{t0:TypeId}{fz:Nat×Nat}{ik:IntKind}{x:Int}(hm:(b,.cells arr t0 fz)∈h)(hv:arr[off]? =some (.int ik x))(ht:D2 P t=false)(hk:holds P f I Q (k fun _=>{i:=x}) h):
  holds P f I Q (.rd (Instr.loadAt t (.pointer (some ⟨b,off,none⟩))) (.one (.sc (.int ik))) k) h:=aZ ht (EW hm hv) hk
theorem ldB{t:TypeId}{b off:Nat}{arr:Array Value}{t0:TypeId}{fz:Nat×Nat}{x:Bool}(hm:(b,.cells arr t0 fz)∈h)(hv:arr[off]? =some (.bool x))(ht:D2 P t=false)(hk:holds P f I Q (k fun _=>{b:=x}) h):
  holds P f I Q (.rd (Instr.loadAt t (.pointer (some ⟨b,off,none⟩))) (.one (.sc .bool)) k) h:=Is ht (EW hm hv) hk
theorem ldL{t:TypeId}{b off:Nat}{arr:Array Value}{t0:TypeId}{fz:Nat×Nat}{A:Option Addr}{n c:Nat}(hm:(b,.cells arr t0 fz)∈h)(hv:arr[off]? =some (.slice A n c))(ht:D2 P t=false)(hk:holds P f I Q (k fun _=>{A:=A,n:=n,c:=c}) h):
  holds P f I Q (.rd (Instr.loadAt t (.pointer (some ⟨b,off,none⟩))) (.one (.sc .sl)) k) h:=dS ht (EW hm hv) hk
theorem ldP{t:TypeId}{b off:Nat}{arr:Array Value}{t0:TypeId}{fz:Nat×Nat}{A:Option Addr}(hm:(b,.cells arr t0 fz)∈h)(hv:arr[off]? =some (.pointer A))(ht:D2 P t=false)(hk:holds P f I Q (k fun _=>{A:=A}) h):
  holds P f I Q (.rd (Instr.loadAt t (.pointer (some ⟨b,off,none⟩))) (.one (.sc .ptr)) k) h:=ub ht (EW hm hv) hk
theorem pn1{t:TypeId}{b off:Nat}{arr:Array Value}{t0:TypeId}{fz:Nat×Nat}{v:Value}{T:Tr}(hm:(b,.cells arr t0 fz)∈h)(hv:arr[off]? =some v)(ht:D2 P t=false)(hk:holds P f I Q T h):
  holds P f I Q (.pin (vN (Instr.loadAt t (.pointer (some ⟨b,off,none⟩)))) v T) h:=Ql hm ht hv hk
theorem pnA{t:TypeId}{b off:Nat}{arr:Array Value}{t0:TypeId}{fz:Nat×Nat}{cs:List Value}{T:Tr}(hm:(b,.cells arr t0 fz)∈h)(hv:(arr.toList.drop off).take cs.length=cs)(ht:okA P t cs.length=true)(hk:holds P f I Q T h):
  holds P f I Q (.pin (vN (Instr.loadAt t (.pointer (some ⟨b,off,none⟩)))) (.agg ⟨cs⟩) T) h:=DN (iq (IF hm hv ht rfl)) hk
theorem stU{t t0:TypeId}{v:Value}{k:Tr}{b off:Nat}{arr:Array Value}{h':Mem}(hu:Upd h (b,.cells arr t0 (0,0)) (b,.cells (wr arr off v.cells.toList) t0 (0,0)) h')(hs:i4 P t=some v.cells.size)(hlen:Nat.ble (off+v.cells.size) arr.size=true)
  (hv: ∀u∈v.cells.toList,(∀x,u≠ .agg x)∧ ∀x,u≠ .tuple x)(hk:holds P f I Q k h'):holds P f I Q (.unit (Instr.storeAt t (.pointer (some ⟨b,off,none⟩)) v) k) h:=
 OZ hu hs (Nat.le_of_ble_eq_true hlen) hv hk
end
def aM(h m g:Mem):Prop:=h.Perm (m++g)
theorem aM.nil:aM h [] h:=List.Perm.refl _
theorem aM.here{m g:Mem}:aM (m++g) m g:=List.Perm.refl _
theorem aM.one{x:Nat×Obj}{g:Mem}:aM (x::g) [x] g:=List.Perm.refl _
theorem aM.all:aM h h []:=by unfold aM;simp
theorem aM.cons{x:Nat×Obj}{m g:Mem}(p:aM h m g):aM (x::h) m (x::g):=by
 unfold aM at p⊢
 exact(p.cons x).trans List.perm_middle.symm
theorem aM.app{k m g:Mem}(p:aM h m g):aM (k++h) m (k++g):=by
 unfold aM at p⊢
 refine(p.append_left k).trans ?_
 have:=(List.perm_append_comm (l₁:=k) (l₂:=m)).append_right g
 simpa using this
theorem aM.two{m1 m2 g1 g2:Mem}(p:aM h m1 g1)(q:aM g1 m2 g2):aM h (m1++m2) g2:=by
 unfold aM at p q⊢
 refine p.trans ?_
 have:=q.append_left m1
 simpa using this
theorem aM.ct2{x y:Nat×Obj}{m g1 g2:Mem}(p:aM h [x] g1)(q:aM g1 (y::m) g2):aM h (x::y::m) g2:=aM.two p q
theorem aM.ct3{x:Nat×Obj}{m n g1 g2:Mem}(p:aM h [x] g1)(q:aM g1 (m++n) g2):aM h (x::(m++n)) g2:=aM.two p q
theorem aM.perm{m g:Mem}(p:aM h m g):h.Perm (m++g):=p
end
section
variable {P:Program} {I:Ctx} {f:Ctl} {Q:Value→Mem→Prop} {h:Mem}
def KZ(P:Program)(t:TypeId)(cs:Array Value)(off:Nat):Option Value:=
 if D2 P t then(if PO P t then(i4 P t).map fun n=> .agg (cs.extract off (off+n))else none)else cs[off]?
theorem Es{t:TypeId}{cs:Array Value}{off:Nat}{v:Value}(hp:KZ P t cs off=some v):bq P (part t cs off)=some v:=by
 unfold KZ at hp
 unfold part
 split at hp
 ·split at hp
  ·rename_i h1 h2
   rw[bo _ _ (Gw h2)]
   cases hs:i4 P t with
   |none=>rw[hs]at hp;cases hp
   |some n=>
    rw[hs]at hp
    injection hp with hp
    subst hp
    simp only[if_true]
    rw[bo _ _ (eV hs)]
    rfl
  ·cases hp
 ·rename_i h1
  rw[bo _ _ (IG (by simpa using h1))]
  simp only[Bool.false_eq_true,if_false,hp]
  rfl
def eqF(P:Program)(eq:TypeId→Value→Value→Option (List Bool))(xs ys:Array Value):List Field→Option (List Bool)
 |[]=>some []
 |f::fs=>if f.name≠ "_" then
   match KZ P f.type xs f.offset,KZ P f.type ys f.offset with
   |some a,some b=>match eq f.type a b,eqF P eq xs ys fs with
    |some l,some m=>some (l++m)
    |_,_=>none
   |_,_=>none
  else eqF P eq xs ys fs
def eqL(P:Program):Nat→TypeId→Value→Value→Option (List Bool)
 |0,_,_,_=>none
 |d+1,t,x,y=>
  match P.underlying t,x,y with
  |some .bool,.bool a,.bool b=>some [a==b]
  |some (.int _),.int k a,.int k' b=>if k=k' then some [a==b]else none
  |some .string,.string a,.string b=>some [a==b]
  |some (.struct fs),.agg xs,.agg ys=>if P.stoodInHeld t then none else eqF P (eqL P d) xs ys fs.toList
  |_,_,_=>none
theorem q7(e:Nat): ∀(d:Nat) (t:TypeId) (x y:Value) (bs:List Bool),eqL P d t x y=some bs→bq P (Op.equalIn (d+e) t x y)=some (bs.all id):=by
 intro d
 induction d with
 |zero=>intro t x y bs hb;cases hb
 |succ d ih=>
  intro t x y bs hb
  unfold eqL at hb
  rw[show d+1+e=(d+e)+1 by omega]
  unfold Op.equalIn
  cases hu:P.underlying t with
  |none=>rw[hu]at hb;cases hb
  |some u=>
   rw[hu]at hb
   rw[bo _ _ (ap hu)]
   split at hb
   ·rename_i h1;injection h1 with h1;subst h1
    injection hb with hb;subst hb
    simp;rfl
   ·rename_i h1;injection h1 with h1;subst h1
    split at hb
    ·rename_i hk;subst hk
     injection hb with hb;subst hb
     simp;rfl
    ·cases hb
   ·rename_i h1;injection h1 with h1;subst h1
    injection hb with hb;subst hb
    simp;rfl
   ·rename_i h1;injection h1 with h1;subst h1
    split at hb
    ·cases hb
    rename_i fs xs ys hs
    have key: ∀(l:List Field) (bs:List Bool),eqF P (eqL P d) xs ys l=some bs→bq P (forIn l ((none,()):Option Bool×Unit) fun f __s=>
        if f.name≠ "_" then do
         let __do_lift←part f.type xs f.offset
         let __do_lift_1←part f.type ys f.offset
         let __do_lift←Op.equalIn (d+e) f.type __do_lift __do_lift_1
         if(!__do_lift)=true then pure (ForInStep.done (some false,()))
          else pure (ForInStep.yield (none,()))
        else pure (ForInStep.yield (none,())))=some (if bs.all id then(none,())else(some false,())):=by
     intro l
     induction l with
     |nil=>intro bs hb;injection hb with hb;subst hb;rfl
     |cons f l ihl=>
      intro bs hb
      unfold eqF at hb
      rw[List.forIn_cons]
      by_cases hn:f.name≠ "_"
      ·rw[if_pos hn]at hb
       simp only[if_pos hn]
       cases h1:KZ P f.type xs f.offset with
       |none=>rw[h1]at hb;cases hb
       |some a=>
        cases h2:KZ P f.type ys f.offset with
        |none=>rw[h1,h2]at hb;cases hb
        |some b=>
         rw[h1,h2]at hb
         simp only at hb
         cases h3:eqL P d f.type a b with
         |none=>rw[h3]at hb;cases hb
         |some l1=>
          cases h4:eqF P (eqL P d) xs ys l with
          |none=>rw[h3,h4]at hb;cases hb
          |some l2=>
           rw[h3,h4]at hb
           injection hb with hb
           subst hb
           have step:bq P (do
             let __do_lift←part f.type xs f.offset
             let __do_lift_1←part f.type ys f.offset
             let __do_lift←Op.equalIn (d+e) f.type __do_lift __do_lift_1
             if(!__do_lift)=true then pure (ForInStep.done ((some false,()):Option Bool×Unit))else pure (ForInStep.yield (none,())))=some (if l1.all id then ForInStep.yield (none,())else ForInStep.done (some false,())):=by
            rw[bo _ _ (Es h1),bo _ _ (Es h2),bo _ _ (ih _ _ _ _ h3)]
            cases l1.all id<;>rfl
           rw[bo _ _ step,List.all_append]
           cases h5:l1.all id with
           |false=>rfl
           |true=>rw[Bool.true_and];exact ihl l2 h4
      ·rw[if_neg hn]at hb
       simp only[if_neg hn]
       exact ihl bs hb
    simp only[]
    rw[bo (a:=P) _ _ rfl]
    simp only[hs,Bool.false_eq_true,if_false]
    rw[←Array.forIn_toList,bo _ _ (key _ _ hb)]
    cases bs.all id<;>rfl
   ·cases hb
theorem Fi{op:BinOp}{t:TypeId}{x y:Operand}{a b:Array Value}(hg:P.eqGuardType P.depth t=false):bq P (eqGuard op t x y (.agg a) (.agg b))=some ():=by
 have hm:bq P (do
   let __do_lift←program
   let __do_lift_1←program
   if(!__do_lift.eqGuardType __do_lift_1.depth t)=true then pure ()
   else do
    let __do_lift←Op.eqGuardIn Op.maxDepth t (Value.agg a) (Value.agg b)
    if __do_lift=true then unsupported (Unsupported.noEntry "binop/eql: two nil values of an interface type with methods, in a part of a struct or an array")
    else pure ())=some ():=by
  rw[bo (a:=P) _ _ rfl,bo (a:=P) _ _ rfl,hg]
  rfl
 cases op<;>first|rfl|exact hm
theorem Sn{op:BinOp}(hop:op= .eql∨op= .neq){t:TypeId}{x y:Operand}{a b:Array Value}{bs:List Bool}(hg:P.eqGuardType P.depth t=false)(he:eqL P 6 t (.agg a) (.agg b)=some bs){R:Next→Prop}
  (hr:R (.value (.bool (if op matches .eql then bs.all id else !bs.all id)))):rwp P I h (eqN op t x y (.agg a) (.agg b)) R:=by
 have h1:bq P (Op.equal t (.agg a) (.agg b))=some (bs.all id):=q7 9994 6 t _ _ _ he
 unfold eqN
 refine iq (aB (Fi hg) ?_)
 rcases hop with rfl|rfl
 ·exact aB h1 hr
 ·exact aB h1 hr
theorem Jz{t:TypeId}{x y:Operand}{a b:Array Value}{k:(Nat→jT)→Tr}(bs:List Bool)(hg:P.eqGuardType P.depth t=false)(he:eqL P 6 t (.agg a) (.agg b)=some bs)
  (hk:holds P f I Q (k fun _=>{b:=bs.all id}) h):holds P f I Q (.rdn (eqN .eql t x y (.agg a) (.agg b)) (.one (.sc .bool)) k) h:=k8 _ (Sn (.inl rfl) hg he rfl) hk
end
section
variable {P:Program} {I:Ctx} {κ:Type} [DecidableEq κ]
structure uq (P:Program) (t:TypeId) (enc:κ→Value):Prop where
 eq: ∀a b,bq P (Op.equal t (enc a) (enc b))=some (decide (a=b))
 now: ∃u,P.underlying t=some u∧((∀a b,Instr.sameNow u (enc a) (enc b)=some (decide (a=b)))∨(∀a b,Instr.sameNow u (enc a) (enc b)=none))
 chk: ∀e k,bq P (Instr.checkKey e 10000 t (enc k))=some ()
 bits: ∀k,Instr.sameBits 10000 (enc k) (enc k)=true
def at_(k:κ):List κ→List Value→Nat→Option (Nat×Value)
 |x::ks,v::vs,i=>if k=x then some (i,v)else at_ k ks vs (i+1)
 |_,_,_=>none
theorem Am{t:TypeId}{enc:κ→Value}(hk:uq P t enc)(k:κ): ∀(es:List MapEntry) (ks:List κ) (i:Nat),es.map (·.key)=ks.map enc→bq P (Instr.findAsking t (enc k) es i)=some (at_ k ks (es.map (·.val)) i)
 |[],ks,i,h=>by
  cases ks with
  |nil=>rfl
  |cons x ks=>simp at h
 |e::es,[],i,h=>by simp at h
 |e::es,x::ks,i,h=>by
  simp only[List.map_cons,List.cons.injEq]at h
  unfold Instr.findAsking
  rw[h.1,bo _ _ (hk.eq k x)]
  simp only[List.map_cons,at_]
  by_cases hx:k=x
  ·rw[if_pos hx];simp only[hx,decide_true];rfl
  ·rw[if_neg hx];simp only[hx,decide_false]
   exact Am hk k es ks (i+1) h.2
theorem JL{u:TypeDesc}{enc:κ→Value}(hu: ∀a b,Instr.sameNow u (enc a) (enc b)=some (decide (a=b)))(k:κ): ∀(es:List MapEntry) (ks:List κ) (i:Nat),es.map (·.key)=ks.map enc→Instr.findNow u (enc k) es i=some (at_ k ks (es.map (·.val)) i)
 |[],ks,i,h=>by
  cases ks with
  |nil=>rfl
  |cons x ks=>simp at h
 |e::es,[],i,h=>by simp at h
 |e::es,x::ks,i,h=>by
  simp only[List.map_cons,List.cons.injEq]at h
  unfold Instr.findNow
  rw[h.1,hu k x]
  simp only[List.map_cons,at_]
  by_cases hx:k=x
  ·rw[if_pos hx];simp only[hx,decide_true]
  ·rw[if_neg hx];simp only[hx,decide_false]
   exact JL hu k es ks (i+1) h.2
theorem zW{t:TypeId}{enc:κ→Value}(hk:uq P t enc)(k:κ){es:List MapEntry}{ks:List κ}(h:es.map (·.key)=ks.map enc):bq P (Instr.findKey t (enc k) es)=some (at_ k ks (es.map (·.val)) 0):=by
 obtain⟨u,hu,hn|hn⟩:=hk.now
 ·unfold Instr.findKey
  rw[bo _ _ (ap hu),JL hn k es ks 0 h]
  rfl
 ·unfold Instr.findKey
  rw[bo _ _ (ap hu)]
  cases es with
  |nil=>
   cases ks with
   |nil=>rfl
   |cons x ks=>simp at h
  |cons e es=>
   cases ks with
   |nil=>simp at h
   |cons x ks=>
    have h':=h
    simp only[List.map_cons,List.cons.injEq]at h'
    have:Instr.findNow u (enc k) (e::es) 0=none:=by
     unfold Instr.findNow
     rw[h'.1,hn k x]
    rw[this]
    exact Am hk k (e::es) (x::ks) 0 h
def Mp(enc:κ→Value)(l:List (κ×Value))(o:Obj):Prop:=
 ∃es ck,o= .map es ck∧es.toList.map (fun e=>(e.key,e.val))=l.map (fun p=>(enc p.1,p.2))∧(es.toList.map (·.born)).Nodup∧(∀e∈es.toList,e.born<ck)∧(l.map (·.1)).Nodup
theorem Mp.nil{κ:Type}(enc:κ→Value):Mp enc [] (.map #[] 0):=⟨#[],0,rfl,rfl,by simp,by simp,by simp⟩
theorem Gs(k:κ): ∀(l:List (κ×Value)) (i:Nat),(at_ k (l.map (·.1)) (l.map (·.2)) i).map (·.2)=l.lookup k
 |[],_=>rfl
 |p::l,i=>by
  simp only[List.map_cons,at_,List.lookup]
  by_cases h:k=p.1
  ·rw[if_pos h];simp[h]
  ·rw[if_neg h,Gs k l (i+1)]
   have:(k==p.1)=false:=by simpa using h
   rw[this]
theorem BM{κ:Type}{enc:κ→Value}{es:List MapEntry}{l:List (κ×Value)}(h:es.map (fun e=>(e.key,e.val))=l.map (fun p=>(enc p.1,p.2))):es.map (·.key)=(l.map (·.1)).map enc∧es.map (·.val)=l.map (·.2):=by
 constructor
 ·have:=congrArg (List.map (·.1)) h
  simpa[List.map_map,Function.comp_def]using this
 ·have:=congrArg (List.map (·.2)) h
  simpa[List.map_map,Function.comp_def]using this
theorem Np{t kt et:TypeId}{enc:κ→Value}(hk:uq P kt enc)(ht:P.underlying t=some (.map kt et)){z:Value}(hz:iC P et=some z){r:Nat}{l:List (κ×Value)}{o:Obj}{h:Mem}(hm:Has I h r o)(ho:Mp enc l o)(k:κ)(ok:Bool){R:Value→Prop}
  (hr:R (if ok then .tuple #[(l.lookup k).getD z,.bool (l.lookup k).isSome]else(l.lookup k).getD z)):rwp P I h (Instr.lookup t (.map (some r)) (enc k) ok) R:=by
 obtain⟨es,ck,rfl,he,_,_,_⟩:=ho
 obtain⟨h1,h2⟩:=BM he
 unfold Instr.lookup
 refine aB (ap ht) ?_
 show rwp P I h (getObj r>>=fun _=>_) R
 rw[cH]
 refine⟨_,hm,(fun _ _ _=>by simp),?_⟩
 show rwp P I h (Instr.checkKey es.isEmpty 10000 kt (enc k)>>=fun _=>_) R
 refine aB (hk.chk _ k) ?_
 refine aB (zW hk k h1) ?_
 have hl:=Gs k l 0
 rw[←h2]at hl
 cases ha:at_ k (l.map (·.1)) (es.toList.map (·.val)) 0 with
 |none=>
  rw[ha]at hl
  rw[←hl]at hr
  show rwp P I h (zeroValue et>>=fun _=>_) R
  refine aB (jE hz) ?_
  cases ok<;>exact hr
 |some p=>
  rw[ha]at hl
  rw[←hl]at hr
  cases ok<;>exact hr
def LJ:List (κ×Value)→κ→Value→List (κ×Value)
 |[],k,v=>[(k,v)]
 |p::l,k,v=>if k=p.1 then(k,v)::l else p::LJ l k v
theorem MY{k:κ}{v:Value}: ∀{l:List (κ×Value)} {vs:List Value} {s i:Nat} {x:Value},at_ k (l.map (·.1)) vs s=some (i,x)→s≤i∧LJ l k v=l.set (i - s) (k,v)∧(l[i - s]?).map (·.1)=some k
 |[],_,_,_,_,h=>by simp[at_]at h
 |p::l,[],_,_,_,h=>by simp[at_]at h
 |p::l,w::vs,s,i,x,h=>by
  simp only[List.map_cons,at_]at h
  split at h
  ·rename_i hk
   injection h with h
   injection h with h1 h2
   subst h1
   refine⟨Nat.le_refl _,?_,?_⟩
   ·simp[LJ,hk]
   ·simp[hk]
  ·rename_i hk
   obtain⟨h1,h2,h3⟩:=MY h
   obtain⟨j,rfl⟩: ∃j,i=s+1+j:=⟨i - (s+1),by omega⟩
   refine⟨by omega,?_,?_⟩
   ·rw[LJ,if_neg hk,h2,show s+1+j - (s+1)=j by omega,show s+1+j - s=j+1 by omega,List.set_cons_succ]
   ·rw[show s+1+j - (s+1)=j by omega]at h3
    rw[show s+1+j - s=j+1 by omega,List.getElem?_cons_succ]
    exact h3
theorem Ic{k:κ}{v:Value}: ∀{l:List (κ×Value)} {vs:List Value} {s:Nat},l.length=vs.length→at_ k (l.map (·.1)) vs s=none→LJ l k v=l++[(k,v)]∧k∉l.map (·.1)
 |[],_,_,_,_=>by simp[LJ]
 |p::l,[],_,h,_=>by simp at h
 |p::l,w::vs,s,hl,h=>by
  simp only[List.map_cons,at_]at h
  split at h
  ·cases h
  ·rename_i hk
   obtain⟨h1,h2⟩:=Ic (by simpa using hl) h
   refine⟨by rw[LJ,if_neg hk,h1];rfl,?_⟩
   rw[List.map_cons,List.mem_cons,not_or]
   exact⟨hk,h2⟩
theorem F8{t kt et:TypeId}{enc:κ→Value}(hk:uq P kt enc)(ht:P.underlying t=some (.map kt et)){r j:Nat}{l:List (κ×Value)}{o:Obj}{h:Mem}(hj:h[j]? =some (r,o))(ho:Mp enc l o)(k:κ)(v:Value){R:Unit→Mem→Prop}
  (hr: ∀o',Mp enc (LJ l k v) o'→R () (h.set j (r,o'))):swp P I (Instr.mapUpdate t (.map (some r)) (enc k) v) h R:=by
 obtain⟨es,ck,rfl,he,hb,hlt,hn⟩:=ho
 obtain⟨h1,h2⟩:=BM he
 have hlen:es.toList.length=l.length:=by have:=congrArg List.length he;simpa using this
 unfold Instr.mapUpdate
 refine aK (ap ht) ?_
 show swp P I (getObj r>>=fun _=>_) h R
 rw[aS]
 refine⟨_,.inl (List.mem_of_getElem? hj),(fun _ _ _=>by simp),?_⟩
 show swp P I (Instr.checkKey false 10000 kt (enc k)>>=fun _=>_) h R
 refine aK (hk.chk _ k) ?_
 refine aK (zW hk k h1) ?_
 cases ha:at_ k (l.map (·.1)) (es.toList.map (·.val)) 0 with
 |none=>
  obtain⟨q1,q2⟩:=Ic (v:=v) (by simpa using hlen.symm) ha
  show swp P I (setObj r (.map (es.push {key:=enc k,val:=v,born:=ck}) (ck+1))) h R
  refine⟨j,_,hj,(fun _ _ _=>by simp),?_⟩
  refine hr _ ⟨_,_,rfl,?_,?_,?_,?_⟩
  ·rw[q1,Array.toList_push,List.map_append,he];simp
  ·rw[Array.toList_push,List.map_append,List.nodup_append]
   refine⟨hb,by simp,fun a ha b hb2=>?_⟩
   simp at hb2
   subst hb2
   obtain⟨e,he2,rfl⟩:=List.mem_map.1 ha
   have:=hlt e he2
   omega
  ·intro e he2
   rw[Array.toList_push]at he2
   rcases List.mem_append.1 he2 with he2|he2
   ·have:=hlt e he2;omega
   ·simp at he2;subst he2;simp
  ·rw[q1,List.map_append,List.nodup_append]
   refine⟨hn,by simp,fun a hx b hb2=>?_⟩
   simp at hb2
   rw[hb2]
   exact fun e=>q2 (e▸hx)
 |some p=>
  obtain⟨i,x⟩:=p
  obtain⟨_,q2,q3⟩:=MY (v:=v) ha
  rw[Nat.sub_zero]at q2 q3
  have hil:i<l.length:=by
   cases hli:l[i]? with
   |none=>rw[hli]at q3;cases q3
   |some p=>exact(List.getElem?_eq_some_iff.1 hli).1
  have hie:i<es.size:=by simpa using(show i<es.toList.length by omega)
  have hkey:((es[i]?).map (·.key)).getD (enc k)=enc k:=by
   have h5:=congrArg (fun z=>z[i]?) h1
   simp only[List.getElem?_map,Array.getElem?_toList]at h5
   cases hli:l[i]? with
   |none=>rw[hli]at q3;cases q3
   |some p=>
    rw[hli]at q3 h5
    simp at q3 h5
    rw[Array.getElem?_eq_getElem hie]at h5⊢
    simp at h5⊢
    rw[h5,q3]
  show swp P I (Instr.keyThatStays (((es[i]?).map (·.key)).getD (enc k)) (enc k)>>=fun _=>_) h R
  rw[hkey]
  unfold Instr.keyThatStays
  rw[hk.bits k]
  show swp P I (setObj r (.map (es.modify i fun e=>{e with key:=enc k,val:=v}) ck)) h R
  refine⟨j,_,hj,(fun _ _ _=>by simp),?_⟩
  have hm:(es.modify i fun e=>{e with key:=enc k,val:=v}).toList=es.toList.modify i (fun e=>{e with key:=enc k,val:=v}):=by simp
  refine hr _ ⟨_,_,rfl,?_,?_,?_,?_⟩
  ·rw[hm,q2]
   apply List.ext_getElem?
   intro z
   rw[List.getElem?_map,List.getElem?_modify,List.getElem?_map,List.getElem?_set]
   have h6:=congrArg (fun z'=>z'[z]?) he
   simp only[List.getElem?_map]at h6
   by_cases hz:i=z
   ·subst hz
    rw[if_pos rfl,if_pos hil]
    rw[List.getElem?_eq_getElem (by omega:i<es.toList.length)]
    simp
   ·rw[if_neg hz]
    simp only[if_neg hz]
    rw[←h6]
    cases es.toList[z]? <;>rfl
  ·rw[hm]
   have:(es.toList.modify i fun e=>{e with key:=enc k,val:=v}).map (·.born)=es.toList.map (·.born):=by
    apply List.ext_getElem?
    intro z
    rw[List.getElem?_map,List.getElem?_modify,List.getElem?_map]
    cases es.toList[z]? with
    |none=>rfl
    |some e=>by_cases hz:i=z<;>simp[hz]
   rw[this];exact hb
  ·rw[hm]
   intro e he2
   obtain⟨z,hz⟩:=List.getElem?_of_mem he2
   rw[List.getElem?_modify]at hz
   cases hez:es.toList[z]? with
   |none=>rw[hez]at hz;cases hz
   |some e0=>
    rw[hez]at hz
    have:=hlt e0 (List.mem_of_getElem? hez)
    by_cases hiz:i=z
    ·simp[hiz]at hz;rw[←hz];exact this
    ·simp[hiz]at hz;rw[←hz];exact this
  ·rw[q2]
   have:(l.set i (k,v)).map (·.1)=l.map (·.1):=by
    apply List.ext_getElem?
    intro z
    rw[List.getElem?_map,List.getElem?_set,List.getElem?_map]
    by_cases hz:i=z
    ·subst hz
     rw[if_pos rfl,if_pos hil,q3];rfl
    ·rw[if_neg hz]
   rw[this];exact hn
end
end Go.Proofs.YtadanegddceleaaGreatS
