import Derived.Below
import Derived.Lib.LaidTab
import Derived.Shelf.SlGeneric
import Derived.Shelf.Small.Bits
import Derived.Shelf.Sort.Plain
import Derived.Shelf.Slices.In.SortNone
import Derived.Shelf.SlSortCmp.WholeK
import Derived.Shelf.SlSortCmp.NoneTotal
import Derived.Ground.SlsfProg
import Derived.Ground.NamesProg
import Derived.Test.YtadanegddceleaaGreatProg
import Derived.RangeFuncRecord
import Derived.RangeFuncIn
import Derived.RangeFuncLeaves
import Derived.Lib.UnsafeStr
import Derived.Test.YtadanegddceleaaGreatqae
set_option linter.unusedSimpArgs false
set_option linter.unusedVariables false
set_option maxRecDepth 20000
namespace Go.Proofs.YtadanegddceleaaGreatS
section
variable {P:Program} {I:Ctx} {κ:Type} [DecidableEq κ]
def q4:List (κ×Value)→κ→List (κ×Value)
 |[],_=>[]
 |p::l,k=>if k=p.1 then l else p::q4 l k
theorem Gn{k:κ}: ∀{l:List (κ×Value)},k∉l.map (·.1)→q4 l k=l
 |[],_=>rfl
 |p::l,h=>by
  rw[List.map_cons,List.mem_cons,not_or]at h
  rw[q4,if_neg h.1,Gn h.2]
theorem J1{k:κ}: ∀{l:List (κ×Value)},(q4 l k).Sublist l
 |[]=> .slnil
 |p::l=>by
  rw[q4]
  split
  ·exact .cons _ (List.Sublist.refl _)
  ·exact .cons_cons _ J1
theorem PX{k:κ}: ∀{l:List (κ×Value)} {vs:List Value} {s i:Nat} {x:Value},at_ k (l.map (·.1)) vs s=some (i,x)→s≤i∧i - s<l.length∧q4 l k=l.eraseIdx (i - s)∧(l[i - s]?).map (·.1)=some k
 |[],_,_,_,_,h=>by simp[at_]at h
 |p::l,[],_,_,_,h=>by simp[at_]at h
 |p::l,w::vs,s,i,x,h=>by
  simp only[List.map_cons,at_]at h
  split at h
  ·rename_i hk
   injection h with h
   injection h with h1 h2
   subst h1
   refine⟨Nat.le_refl _,by simp,?_,?_⟩
   ·simp[q4,hk]
   ·simp[hk]
  ·rename_i hk
   obtain⟨h1,h2,h3,h4⟩:=PX h
   obtain⟨j,rfl⟩: ∃j,i=s+1+j:=⟨i - (s+1),by omega⟩
   rw[show s+1+j - (s+1)=j by omega]at h2 h3 h4
   refine⟨by omega,by simp;omega,?_,?_⟩
   ·rw[q4,if_neg hk,h3,show s+1+j - s=j+1 by omega,List.eraseIdx_cons_succ]
   ·rw[show s+1+j - s=j+1 by omega,List.getElem?_cons_succ]
    exact h4
structure LE (enc:κ→Value) (l:List (κ×Value)) (es:Array MapEntry) (ck:Nat):Prop where
 kv:es.toList.map (fun e=>(e.key,e.val))=l.map (fun p=>(enc p.1,p.2))
 nd:(es.toList.map (·.born)).Nodup
 lt: ∀e∈es.toList,e.born<ck
 ks:(l.map (·.1)).Nodup
theorem Mp.ents{κ:Type}{enc:κ→Value}{l:List (κ×Value)}{o:Obj}(h:Mp enc l o): ∃es ck,o= .map es ck∧LE enc l es ck:=by
 obtain⟨es,ck,h0,h1,h2,h3,h4⟩:=h
 exact⟨es,ck,h0,h1,h2,h3,h4⟩
theorem LE.mp{κ:Type}{enc:κ→Value}{l:List (κ×Value)}{es:Array MapEntry}{ck:Nat}(h:LE enc l es ck):Mp enc l (.map es ck):=⟨es,ck,rfl,h.kv,h.nd,h.lt,h.ks⟩
theorem iv{α β:Type}(f:α→β): ∀(l:List α) (i:Nat),(l.eraseIdx i).map f=(l.map f).eraseIdx i
 |[],_=>rfl
 |_::_,0=>rfl
 |a::l,i+1=>by simp[iv f l i]
theorem LE.erase{κ:Type}{enc:κ→Value}{l:List (κ×Value)}{es:Array MapEntry}{ck:Nat}(h:LE enc l es ck){i:Nat}(hi:i<l.length):LE enc (l.eraseIdx i) (es.eraseIdxIfInBounds i) ck:=by
 have hl:(es.eraseIdxIfInBounds i).toList=es.toList.eraseIdx i:=by
  simp only[Array.eraseIdxIfInBounds]
  split
  ·simp
  ·rename_i hn;rw[List.eraseIdx_of_length_le (by simpa using hn)]
 refine⟨?_,?_,?_,?_⟩
 ·rw[hl,iv,iv,h.kv]
 ·rw[hl,iv];exact h.nd.sublist (List.eraseIdx_sublist _ _)
 ·rw[hl];intro e he;exact h.lt e (List.mem_of_mem_eraseIdx he)
 ·rw[iv];exact h.ks.sublist (List.eraseIdx_sublist _ _)
theorem LE.del{enc:κ→Value}{l:List (κ×Value)}{es:Array MapEntry}{ck:Nat}(h:LE enc l es ck)(k:κ):
  match at_ k (l.map (·.1)) (es.toList.map (·.val)) 0 with
  |some (i,_)=>LE enc (q4 l k) (es.eraseIdxIfInBounds i) ck∧i<l.length∧q4 l k=l.eraseIdx i∧(l[i]?).map (·.1)=some k
  |none=>q4 l k=l:=by
 have hlen:es.toList.length=l.length:=by have:=congrArg List.length h.kv;simpa using this
 cases ha:at_ k (l.map (·.1)) (es.toList.map (·.val)) 0 with
 |none=>exact Gn (Ic (v:= .bool true) (by simpa using hlen.symm) ha).2
 |some p=>
  obtain⟨i,x⟩:=p
  obtain⟨_,h2,h3,h4⟩:=PX ha
  rw[Nat.sub_zero]at h2 h3 h4
  exact⟨h3▸h.erase h2,h2,h3,h4⟩
structure Rem (enc:κ→Value) (l rem:List (κ×Value)) (es:Array MapEntry) (ck since last:Nat) (seen:Array Nat):Prop where
 e:LE enc l es ck
 since: ∀e∈es.toList,e.born<since
 last:seen.size≠0→ck≤last
 left:(es.toList.filter (fun e=> !seen.contains e.born)).map (fun e=>(e.key,e.val))=rem.map (fun p=>(enc p.1,p.2))
 sub:rem.Sublist l
def Itr(enc:κ→Value)(r:Nat)(l rem:List (κ×Value))(om oi:Obj):Prop:=
 ∃es ck since seen last,om= .map es ck∧oi= .mapIter (some r) since seen last∧Rem enc l rem es ck since last seen
theorem Itr.mp{κ:Type}{enc:κ→Value}{r:Nat}{l rem:List (κ×Value)}{om oi:Obj}(h:Itr enc r l rem om oi):Mp enc l om:=by
 obtain⟨es,ck,since,seen,last,rfl,rfl,h⟩:=h
 exact h.e.mp
theorem Itr.start{κ:Type}{enc:κ→Value}(r:Nat){l:List (κ×Value)}{es:Array MapEntry}{ck:Nat}(h:LE enc l es ck):Itr enc r l l (.map es ck) (.mapIter (some r) ck #[] ck):=
 ⟨es,ck,ck,#[],ck,rfl,rfl,h,h.lt,fun h=>absurd rfl h,by rw[List.filter_eq_self.2 (by simp)];exact h.kv,List.Sublist.refl _⟩
def Cur(enc:κ→Value)(r:Nat)(p:κ×Value)(om oi:Obj):Prop:=
 ∃es ck since seen s e,om= .map es ck∧oi= .mapIter (some r) since seen ck∧seen.back?=some s∧es.find? (fun x=>x.born==s)=some e∧e.key=enc p.1∧e.val=p.2
theorem GX: ∀{L:List MapEntry} {e:MapEntry},(L.map (·.born)).Nodup→e∈L→L.find? (fun x=>x.born==e.born)=some e
 |[],_,_,h=>by cases h
 |x::L,e,hn,h=>by
  rw[List.map_cons,List.nodup_cons]at hn
  rcases List.mem_cons.1 h with rfl|h
  ·simp
  ·have:x.born≠e.born:=fun he=>hn.1 (he▸List.mem_map_of_mem h)
   rw[List.find?_cons_of_neg (by simpa using this)]
   exact GX hn.2 h
theorem zn{α:Type}(f:α→Nat): ∀{L:List α} {q:Nat} {e:α},(L.map f).Nodup→L[q]? =some e→L.filter (fun x=> !(f x==f e))=L.eraseIdx q
 |[],_,_,_,h=>by simp at h
 |x::L,0,e,hn,h=>by
  simp only[List.getElem?_cons_zero,Option.some.injEq]at h
  subst h
  rw[List.map_cons,List.nodup_cons]at hn
  rw[List.filter_cons_of_neg (by simp),List.eraseIdx_cons_zero,List.filter_eq_self.2]
  intro a ha
  have:f a≠f x:=fun e=>hn.1 (e▸List.mem_map_of_mem ha)
  simpa using this
 |x::L,q+1,e,hn,h=>by
  rw[List.getElem?_cons_succ]at h
  rw[List.map_cons,List.nodup_cons]at hn
  have:f x≠f e:=fun he=>hn.1 (he▸List.mem_map_of_mem (List.mem_of_getElem? h))
  rw[List.filter_cons_of_pos (by simpa using this),List.eraseIdx_cons_succ,zn f hn.2 h]
theorem Jq: ∀{l:List (κ×Value)} {q:Nat} {p:κ×Value},(l.map (·.1)).Nodup→l[q]? =some p→q4 l p.1=l.eraseIdx q
 |[],_,_,_,h=>by simp at h
 |x::l,0,p,hn,h=>by
  simp only[List.getElem?_cons_zero,Option.some.injEq]at h
  subst h
  simp[q4]
 |x::l,q+1,p,hn,h=>by
  rw[List.getElem?_cons_succ]at h
  rw[List.map_cons,List.nodup_cons]at hn
  have:p.1≠x.1:=fun he=>hn.1 (he▸List.mem_map_of_mem (List.mem_of_getElem? h))
  rw[q4,if_neg this,List.eraseIdx_cons_succ,Jq hn.2 h]
theorem Rem.step{enc:κ→Value}{l rem:List (κ×Value)}{es:Array MapEntry}{ck since last:Nat}{seen:Array Nat}(h:Rem enc l rem es ck since last seen){q:Nat}{e:MapEntry}
  (he:(es.toList.filter (fun e=> !seen.contains e.born))[q]? =some e): ∃p∈rem,e.key=enc p.1∧e.val=p.2∧Rem enc l (q4 rem p.1) es ck since ck (seen.push e.born):=by
 have h1:=congrArg (fun z=>z[q]?) h.left
 simp only[List.getElem?_map,he,Option.map_some]at h1
 cases hp:rem[q]? with
 |none=>rw[hp]at h1;cases h1
 |some p=>
  rw[hp,Option.map_some,Option.some.injEq,Prod.mk.injEq]at h1
  have hn:(rem.map (·.1)).Nodup:=h.e.ks.sublist (h.sub.map _)
  refine⟨p,List.mem_of_getElem? hp,h1.1,h1.2,h.e,h.since,fun _=>Nat.le_refl _,?_,J1.trans h.sub⟩
  rw[Jq hn hp,iv,←h.left,←iv]
  congr 1
  rw[←zn (·.born) ((h.e.nd).sublist ((List.filter_sublist).map _)) he,List.filter_filter]
  congr 1
  funext x
  simp[Bool.and_comm,Array.contains_push]
  by_cases hx:x.born=e.born<;>simp[hx]
theorem K8(es:Array MapEntry)(p:MapEntry→Bool):es.filter p=(es.toList.filter p).toArray:=by rw[←Array.toList_filter]
theorem P1{enc:κ→Value}{r it i:Nat}{t:TypeId}{l rem:List (κ×Value)}{om oi:Obj}{h:Mem}(hm:Has I h r om)(hi:h[i]? =some (it,oi))(ho:Itr enc r l rem om oi){R:Value→Mem→Prop}
  (h0:rem=[]→R (.tuple #[.bool false]) h)
  (h1: ∀p∈rem,∀oi',Itr enc r l (q4 rem p.1) om oi'→Cur enc r p om oi'→R (.tuple #[.bool true,enc p.1,p.2]) (h.set i (it,oi'))):swp P I (Instr.next (.pointer (some ⟨it,0,none⟩)) false t) h R:=by
 obtain⟨es,ck,since,seen,last,rfl,rfl,hr⟩:=ho
 unfold Instr.next
 show swp P I (getObj it>>=fun _=>_) h R
 rw[aS]
 refine⟨_,.inl (List.mem_of_getElem? hi),(fun _ _ _=>by simp),?_⟩
 show swp P I (getObj r>>=fun _=>_) h R
 rw[aS]
 refine⟨_,hm,(fun _ _ _=>by simp),?_⟩
 have hc:(!seen.isEmpty&& !es.isEmpty&&es.all (fun x=>decide (x.born≥last)))=false:=by
  cases hs:seen.isEmpty with
  |true=>rfl
  |false=>
   cases hb:es.isEmpty with
   |true=>rfl
   |false=>
    have hs':seen.size≠0:=by intro h;simp[Array.isEmpty,h]at hs
    have hl:=hr.last hs'
    have hb':0<es.size:=by
     rcases Nat.eq_zero_or_pos es.size with h|h
     ·simp[Array.isEmpty,h]at hb
     ·exact h
    have:=hr.e.lt (es[0]) (by simp)
    simp only[Bool.not_false,Bool.true_and]
    rw[Bool.eq_false_iff]
    intro ha
    rw[Array.all_eq_true]at ha
    have:=ha 0 hb'
    simp at this
    omega
 have hold:(es.filter (fun e=> !seen.contains e.born)).filter (fun e=>decide (e.born<since))=es.filter (fun e=> !seen.contains e.born):=by
  rw[Array.filter_eq_self]
  intro e he
  have:=hr.since e (by have:=(Array.mem_filter.1 he).1;simpa using this)
  simpa using this
 have hnew:(es.filter (fun e=> !seen.contains e.born)).filter (fun e=>decide (e.born≥since))=#[]:=by
  rw[Array.filter_eq_empty_iff]
  intro e he
  have:=hr.since e (by have:=(Array.mem_filter.1 he).1;simpa using this)
  simpa using this
 simp only[show∀(a:Obj) (Q:Obj→Mem→Prop),swp P I (Sem.pure a) h Q=Q a h from fun _ _=>rfl]
 simp only[hc,hold,hnew,Bool.false_eq_true,if_false]
 have hlen:(es.filter (fun e=> !seen.contains e.born)).size=rem.length:=by
  have:=congrArg List.length hr.left
  rw[K8]
  simpa using this
 cases rem with
 |nil=>
  have he:es.filter (fun e=> !seen.contains e.born)=#[]:=by
   rw[←Array.size_eq_zero_iff];exact hlen
  rw[he]
  have hz:((if(#[]:Array MapEntry).isEmpty=true then#[none]else#[])++Array.map some ((#[]:Array MapEntry)++#[]))=#[none]:=by simp
  rw[hz]
  refine⟨fun _=>?_,fun hf=>by simp[Question.forced]at hf⟩
  exact h0 rfl
 |cons p0 rem'=>
  have hne:(es.filter (fun e=> !seen.contains e.born)).isEmpty=false:=by
   rw[Array.isEmpty,hlen];rfl
  simp only[hne,Bool.false_eq_true,if_false,Array.empty_append,Array.append_empty]
  have key: ∀q,q<(p0::rem').length→ ∃e,(es.filter (fun e=> !seen.contains e.born))[q]? =some e∧ ∃p∈(p0::rem'),e.key=enc p.1∧e.val=p.2∧Rem enc l (q4 (p0::rem') p.1) es ck since ck (seen.push e.born):=by
   intro q hq
   rw[←hlen]at hq
   refine⟨_,Array.getElem?_eq_getElem hq,?_⟩
   refine hr.step (q:=q) ?_
   rw[←Array.toList_filter,Array.getElem?_toList]
   exact Array.getElem?_eq_getElem hq
  have fin: ∀q,q<(p0::rem').length→swp P I (match(Array.map some (es.filter (fun e=> !seen.contains e.born)))[q]? with
      |some (some e)=>do
       setObj it (Obj.mapIter (some r) since (seen.push e.born) ck)
       pure (Value.tuple #[Value.bool true,e.key,e.val])
      |some none=>pure (Value.tuple #[Value.bool false])
      |none=>stuck "Next: no such candidate") h R:=by
   intro q hq
   obtain⟨e,he,p,hp,hk,hv,hR⟩:=key q hq
   rw[Array.getElem?_map,he]
   show swp P I (setObj it _>>=fun _=>_) h R
   rw[aS]
   refine⟨i,_,hi,(fun _ _ _=>by simp),?_⟩
   rw[hk,hv]
   have hme:e∈es.toList:=by
    have:=Array.mem_of_getElem? he
    exact Array.mem_toList_iff.2 (Array.mem_filter.1 this).1
   exact h1 p hp _ ⟨es,ck,since,_,ck,rfl,rfl,hR⟩ ⟨es,ck,since,_,e.born,e,rfl,rfl,by simp,by rw[←Array.find?_toList];exact GX hr.e.nd hme,hk,hv⟩
  refine⟨fun _=>fin 0 (by simp),fun hf t=>?_⟩
  refine fin _ ?_
  show t%_<_
  rw[Array.size_map,hlen]
  exact Nat.mod_lt _ (by simp)
theorem uq.inj{t:TypeId}{enc:κ→Value}(hk:uq P t enc){a b:κ}(h:enc a=enc b):a=b:=by
 have h1:=hk.eq a b
 have h2:=hk.eq b b
 rw[h,h2]at h1
 simpa using h1.symm
theorem rh{k:κ}: ∀{l:List (κ×Value)},(l.map (·.1)).Nodup→q4 l k=l.filter (fun p=> !decide (p.1=k))
 |[],_=>rfl
 |p::l,hn=>by
  rw[List.map_cons,List.nodup_cons]at hn
  rw[q4]
  split
  ·rename_i hk
   subst hk
   rw[List.filter_cons_of_neg (by simp),List.filter_eq_self.2]
   intro a ha
   have:a.1≠p.1:=fun e=>hn.1 (e▸List.mem_map_of_mem ha)
   simpa using this
  ·rename_i hk
   rw[List.filter_cons_of_pos (by simpa using fun e=>hk e.symm),rh hn.2]
theorem Cj{enc:κ→Value}(inj: ∀{a b},enc a=enc b→a=b){b:Nat}{k:κ}: ∀(F:List MapEntry) (rem:List (κ×Value)),F.map (fun e=>(e.key,e.val))=rem.map (fun p=>(enc p.1,p.2))→
  (∀x∈F,(x.born=b↔x.key=enc k))→(F.filter (fun x=> !(x.born==b))).map (fun e=>(e.key,e.val))=(rem.filter (fun p=> !decide (p.1=k))).map (fun p=>(enc p.1,p.2))
 |[],[],_,_=>rfl
 |[],_::_,h,_=>by simp at h
 |_::_,[],h,_=>by simp at h
 |x::F,p::rem,h,hx=>by
  simp only[List.map_cons,List.cons.injEq,Prod.mk.injEq]at h
  have ih:=Cj inj F rem h.2 (fun y hy=>hx y (List.mem_cons_of_mem _ hy))
  have h1:=hx x (List.mem_cons_self)
  rw[h.1.1]at h1
  by_cases hp:p.1=k
  ·rw[List.filter_cons_of_neg (by simpa using h1.2 (by rw[hp])),List.filter_cons_of_neg (by simpa using hp),ih]
  ·rw[List.filter_cons_of_pos (by simpa using fun e=>hp (inj (h1.1 e))),List.filter_cons_of_pos (by simpa using hp),List.map_cons,List.map_cons,ih,h.1.1,h.1.2]
theorem Rem.del{enc:κ→Value}(inj: ∀{a b},enc a=enc b→a=b){l rem:List (κ×Value)}{es:Array MapEntry}{ck since last:Nat}{seen:Array Nat}(h:Rem enc l rem es ck since last seen){i:Nat}{k:κ}
  (hi:i<l.length)(hd:q4 l k=l.eraseIdx i)(hk:(l[i]?).map (·.1)=some k):Rem enc (q4 l k) (q4 rem k) (es.eraseIdxIfInBounds i) ck since last seen:=by
 have hl:(es.eraseIdxIfInBounds i).toList=es.toList.eraseIdx i:=by
  simp only[Array.eraseIdxIfInBounds]
  split
  ·simp
  ·rename_i hn;rw[List.eraseIdx_of_length_le (by simpa using hn)]
 have hlen:es.toList.length=l.length:=by have:=congrArg List.length h.e.kv;simpa using this
 have hge:es.toList[i]? =some (es.toList[i]'(by omega)):=List.getElem?_eq_getElem _
 have hnr:(rem.map (·.1)).Nodup:=h.e.ks.sublist (h.sub.map _)
 have kat: ∀j:Nat,(es.toList.map (·.key))[j]? =((l[j]?).map (·.1)).map enc:=by
  intro j
  rw[(BM h.e.kv).1]
  simp[List.getElem?_map]
 refine⟨hd▸h.e.erase hi,fun e he=>h.since e (by rw[hl]at he;exact List.mem_of_mem_eraseIdx he),h.last,?_,?_⟩
 ·rw[hl,←zn (·.born) h.e.nd hge,List.filter_filter,rh hnr]
  rw[←Cj inj (b:=(es.toList[i]'(by omega)).born) _ _ h.left ?_,List.filter_filter]
  ·congr 2
   funext x
   rw[Bool.and_comm]
  ·intro x hx
   obtain⟨j,hj⟩:=List.getElem?_of_mem (List.mem_filter.1 hx).1
   constructor
   ·intro hb
    have e1:(es.toList.map (·.born))[j]? =some x.born:=by simp[List.getElem?_map,hj]
    have e2:(es.toList.map (·.born))[i]? =some x.born:=by rw[hb];rw[List.getElem?_map,hge];rfl
    have hji:j=i:=(List.getElem?_inj (List.getElem?_eq_some_iff.1 e1).1 h.e.nd).1 (e1.trans e2.symm)
    have:=kat i
    rw[hk,←hji,List.getElem?_map,hj]at this
    simpa using this
   ·intro hx2
    have e3:=kat j
    rw[List.getElem?_map,hj,Option.map_some,hx2]at e3
    cases hlj:l[j]? with
    |none=>rw[hlj]at e3;simp at e3
    |some p=>
     rw[hlj]at e3
     simp at e3
     have hpk:k=p.1:=inj e3
     have e1:(l.map (·.1))[j]? =some k:=by rw[List.getElem?_map,hlj,hpk];rfl
     have e2:(l.map (·.1))[i]? =some k:=by rw[List.getElem?_map];exact hk
     have hji:j=i:=(List.getElem?_inj (List.getElem?_eq_some_iff.1 e1).1 h.e.ks).1 (e1.trans e2.symm)
     subst hji
     rw[hj]at hge
     exact congrArg (·.born) (Option.some.inj hge)
 ·rw[rh hnr,rh h.e.ks]
  exact h.sub.filter _
theorem NS{mt t2 ty kt et:TypeId}{enc:κ→Value}(hk:uq P kt enc)(ht:P.underlying mt=some (.map kt et)){r j:Nat}{l:List (κ×Value)}{es:Array MapEntry}{ck:Nat}{h:Mem}(hj:h[j]? =some (r,.map es ck))(ho:LE enc l es ck){k:κ}{R:Value→Mem→Prop}
  (h1:q4 l k=l→R (.tuple #[]) h)
  (h2: ∀i,i<l.length→q4 l k=l.eraseIdx i→(l[i]?).map (·.1)=some k→R (.tuple #[]) (h.set j (r,.map (es.eraseIdxIfInBounds i) ck))):
  swp P I (Builtin.delete_ #[mt,t2] ty #[.map (some r),enc k]) h R:=by
 obtain⟨e1,e2⟩:=BM ho.kv
 have hd:=ho.del k
 have hset:h.set j (r,.map es ck)=h:=by
  apply List.ext_getElem?
  intro z
  rw[List.getElem?_set]
  split
  ·rename_i hz;subst hz;rw[hj,if_pos (List.getElem?_eq_some_iff.1 hj).1]
  ·rfl
 unfold Builtin.delete_
 refine aK (ap ht) ?_
 show swp P I ((getObj r>>=fun _=>_)>>=fun _=>_) h R
 rw[aS,aS]
 refine⟨_,.inl (List.mem_of_getElem? hj),(fun _ _ _=>by simp),?_⟩
 show swp P I (Instr.checkKey es.isEmpty 10000 kt (enc k)>>=fun _=>_) h _
 refine aK (hk.chk _ k) ?_
 refine aK (zW hk k e1) ?_
 cases ha:at_ k (l.map (·.1)) (es.toList.map (·.val)) 0 with
 |none=>
  rw[ha]at hd
  refine⟨j,_,hj,(fun _ _ _=>by simp),?_⟩
  rw[hset]
  exact h1 hd
 |some p=>
  obtain⟨i,x⟩:=p
  rw[ha]at hd
  refine⟨j,_,hj,(fun _ _ _=>by simp),?_⟩
  exact h2 i hd.2.1 hd.2.2.1 hd.2.2.2
end
section
variable {P:Program} {I:Ctx} {f:Ctl} {Q:Value→Mem→Prop} {h:Mem} {k:(Nat→jT)→Tr} {κ:Type} [DecidableEq κ]
theorem Ij{hr:Mem}{r:Nat}{o:Obj}(hp:h.Perm ((r,o)::hr)): ∃j,h[j]? =some (r,o)∧ ∀o',(h.set j (r,o')).Perm ((r,o')::hr):=by
 obtain⟨j,hj,he⟩:=xx (i:=0) (x:=(r,o)) hp.symm rfl
 exact⟨j,hj,fun o'=>(he (r,o')).symm⟩
theorem OT(hQ:Aff Q){mt t2 ty kt et:TypeId}{cons:Array Bool}{enc:κ→Value}(hk:uq P kt enc)(ht:P.underlying mt=some (.map kt et)){r:Nat}{l:List (κ×Value)}{o:Obj}{hr:Mem}(hp:h.Perm ((r,o)::hr))(ho:Mp enc l o){x:κ}
  (hh: ∀o',Mp enc (q4 l x) o'→holds P f I Q (k fun _=>{}) ((r,o')::hr)):holds P f I Q (.nx (builtin .delete #[mt,t2] ty cons #[.map (some r),enc x]) (.tup []) k) h:=by
 obtain⟨es,ck,rfl,he⟩:=ho.ents
 obtain⟨j,hj,hs⟩:=Ij hp
 intro _
 refine yA ?_
 show swp P I (Builtin.delete_ #[mt,t2] ty #[.map (some r),enc x]) h _
 refine NS hk ht hj he (fun hd=>⟨fun _=>{},rfl,aN hQ hp (hh _ (by rw[hd];exact ho))⟩) (fun i hi hd _=>⟨fun _=>{},rfl,aN hQ (hs _) (hh _ ?_)⟩)
 rw[hd];exact(he.erase hi).mp
theorem Pc(hQ:Aff Q){mt kt et:TypeId}{enc:κ→Value}(hk:uq P kt enc)(ht:P.underlying mt=some (.map kt et)){r:Nat}{l:List (κ×Value)}{o:Obj}{hr:Mem}(hp:h.Perm ((r,o)::hr))(ho:Mp enc l o){x:κ}{v:Value}
  (hh: ∀o',Mp enc (LJ l x v) o'→holds P f I Q (k fun _=>{}) ((r,o')::hr)):holds P f I Q (.gen (uN (Instr.mapUpdate mt (.map (some r)) (enc x) v)) (.tup []) k) h:=by
 obtain⟨j,hj,hs⟩:=Ij hp
 intro _
 unfold uN
 rw[Om]
 exact F8 hk ht hj ho x v fun o' ho'=>⟨fun _=>{},rfl,aN hQ (hs _) (hh _ ho')⟩
theorem Pe{κ:Type}{mt ty kt et:TypeId}{cons:Array Bool}{enc:κ→Value}(ht:P.underlying mt=some (.map kt et)){r:Nat}{l:List (κ×Value)}{o:Obj}(hm:Has I h r o)(ho:Mp enc l o)
  (hh:holds P f I Q (k fun _=>{i:=(l.length:Int)}) h):holds P f I Q (.rdn (builtin .len #[mt] ty cons #[.map (some r)]) (.one (.sc (.int .i64))) k) h:=by
 obtain⟨es,ck,rfl,he⟩:=ho.ents
 refine k8 (fun _=>{i:=(l.length:Int)}) ?_ hh
 show rwp P I h (do pure (.value (←Builtin.len_ #[mt] ty #[.map (some r)])):Sem Next) _
 rw[cH]
 unfold Builtin.len_
 refine aB (ap ht) ?_
 show rwp P I h (getObj r>>=fun _=>_) _
 rw[cH]
 refine⟨_,hm,(fun _ _ _=>by simp),?_⟩
 have hlen:es.size=l.length:=by have:=congrArg List.length he.kv;simpa using this
 show Next.value (goInt es.size)=_
 rw[hlen]
 rfl
theorem O6{mt kt et:TypeId}{enc:κ→Value}{sh:Sh}(hk:uq P kt enc)(ht:P.underlying mt=some (.map kt et)){z:Value}(hz:iC P et=some z){r:Nat}{l:List (κ×Value)}{o:Obj}(hm:Has I h r o)(ho:Mp enc l o){x:κ}{ok:Bool}(lf:Nat→jT)
  (hv:(if ok then .tuple #[(l.lookup x).getD z,.bool (l.lookup x).isSome]else(l.lookup x).getD z)=sh.val lf)
  (hh:holds P f I Q (k lf) h):holds P f I Q (.rdn (vN (Instr.lookup mt (.map (some r)) (enc x) ok)) sh k) h:=by
 refine k8 lf ?_ hh
 unfold vN
 rw[cH]
 refine Np hk ht hz hm ho x ok ?_
 show Next.value _=_
 rw[hv]
theorem ip{mt:TypeId}(hh: ∀g,g∉keys h→I g=none→holds P f I Q (k fun _=>{M:=some g}) ((g,.map #[] 0)::h)):holds P f I Q (.nx (vN (Instr.makeMap mt none)) (.one (.sc .mp)) k) h:=by
 intro _
 refine yA ?_
 intro g h1 h2
 exact⟨fun _=>{M:=some g},rfl,hh g h1 h2⟩
theorem EO{κ:Type}{mt kt et:TypeId}{enc:κ→Value}(ht:P.underlying mt=some (.map kt et)){r:Nat}{l:List (κ×Value)}{om:Obj}(hm:Has I h r om)(ho:Mp enc l om)
  (hh: ∀g oi,g∉keys h→I g=none→Itr enc r l l om oi→holds P f I Q (k fun _=>{n:=g}) ((g,oi)::h)):holds P f I Q (.nx (vN (Instr.range mt (.map (some r)))) (.one (.sc .blk)) k) h:=by
 obtain⟨es,ck,rfl,he⟩:=ho.ents
 intro _
 refine yA ?_
 unfold Instr.range
 refine aK (ap ht) ?_
 show swp P I ((getObj r>>=fun _=>_)>>=fun _=>_) h _
 rw[aS,aS]
 refine⟨_,hm,(fun _ _ _=>by simp),?_⟩
 intro g h1 h2
 exact⟨fun _=>{n:=g},rfl,hh g _ h1 h2 (Itr.start r he)⟩
theorem z6(hQ:Aff Q){enc:κ→Value}{r it:Nat}{t:TypeId}{l rem:List (κ×Value)}{om oi:Obj}{hr:Mem}(hm:Has I h r om)(hp:h.Perm ((it,oi)::hr))(ho:Itr enc r l rem om oi)
  (h0:rem=[]→holds P f I Q (k fun _=>{v:= .tuple #[.bool false]}) h)
  (h1: ∀p∈rem,∀oi',Itr enc r l (q4 rem p.1) om oi'→Cur enc r p om oi'→holds P f I Q (k fun _=>{v:= .tuple #[.bool true,enc p.1,p.2]}) ((it,oi')::hr)):
  holds P f I Q (.nx (vN (Instr.next (.pointer (some ⟨it,0,none⟩)) false t)) (.one (.sc .v)) k) h:=by
 obtain⟨j,hj,hs⟩:=Ij hp
 intro _
 refine yA ?_
 exact P1 hm hj ho (fun he=>⟨fun _=>{v:= .tuple #[.bool false]},rfl,h0 he⟩) (fun p hp' oi' ho' hc=>⟨fun _=>{v:= .tuple #[.bool true,enc p.1,p.2]},rfl,aN hQ (hs _) (h1 p hp' oi' ho' hc)⟩)
theorem lF{sh:Sh}{vs:Array Value}{i:Nat}(lf:Nat→jT)(hv:vs[i]? =some (sh.val lf))(hk:holds P f I Q (k lf) h):holds P f I Q (.rdn (vN (Instr.extract (.tuple vs) i)) sh k) h:=by
 refine k8 lf ?_ hk
 refine iq ?_
 unfold Instr.extract
 simp only[hv]
 rfl
theorem Fk{κ:Type}{sh:Sh}{enc:κ→Value}{r it:Nat}{om oi:Obj}{p:κ×Value}(hi:Has I h it oi)(hm:Has I h r om)(hc:Cur enc r p om oi)(lf:Nat→jT)(hv:(.tuple #[enc p.1,p.2]:Value)=sh.val lf)
  (hk:holds P f I Q (k lf) h):holds P f I Q (.rdn (vN (Instr.entry (.pointer (some ⟨it,0,none⟩)))) sh k) h:=by
 obtain⟨es,ck,since,seen,s,e,rfl,rfl,h1,h2,h3,h4⟩:=hc
 refine k8 lf ?_ hk
 refine iq ?_
 unfold Instr.entry
 show rwp P I h (getObj it>>=fun _=>_) _
 rw[cH]
 refine⟨_,hi,(fun _ _ _=>by simp),?_⟩
 simp only[show∀(a:Obj) (Q:Obj→Prop),rwp P I h (Sem.pure a) Q=Q a from fun _ _=>rfl,h1]
 show rwp P I h (getObj r>>=fun _=>_) _
 rw[cH]
 refine⟨_,hm,(fun _ _ _=>by simp),?_⟩
 simp only[show∀(a:Obj) (Q:Obj→Prop),rwp P I h (Sem.pure a) Q=Q a from fun _ _=>rfl,bne_self_eq_false,Bool.false_eq_true,if_false,h2]
 show Next.value _=Next.value _
 rw[h3,h4,hv]
theorem oa{s:Sem Next}{g:FuncId}{args:Array Value}{sh:Sh}{Qc:Value→Mem→Prop}(hc hr:Mem)(hs:bq P s=some (.enter g args))(hp:h.Perm (hc++hr))(hf:dJ I h→Fn P g args (plus I hr) hc Qc)
  (hk: ∀v h1,Qc v h1→ ∃l,v=sh.val l∧holds P f I Q (k l) (h1++hr)):holds P f I Q (.gen s sh k) h:=by
 intro hl
 refine dj _ (d8 _ hs ?_)
 exact fun _=>⟨hc,hr,hp,(hf hl).mono fun v h1 hq=>hk v h1 hq⟩
end
section
open Go.RowKit
section
variable {P:Program} {I:Ctx}
theorem EH{w w':World}(hb:Below w.heap.size w w'){b:Nat}{o:Obj}(h:w.heap[b]? =some o):w'.heap[b]? =some o:=by
 have:=(Array.getElem?_eq_some_iff.1 h).1
 rw[hb.block b this];exact h
theorem Inv.of_below{w0 w w':World}{K0:List Nat}{h:Mem}(hi:Inv w0 K0 I h w)(hb:Below w.heap.size w w')(hd:w.drawn≤w'.drawn):Inv w0 K0 I h w':=by
 refine⟨fun b o hm=>EH hb (hi.own b o hm),hi.nd,fun b o hc=>⟨EH hb (hi.ctx b o hc).1,(hi.ctx b o hc).2⟩,hi.key,fun b hb1 hK=>?_,Nat.le_trans hi.size hb.size,hb.os.trans hi.os,hb.tape.trans hi.tape,hb.output.trans hi.output,Nat.le_trans hi.dr hd⟩
 rw[hb.block b (Nat.lt_of_lt_of_le hb1 hi.size)];exact hi.frame b hb1 hK
theorem Inv.take{w0 w w':World}{K0:List Nat}{h:Mem}(hi:Inv w0 K0 I h w)(hb:Below w.heap.size w w')(hd:w.drawn≤w'.drawn){N:Nat}{o:Obj}(hN:w.heap.size≤N)(ho:w'.heap[N]? =some o):Inv w0 K0 I ((N,o)::h) w':=by
 have h2:=hi.of_below hb hd
 have hk:N∉keys h:=fun hm=>by have:=hi.lt hm;omega
 refine⟨fun b u hm=>?_,by rw[il];exact List.nodup_cons.2 ⟨hk,hi.nd⟩,fun b u hc=>⟨(h2.ctx b u hc).1,?_⟩,fun b hm=>?_,h2.frame,h2.size,h2.os,h2.tape,h2.output,h2.dr⟩
 ·rcases List.mem_cons.1 hm with he|hm
  ·injection he with h3 h4;subst h3;subst h4;exact ho
  ·exact h2.own b u hm
 ·rw[il]
  intro hm
  rcases List.mem_cons.1 hm with he|hm
  ·have h3:=(Array.getElem?_eq_some_iff.1 (hi.ctx b u hc).1).1
   simp only at he
   omega
  ·exact(hi.ctx b u hc).2 hm
 ·rw[il]at hm
  rcases List.mem_cons.1 hm with he|hm
  ·simp only at he;subst he;exact .inr (Nat.le_trans hi.size hN)
  ·exact hi.key b hm
def OnI(I:Ctx)(w:World):Prop:= ∀b o,I b=some o→w.heap[b]? =some o
theorem OnI.cell{w:World}(h:OnI I w){a:Addr}{v:Value}(hc:bh I [] a v):w.cell? a=some v:=by
 obtain⟨h1,cs,t,fz,h2,h3⟩:=hc
 rcases h2 with h2|h2
 ·simp at h2
 ·simp[World.cell?,h _ _ h2,h1,h3]
theorem OU{f:FuncId}{args:Array Value}{Qv:Value→Prop}(hca:af P f)(hc: ∀w,OnI I w→Calls P f args w fun e w'=> ∃v,e= .returned v∧Qv v∧Below w.heap.size w w'∧w.drawn≤w'.drawn):
  Fn P f args I [] (fun v h'=>Qv v∧h'=[]):=
 ⟨hca,fun _ _ w hi=>(hc w (fun b o hb=>(hi.ctx b o hb).1)).mono fun _ _ ⟨v,he,hv,hb,hd⟩=>⟨v,[],he,⟨hv,rfl⟩,hi.of_below hb hd⟩⟩
theorem Mf{f:FuncId}{args:Array Value}{v:Value}(hca:af P f)(hc: ∀w,OnI I w→Calls P f args w fun e w'=>e= .returned v∧Below w.heap.size w w'∧w.drawn≤w'.drawn):
  Fn P f args I [] (fun u h'=>u=v∧h'=[]):=
 OU (Qv:=fun u=>u=v) hca fun w hw=>(hc w hw).mono fun _ _ ⟨he,hb,hd⟩=>⟨v,he,rfl,hb,hd⟩
section
variable {f:Ctl} {Q:Value→Mem→Prop} {h:Mem} {k:(Nat→jT)→Tr}
end
end
end
end Go.Proofs.YtadanegddceleaaGreatS
set_option maxRecDepth 20000
namespace Go.Proofs
section
open Go.Shelf
def Tryz.lays189_ren:Go.Shelf.Ren:=⟨fun|189=>303|125=>128|257=>306|128=>146|129=>147|294=>307|295=>308|296=>309|297=>310|298=>311|299=>312|216=>313|300=>314|301=>315|328=>316|329=>154|330=>155|331=>317|332=>318|215=>150|343=>319|n=>n,fun|28=>71|3=>3|46=>92|0=>0|51=>43|53=>157|4=>4|183=>257|182=>256|131=>233|5=>5|9=>9|218=>267|222=>271|228=>273|229=>274|n=>n,fun|n=>n⟩
theorem Tryz.lays189:Go.Proofs.Lays.n189 Tryz.prog Tryz.lays189_ren:={
 mixed:=by kernel_rfl
 f125:=Tryz.func128.trans (congrArg some (by kernel_rfl))
 f128:=Tryz.func146.trans (congrArg some (by kernel_rfl))
 f129:=Tryz.func147.trans (congrArg some (by kernel_rfl))
 f189:=Tryz.func303.trans (congrArg some (by kernel_rfl))
 f215:=Tryz.func150.trans (congrArg some (by kernel_rfl))
 f216:=Tryz.func313.trans (congrArg some (by kernel_rfl))
 f257:=Tryz.func306.trans (congrArg some (by kernel_rfl))
 f294:=Tryz.func307.trans (congrArg some (by kernel_rfl))
 f295:=Tryz.func308.trans (congrArg some (by kernel_rfl))
 f296:=Tryz.func309.trans (congrArg some (by kernel_rfl))
 f297:=Tryz.func310.trans (congrArg some (by kernel_rfl))
 f298:=Tryz.func311.trans (congrArg some (by kernel_rfl))
 f299:=Tryz.func312.trans (congrArg some (by kernel_rfl))
 f300:=Tryz.func314.trans (congrArg some (by kernel_rfl))
 f301:=Tryz.func315.trans (congrArg some (by kernel_rfl))
 f328:=Tryz.func316.trans (congrArg some (by kernel_rfl))
 f329:=Tryz.func154.trans (congrArg some (by kernel_rfl))
 f330:=Tryz.func155.trans (congrArg some (by kernel_rfl))
 f331:=Tryz.func317.trans (congrArg some (by kernel_rfl))
 f332:=Tryz.func318.trans (congrArg some (by kernel_rfl))
 f343:=Tryz.func319.trans (congrArg some (by kernel_rfl))
 t0:=Tryz.underlying0
 a0:=Tryz.isAgg0
 z0:=Tryz.sizeOf0
 v0:=Tryz.zeroValue0
 t3:=Tryz.underlying3
 a3:=Tryz.isAgg3
 z3:=Tryz.sizeOf3
 v3:=Tryz.zeroValue3
 t4:=Tryz.underlying4
 a4:=Tryz.isAgg4
 z4:=Tryz.sizeOf4
 v4:=Tryz.zeroValue4
 t5:=Tryz.underlying5
 a5:=Tryz.isAgg5
 z5:=Tryz.sizeOf5
 v5:=Tryz.zeroValue5
 t9:=Tryz.underlying9
 a9:=Tryz.isAgg9
 z9:=Tryz.sizeOf9
 v9:=Tryz.zeroValue9
 t28:=Tryz.underlying71
 a28:=Tryz.isAgg71
 z28:=Tryz.sizeOf71
 v28:=Tryz.zeroValue71
 t46:=Tryz.underlying92
 a46:=Tryz.isAgg92
 z46:=Tryz.sizeOf92
 v46:=Tryz.zeroValue92
 t51:=Tryz.underlying43
 a51:=Tryz.isAgg43
 z51:=Tryz.sizeOf43
 v51:=Tryz.zeroValue43
 t53:=Tryz.underlying157
 a53:=Tryz.isAgg157
 z53:=Tryz.sizeOf157
 v53:=Tryz.zeroValue157
 t131:=Tryz.underlying233
 a131:=Tryz.isAgg233
 z131:=Tryz.sizeOf233
 v131:=Tryz.zeroValue233
 t182:=Tryz.underlying256
 a182:=Tryz.isAgg256
 z182:=Tryz.sizeOf256
 v182:=Tryz.zeroValue256
 t183:=Tryz.underlying257
 a183:=Tryz.isAgg257
 z183:=Tryz.sizeOf257
 v183:=Tryz.zeroValue257
 t218:=Tryz.underlying267
 a218:=Tryz.isAgg267
 z218:=Tryz.sizeOf267
 v218:=Tryz.zeroValue267
 t222:=Tryz.underlying271
 a222:=Tryz.isAgg271
 z222:=Tryz.sizeOf271
 v222:=Tryz.zeroValue271
 t228:=Tryz.underlying273
 a228:=Tryz.isAgg273
 z228:=Tryz.sizeOf273
 v228:=Tryz.zeroValue273
 t229:=Tryz.underlying274
 a229:=Tryz.isAgg274
 z229:=Tryz.sizeOf274
 v229:=Tryz.zeroValue274}
open Go.Sort Go.RowKit in
theorem Tryz.slices_Sort_int (blk off cap:Nat) (zs:List Int) (w:World) (hH:Holds (Value.int .i64) w blk off zs.toArray) (hblk:blk<w.heap.size) (hsz:zs.length<4611686018427387904):
  Calls Tryz.prog 303 #[.slice (some ⟨blk,off,none⟩) zs.length cap] w fun e w'=>
   e= .returned (.tuple #[])∧ ∃n os,w'=grow (putRow (Value.int .i64) (Sort.ahead w n) blk off (zs.mergeSort fun x y=>decide (x≤y)).toArray) os:=Any.slices_Sort_int Tryz.lays189 blk off cap zs w hH hblk hsz
open Go.RowKit Go.Sort in
theorem Tryz.slices_Sort_int_none (p:Option Addr) (cap:Nat) (w:World):
  Calls Tryz.prog 303 #[.slice p 0 cap] w fun e w'=>e= .returned (.tuple #[])∧w'=w:=Any.slices_Sort_int_none Tryz.lays189 p cap w
def Tryz.sf184_ren:Go.Shelf.Ren:=⟨fun|6=>184|15=>128|14=>187|28=>146|29=>147|20=>188|21=>189|22=>190|23=>191|24=>192|25=>193|26=>194|27=>195|46=>196|47=>154|48=>155|49=>197|50=>198|57=>199|n=>n,fun|22=>141|24=>45|25=>297|3=>3|39=>92|0=>0|53=>43|55=>157|4=>4|46=>257|45=>256|50=>233|5=>5|9=>9|66=>267|70=>271|76=>273|77=>274|n=>n,fun|n=>n⟩
theorem Tryz.sf184:Go.Proofs.SlLaysF0.n6 Tryz.prog Tryz.sf184_ren:={
 mixed:=by kernel_rfl
 f6:=⟨Tryz.f184.name,by decide,Tryz.func184.trans (congrArg some (by kernel_rfl))⟩
 f14:=⟨Tryz.f187.name,by decide,Tryz.func187.trans (congrArg some (by kernel_rfl))⟩
 f15:=Tryz.func128.trans (congrArg some (by kernel_rfl))
 f20:=⟨Tryz.f188.name,by decide,Tryz.func188.trans (congrArg some (by kernel_rfl))⟩
 f21:=⟨Tryz.f189.name,by decide,Tryz.func189.trans (congrArg some (by kernel_rfl))⟩
 f22:=⟨Tryz.f190.name,by decide,Tryz.func190.trans (congrArg some (by kernel_rfl))⟩
 f23:=⟨Tryz.f191.name,by decide,Tryz.func191.trans (congrArg some (by kernel_rfl))⟩
 f24:=⟨Tryz.f192.name,by decide,Tryz.func192.trans (congrArg some (by kernel_rfl))⟩
 f25:=⟨Tryz.f193.name,by decide,Tryz.func193.trans (congrArg some (by kernel_rfl))⟩
 f26:=⟨Tryz.f194.name,by decide,Tryz.func194.trans (congrArg some (by kernel_rfl))⟩
 f27:=⟨Tryz.f195.name,by decide,Tryz.func195.trans (congrArg some (by kernel_rfl))⟩
 f28:=Tryz.func146.trans (congrArg some (by kernel_rfl))
 f29:=Tryz.func147.trans (congrArg some (by kernel_rfl))
 f46:=⟨Tryz.f196.name,by decide,Tryz.func196.trans (congrArg some (by kernel_rfl))⟩
 f47:=Tryz.func154.trans (congrArg some (by kernel_rfl))
 f48:=Tryz.func155.trans (congrArg some (by kernel_rfl))
 f49:=⟨Tryz.f197.name,by decide,Tryz.func197.trans (congrArg some (by kernel_rfl))⟩
 f50:=⟨Tryz.f198.name,by decide,Tryz.func198.trans (congrArg some (by kernel_rfl))⟩
 f57:=⟨Tryz.f199.name,by decide,Tryz.func199.trans (congrArg some (by kernel_rfl))⟩
 t0:=Tryz.underlying0
 a0:=Tryz.isAgg0
 z0:=Tryz.sizeOf0
 v0:=Tryz.zeroValue0
 t3:=Tryz.underlying3
 a3:=Tryz.isAgg3
 z3:=Tryz.sizeOf3
 v3:=Tryz.zeroValue3
 t4:=Tryz.underlying4
 a4:=Tryz.isAgg4
 z4:=Tryz.sizeOf4
 v4:=Tryz.zeroValue4
 t5:=Tryz.underlying5
 a5:=Tryz.isAgg5
 z5:=Tryz.sizeOf5
 v5:=Tryz.zeroValue5
 t9:=Tryz.underlying9
 a9:=Tryz.isAgg9
 z9:=Tryz.sizeOf9
 v9:=Tryz.zeroValue9
 t22:=Tryz.underlying141
 a22:=Tryz.isAgg141
 z22:=Tryz.sizeOf141
 v22:=Tryz.zeroValue141
 t25:=Tryz.underlying297
 a25:=Tryz.isAgg297
 z25:=Tryz.sizeOf297
 v25:=Tryz.zeroValue297
 t39:=Tryz.underlying92
 a39:=Tryz.isAgg92
 z39:=Tryz.sizeOf92
 v39:=Tryz.zeroValue92
 t45:=Tryz.underlying256
 a45:=Tryz.isAgg256
 z45:=Tryz.sizeOf256
 v45:=Tryz.zeroValue256
 t46:=Tryz.underlying257
 a46:=Tryz.isAgg257
 z46:=Tryz.sizeOf257
 v46:=Tryz.zeroValue257
 t50:=Tryz.underlying233
 a50:=Tryz.isAgg233
 z50:=Tryz.sizeOf233
 v50:=Tryz.zeroValue233
 t53:=Tryz.underlying43
 a53:=Tryz.isAgg43
 z53:=Tryz.sizeOf43
 v53:=Tryz.zeroValue43
 t55:=Tryz.underlying157
 a55:=Tryz.isAgg157
 z55:=Tryz.sizeOf157
 v55:=Tryz.zeroValue157
 t66:=Tryz.underlying267
 a66:=Tryz.isAgg267
 z66:=Tryz.sizeOf267
 v66:=Tryz.zeroValue267
 t70:=Tryz.underlying271
 a70:=Tryz.isAgg271
 z70:=Tryz.sizeOf271
 v70:=Tryz.zeroValue271
 t76:=Tryz.underlying273
 a76:=Tryz.isAgg273
 z76:=Tryz.sizeOf273
 v76:=Tryz.zeroValue273
 t77:=Tryz.underlying274
 a77:=Tryz.isAgg274
 z77:=Tryz.sizeOf274
 v77:=Tryz.zeroValue274}
def Tryz.sf105_ren:Go.Shelf.Ren:=⟨fun|6=>105|15=>128|14=>127|28=>146|29=>147|20=>138|21=>139|22=>140|23=>141|24=>142|25=>143|26=>144|27=>145|46=>153|47=>154|48=>155|49=>156|50=>157|57=>158|n=>n,fun|22=>178|24=>123|25=>183|3=>3|39=>92|0=>0|53=>43|55=>157|4=>4|46=>257|45=>256|50=>233|5=>5|9=>9|66=>267|70=>271|76=>273|77=>274|n=>n,fun|n=>n⟩
theorem Tryz.sf105:Go.Proofs.SlLaysF0.n6 Tryz.prog Tryz.sf105_ren:={
 mixed:=by kernel_rfl
 f6:=⟨Tryz.f105.name,by decide,Tryz.func105.trans (congrArg some (by kernel_rfl))⟩
 f14:=⟨Tryz.f127.name,by decide,Tryz.func127.trans (congrArg some (by kernel_rfl))⟩
 f15:=Tryz.func128.trans (congrArg some (by kernel_rfl))
 f20:=⟨Tryz.f138.name,by decide,Tryz.func138.trans (congrArg some (by kernel_rfl))⟩
 f21:=⟨Tryz.f139.name,by decide,Tryz.func139.trans (congrArg some (by kernel_rfl))⟩
 f22:=⟨Tryz.f140.name,by decide,Tryz.func140.trans (congrArg some (by kernel_rfl))⟩
 f23:=⟨Tryz.f141.name,by decide,Tryz.func141.trans (congrArg some (by kernel_rfl))⟩
 f24:=⟨Tryz.f142.name,by decide,Tryz.func142.trans (congrArg some (by kernel_rfl))⟩
 f25:=⟨Tryz.f143.name,by decide,Tryz.func143.trans (congrArg some (by kernel_rfl))⟩
 f26:=⟨Tryz.f144.name,by decide,Tryz.func144.trans (congrArg some (by kernel_rfl))⟩
 f27:=⟨Tryz.f145.name,by decide,Tryz.func145.trans (congrArg some (by kernel_rfl))⟩
 f28:=Tryz.func146.trans (congrArg some (by kernel_rfl))
 f29:=Tryz.func147.trans (congrArg some (by kernel_rfl))
 f46:=⟨Tryz.f153.name,by decide,Tryz.func153.trans (congrArg some (by kernel_rfl))⟩
 f47:=Tryz.func154.trans (congrArg some (by kernel_rfl))
 f48:=Tryz.func155.trans (congrArg some (by kernel_rfl))
 f49:=⟨Tryz.f156.name,by decide,Tryz.func156.trans (congrArg some (by kernel_rfl))⟩
 f50:=⟨Tryz.f157.name,by decide,Tryz.func157.trans (congrArg some (by kernel_rfl))⟩
 f57:=⟨Tryz.f158.name,by decide,Tryz.func158.trans (congrArg some (by kernel_rfl))⟩
 t0:=Tryz.underlying0
 a0:=Tryz.isAgg0
 z0:=Tryz.sizeOf0
 v0:=Tryz.zeroValue0
 t3:=Tryz.underlying3
 a3:=Tryz.isAgg3
 z3:=Tryz.sizeOf3
 v3:=Tryz.zeroValue3
 t4:=Tryz.underlying4
 a4:=Tryz.isAgg4
 z4:=Tryz.sizeOf4
 v4:=Tryz.zeroValue4
 t5:=Tryz.underlying5
 a5:=Tryz.isAgg5
 z5:=Tryz.sizeOf5
 v5:=Tryz.zeroValue5
 t9:=Tryz.underlying9
 a9:=Tryz.isAgg9
 z9:=Tryz.sizeOf9
 v9:=Tryz.zeroValue9
 t22:=Tryz.underlying178
 a22:=Tryz.isAgg178
 z22:=Tryz.sizeOf178
 v22:=Tryz.zeroValue178
 t25:=Tryz.underlying183
 a25:=Tryz.isAgg183
 z25:=Tryz.sizeOf183
 v25:=Tryz.zeroValue183
 t39:=Tryz.underlying92
 a39:=Tryz.isAgg92
 z39:=Tryz.sizeOf92
 v39:=Tryz.zeroValue92
 t45:=Tryz.underlying256
 a45:=Tryz.isAgg256
 z45:=Tryz.sizeOf256
 v45:=Tryz.zeroValue256
 t46:=Tryz.underlying257
 a46:=Tryz.isAgg257
 z46:=Tryz.sizeOf257
 v46:=Tryz.zeroValue257
 t50:=Tryz.underlying233
 a50:=Tryz.isAgg233
 z50:=Tryz.sizeOf233
 v50:=Tryz.zeroValue233
 t53:=Tryz.underlying43
 a53:=Tryz.isAgg43
 z53:=Tryz.sizeOf43
 v53:=Tryz.zeroValue43
 t55:=Tryz.underlying157
 a55:=Tryz.isAgg157
 z55:=Tryz.sizeOf157
 v55:=Tryz.zeroValue157
 t66:=Tryz.underlying267
 a66:=Tryz.isAgg267
 z66:=Tryz.sizeOf267
 v66:=Tryz.zeroValue267
 t70:=Tryz.underlying271
 a70:=Tryz.isAgg271
 z70:=Tryz.sizeOf271
 v70:=Tryz.zeroValue271
 t76:=Tryz.underlying273
 a76:=Tryz.isAgg273
 z76:=Tryz.sizeOf273
 v76:=Tryz.zeroValue273
 t77:=Tryz.underlying274
 a77:=Tryz.isAgg274
 z77:=Tryz.sizeOf274
 v77:=Tryz.zeroValue274}
end
end Go.Proofs
set_option maxRecDepth 20000
namespace Go.Proofs.YtadanegddceleaaGreatS
section
open Go.RowKit Go.Sort
section
variable {P:Program} {I:Ctx}
theorem Inv.grown{w0 w:World}{K0:List Nat}{h:Mem}(hi:Inv w0 K0 I h w)(os:Array Obj):Inv w0 K0 I h (grow w os):=
 hi.of_below ⟨rfl,rfl,rfl,by simp,fun k hk=>heap_grow_old w os hk⟩ (Nat.le_refl _)
theorem Inv.mapB{w0 w:World}{K0:List Nat}{h:Mem}(hi:Inv w0 K0 I h w){i b:Nat}{arr:Array Value}{t:TypeId}{fz:Nat×Nat}(hb:h[i]? =some (b,.cells arr t fz))(f:Array Value→Array Value):
  Inv w0 K0 I (h.set i (b,.cells (f arr) t fz)) (mapBlock w b f):=by
 have hbw:=hi.own _ _ (List.mem_of_getElem? hb)
 refine hi.set hb ⟨rfl,rfl,rfl,by simp[mapBlock]⟩ ?_ (fun k hk=>?_)
 ·simp only[mapBlock,Array.getElem?_modify,if_true,hbw,Option.map_some,onCells]
 ·simp only[mapBlock,Array.getElem?_modify]
  rw[if_neg (fun e=>hk e.symm)]
theorem xL{α:Type}[Inhabited α](enc:α→Value)(d:Array α)(arr:Array Value)(h:d.size≤arr.size):(putCells enc 0 d arr).toList=d.toList.map enc++arr.toList.drop d.size:=by
 apply List.ext_getElem?
 intro q
 simp only[putCells,Array.toList_mapIdx,List.getElem?_mapIdx,Nat.zero_le,true_and,Nat.zero_add,Nat.sub_zero,Array.getElem?_toList]
 by_cases hq:q<d.size
 ·rw[List.getElem?_append_left (by simpa using hq),List.getElem?_map]
  simp only[if_pos hq]
  rw[Array.getElem?_eq_getElem (by omega)]
  simp only[Option.map_some,Array.getElem?_toList]
  rw[Array.getElem?_eq_getElem hq,getElem!_pos d q hq]
  rfl
 ·rw[List.getElem?_append_right (by simp;omega)]
  simp only[if_neg hq,List.length_map,Array.length_toList,List.getElem?_drop,Array.getElem?_toList]
  rw[show d.size+(q - d.size)=q by omega]
  cases arr[q]? <;>rfl
theorem Pt{w w':World}(hb:Go.RowKit.Below w.heap.size w w')(hd:w.drawn≤w'.drawn): ∃q os,w'=grow (w.drewN q) os:=by
 refine⟨w'.drawn - w.drawn,w'.heap.extract w.heap.size w'.heap.size,?_⟩
 obtain⟨h',t',d',o',u'⟩:=w'
 obtain⟨h,t,d,o,u⟩:=w
 obtain⟨h1,h2,h3,h4,h5⟩:=hb
 simp only at h1 h2 h3 h4 h5 hd
 subst h1;subst h2;subst h3
 unfold grow World.drewN
 simp only[World.mk.injEq,true_and,and_true]
 refine⟨?_,by omega⟩
 apply Array.ext_getElem?
 intro k
 rw[Array.getElem?_append]
 split
 ·rename_i hk;exact h5 k hk
 ·rename_i hk
  rw[Array.getElem?_extract]
  split
  ·rename_i hk2
   rw[show h.size+(k - h.size)=k by omega]
  ·rename_i hk2
   rw[Array.getElem?_eq_none]
   omega
theorem O3{α:Type}[Inhabited α]{g:Nat}{enc:α→List Value}{k:Nat}{cf:α→α→Int}
  (hf: ∀x y,Fn P g #[.agg (enc x).toArray,.agg (enc y).toArray] (fun _=>none) [] (fun v h'=>v= .int .i64 (cf x y)∧h'=[]))(blk off size:Nat)(w:World):CmpLays P g #[] enc k cf blk off size w:=by
 intro m os dk _ x y
 rw[Array.append_empty]
 refine((hf x y).2 _ [] _ (Inv.start _ _ (by simp))).mono ?_
 rintro e w' ⟨v,h',rfl,⟨rfl,rfl⟩,hi⟩
 exact⟨rfl,Pt hi.below hi.dr⟩
theorem Qx{α:Type}[Inhabited α]{d d':Array α}(h:PermIn 0 d.size d d'):d'.toList.Perm d.toList:=by
 obtain⟨h1,_,h3⟩:=h
 rw[Array.extract_size]at h3
 rw[←h1,Array.extract_size]at h3
 exact h3
theorem Hg{α:Type}[Inhabited α](enc:α→List Value)(k:Nat)(hk: ∀x,(enc x).length=k)(hk0:0<k)(d:Array α):(flatK enc k d).toList=d.toList.flatMap enc:=by
 have hl: ∀l:List α,(l.flatMap enc).length=l.length*k:=by
  intro l
  induction l with
  |nil=>simp
  |cons a l ih=>rw[List.flatMap_cons,List.length_append,ih,hk,List.length_cons,Nat.add_mul,Nat.one_mul,Nat.add_comm]
 have key: ∀(l:List α) (t:Nat),t<l.length*k→(l.flatMap enc)[t]? =((l[t/k]?).bind fun a=>(enc a)[t%k]?):=by
  intro l
  induction l with
  |nil=>intro t ht;simp at ht
  |cons a l ih=>
   intro t ht
   rw[List.flatMap_cons]
   by_cases h:t<k
   ·rw[List.getElem?_append_left (by rw[hk];exact h),Nat.div_eq_of_lt h,Nat.mod_eq_of_lt h]
    rfl
   ·rw[List.getElem?_append_right (by rw[hk];omega),hk,ih (t - k) (by rw[List.length_cons,Nat.add_mul,Nat.one_mul]at ht;omega)]
    have h1:t/k=(t - k)/k+1:=by rw[Nat.div_eq_sub_div hk0 (by omega)]
    have h2:t%k=(t - k)%k:=by rw[Nat.mod_eq_sub_mod (by omega)]
    rw[h1,h2,List.getElem?_cons_succ]
 apply List.ext_getElem?
 intro t
 by_cases ht:t<d.size*k
 ·rw[key d.toList t (by simpa using ht),Array.getElem?_toList,Array.getElem?_eq_getElem (by simpa using ht)]
  have h1:t/k<d.size:=Nat.div_lt_of_lt_mul (by rwa[Nat.mul_comm]at ht)
  have h2:t%k<k:=Nat.mod_lt _ hk0
  have:=get_flatK enc k d t ht
  rw[getElem!_pos (flatK enc k d) t (by simpa using ht)]at this
  rw[this,Array.getElem?_toList,Array.getElem?_eq_getElem h1]
  simp only[Option.bind_some]
  rw[getElem!_pos d _ h1,List.getElem?_eq_getElem (by rw[hk];exact h2),getElem!_pos _ _ (by rw[hk];exact h2)]
 ·rw[List.getElem?_eq_none (by simp;omega),List.getElem?_eq_none (by rw[hl];simp;omega)]
end
section
variable {I:Ctx}
theorem KS{ty:TypeId}{A:Option Addr}{n c:Nat}{zs:List Int}{m:Mem}(ho:Own ty 1 A n c (zs.map (Value.int .i64)) m)(hn:n<4611686018427387904):
  Fn Tryz.prog 303 #[.slice A n c] I m (fun v h'=>v=undef∧ ∃zs':List Int,zs'.Perm zs∧Own ty 1 A n c (zs'.map (Value.int .i64)) h'):=by
 have hca:af Tryz.prog 303:=⟨_,Tryz.func303,by kernel_rfl,by kernel_rfl⟩
 have hl:=ho.1
 rw[List.length_map,Nat.mul_one]at hl
 refine⟨hca,fun w0 K0 w hi=>?_⟩
 obtain⟨_,h2,⟨rfl,rfl,rfl⟩|⟨b,arr,rfl,rfl,h3,h4⟩⟩:=ho
 ·obtain rfl:n=0:=by omega
  refine(Tryz.slices_Sort_int_none none 0 w).mono ?_
  rintro e w' ⟨rfl,rfl⟩
  obtain rfl:zs=[]:=List.eq_nil_of_length_eq_zero hl
  exact⟨_,[],rfl,⟨rfl,[],List.Perm.refl _,Own.nil _ _⟩,hi⟩
 ·have hb:=hi.own b _ List.mem_cons_self
  have harr: ∀j,j<zs.length→arr[j]? =some (.int .i64 zs[j]!):=by
   intro j hj
   have:=congrArg (fun l=>l[j]?) h4
   simp only[List.getElem?_take,List.getElem?_map,Array.getElem?_toList]at this
   rw[if_pos (by omega),List.getElem?_eq_getElem hj]at this
   rw[this,getElem!_pos zs j hj];rfl
  have hH:Holds (Value.int .i64) w b 0 zs.toArray:=by
   intro j hj
   have hj':j<zs.length:=by simpa using hj
   refine⟨?_,?_⟩
   ·simp only[World.cell?,hb,Nat.zero_add]
    rw[harr j hj']
    simp
   ·simp only[World.frozen?,hb]
    simp
  have:=Tryz.slices_Sort_int b 0 c zs w hH (Array.getElem?_eq_some_iff.1 hb).1 (by omega)
  rw[hl]at this
  refine this.mono ?_
  rintro e w' ⟨rfl,q,os,rfl⟩
  have hi2:=((hi.draw (w.drawn+q) (Nat.le_add_right _ _)).mapB (i:=0) (b:=b) (arr:=arr) rfl (putCells (Value.int .i64) 0 (zs.mergeSort fun x y=>decide (x≤y)).toArray)).grown os
  have hsz:(zs.mergeSort fun x y=>decide (x≤y)).length=n:=by rw[List.length_mergeSort];exact hl
  refine⟨_,_,rfl,⟨rfl,zs.mergeSort fun x y=>decide (x≤y),List.mergeSort_perm _ _,?_⟩,hi2⟩
  refine⟨by simpa using hsz,h2,.inr ⟨b,_,rfl,rfl,?_,?_⟩⟩
  ·simp only[putCells,Array.size_mapIdx];exact h3
  ·rw[xL _ _ _ (by simp;omega)]
   simp only[Nat.mul_one,List.size_toArray]
   rw[List.take_append_of_le_length (by simp;omega),List.take_of_length_le (by simp;omega)]
theorem Kf{α:Type}[Inhabited α]{f te:Nat}{ρ:Go.Shelf.Ren}(L:Go.Proofs.SlLaysF0.n6 Tryz.prog ρ)(hρ:ρ.f 6=f)(hte:ρ.t 24=te)(hca:af Tryz.prog f){k:Nat}(aE: ∀w,(isAgg te).run Tryz.prog w= .ok true w)(zE: ∀w,(Go.sizeOf te).run Tryz.prog w= .ok k w)
  {enc:α→List Value}(hk: ∀x,(enc x).length=k)(hk0:0<k)(h1: ∀x,∀v∈enc x,v.oneCell'=true){cf:α→α→Int}(hO:SWO (ltOf cf)){g:Nat}(hcg:af Tryz.prog g)
  (hf: ∀x y,Fn Tryz.prog g #[.agg (enc x).toArray,.agg (enc y).toArray] (fun _=>none) [] (fun v h'=>v= .int .i64 (cf x y)∧h'=[]))
  {ty:TypeId}{A:Option Addr}{n c:Nat}{l:List α}{m:Mem}(hl:l.length=n)(ho:Own ty k A n c (l.flatMap enc) m)(hn:n<4611686018427387904):
  Fn Tryz.prog f #[.slice A n c,.func (.func g) #[] #[]] I m (fun v h'=>v=undef∧ ∃l':List α,l'.Perm l∧Own ty k A n c (l'.flatMap enc) h'):=by
 refine⟨hca,fun w0 K0 w hi=>?_⟩
 obtain⟨hlen,h2,⟨rfl,rfl,rfl⟩|⟨b,arr,rfl,rfl,h3,h4⟩⟩:=ho
 ·obtain rfl:n=0:=by omega
  rw[←hρ]
  refine(AnyF.slices_SortFunc_none L none 0 _ w).mono ?_
  rintro e w' ⟨rfl,rfl⟩
  obtain rfl:l=[]:=List.eq_nil_of_length_eq_zero hl
  exact⟨_,[],rfl,⟨rfl,[],List.Perm.refl _,Own.nil _ _⟩,hi⟩
 ·have hb:=hi.own b _ List.mem_cons_self
  have hsz:n*k≤arr.size:=by rw[h3];exact Nat.mul_le_mul_right _ h2
  have hflat:=Hg enc k hk hk0 l.toArray
  have hH:HoldsK enc k w b 0 l.toArray:=by
   intro j hj
   have hj':j<n*k:=by rw[size_flatK]at hj;simpa[hl]using hj
   refine⟨?_,?_⟩
   ·simp only[World.cell?,hb,Nat.zero_add,id]
    have:=congrArg (fun l=>l[j]?) h4
    simp only[List.getElem?_take,Array.getElem?_toList]at this
    rw[if_pos hj']at this
    rw[getElem!_pos (flatK enc k l.toArray) j hj]
    have e2:=congrArg (fun l=>l[j]?) hflat
    simp only[Array.getElem?_toList]at e2
    rw[Array.getElem?_eq_getElem hj]at e2
    simp only[Option.isSome_none,Bool.false_eq_true,if_false]
    rw[this,←e2]
   ·simp only[World.frozen?,hb]
    simp
  have eg: ∀args w,(callFunc g args).run Tryz.prog w= .ok (.enter g args) w:=fun args w=>uW hcg
  have:=AnyQ.slices_SortFunc L k (by rw[hte];exact aE) (by rw[hte];exact zE) enc hk h1 cf hO g #[] b 0 c l.toArray w eg (O3 hf b 0 _ w) hH (Array.getElem?_eq_some_iff.1 hb).1 (by simp;omega)
  rw[hρ,List.size_toArray,hl]at this
  refine this.mono ?_
  rintro e w' ⟨rfl,d',q,os,hperm,_,rfl⟩
  have hp:=Qx (d:=l.toArray) (by simpa[hl]using hperm)
  have hls:d'.size=n:=by have:=hp.length_eq;simpa[hl]using this
  have hi2:=((hi.draw (w.drawn+q) (Nat.le_add_right _ _)).mapB (i:=0) (b:=b) (arr:=arr) rfl (putCells id 0 (flatK enc k d'))).grown os
  refine⟨_,_,rfl,⟨rfl,d'.toList,by simpa using hp,?_⟩,hi2⟩
  have hfl:=Hg enc k hk hk0 d'
  have hl2:(d'.toList.flatMap enc).length=n*k:=by rw[←hfl];simp[hls]
  refine⟨hl2,h2,.inr ⟨b,_,rfl,rfl,?_,?_⟩⟩
  ·simp only[putCells,Array.size_mapIdx];exact h3
  ·rw[xL _ _ _ (by rw[size_flatK,hls];exact hsz),hfl,List.map_id,List.take_append_of_le_length (by omega),List.take_of_length_le (by omega)]
end
end
section
variable {P:Program} {I:Ctx}
theorem Inv.put{w0 w:World}{K0:List Nat}{h:Mem}(hi:Inv w0 K0 I h w){i b:Nat}{o:Obj}(hb:h[i]? =some (b,o))(o':Obj):Inv w0 K0 I (h.set i (b,o')) (w.putObj b o'):=by
 have hw:=hi.own _ _ (List.mem_of_getElem? hb)
 have hlt:=(Array.getElem?_eq_some_iff.1 hw).1
 exact hi.set hb ⟨rfl,rfl,rfl,by simp[World.putObj]⟩ (World.putObj_heap_same hlt) (fun k hk=>World.putObj_heap_other hk)
theorem Wp.beginRound{f:Ctl}{l i:Nat}{r:Loop}{k:List Item}{τ:List Value}{h:Mem}{Q:Value→Mem→Prop}(hf:f.rd=some l)(hu:h[i]? =some (l,.loop r))(hr:r.state= .ready)
  (hw:Wp P f k τ I (h.set i (l,.loop {r with state:= .busy})) Q):Wp P f (.beginRound::k) τ I h Q:=by
 intro w0 K0 w hi b cs hb hk hrd
 have hl:=hi.own _ _ (List.mem_of_getElem? hu)
 obtain⟨v,h',w',hq,hi',h1⟩:=hw w0 K0 _ (hi.put hu (.loop {r with state:= .busy})) b cs hb hk hrd
 exact⟨v,h',w',hq,hi',h1.head (stepR_beginRound (hrd.trans hf) (run_beginRound hl hr))⟩
theorem Wp.roundEnd{f:Ctl}{l i:Nat}{r:Loop}{τ:List Value}{h:Mem}{Q:Value→Mem→Prop}(hf:f.rd=some l)(hu:h[i]? =some (l,.loop r))
  (hq:Q (.bool true) (h.set i (l,.loop {r with state:= .ready,pending:=none}))):Wp P f [] τ I h Q:=by
 intro w0 K0 w hi b cs hb hk hrd
 have hl:=hi.own _ _ (List.mem_of_getElem? hu)
 refine⟨_,_,_,hq,hi.put hu _,?_⟩
 unfold xm
 rw[hf]
 intro c cs' e
 subst e
 exact .one (stepR_round_end (hrd.trans hf) hk (run_endRound none hl))
theorem bU.of{l:Nat}{fn:FuncId}{τ:List Value}{ac bd:Code}{h:Mem}{Q:Value→Mem→Prop}(hw:Wp P {fn:=fn,rd:=some l} [.code ac,.beginRound,.code bd] τ I h Q):bU P l fn ⟨τ⟩ ac bd I h Q:=by
 intro w0 K0 w hi c cs
 let b:Frame:=Frame.round l fn ⟨τ⟩ ac bd .normal
 obtain⟨v,h',w',hq,hi',h1⟩:=hw w0 K0 w hi b (c::cs) rfl rfl rfl
 refine⟨v,h',w',hq,hi',?_⟩
 unfold xm at h1
 exact h1 c cs rfl
theorem Wp.rangeFunc{f:Ctl}{g:Operand}{ps:Array Tmp}{ac bd:Code}{k:List Item}{τ:List Value}{h:Mem}{Q:Value→Mem→Prop}{fn:FuncId}{caps:List Value}(hrd:f.rd=none)(hg:evl τ g= .func (.func fn) #[] ⟨caps⟩)(hca:af P fn)
  (hw: ∀D L,dJ I ((L,Obj.loop {state:= .ready,pending:=none,fn:=f.fn,tmps:=⟨τ⟩,params:=ps,assign:=ac,body:=bd,defers:=D})::(D,Obj.deferred (some []))::h)→
   ∃hc hr,((L,Obj.loop {state:= .ready,pending:=none,fn:=f.fn,tmps:=⟨τ⟩,params:=ps,assign:=ac,body:=bd,defers:=D})::(D,Obj.deferred (some []))::h).Perm (hc++hr)∧
    Fn P fn ⟨.func (.yield L) #[] #[]::caps⟩ (plus I hr) hc (fun _ h1=> ∃i r,(h1++hr)[i]? =some (L,.loop r)∧r.state≠ .busy∧
     Wp P {f with ds:={target:= .collected D,args:=#[]}::f.ds} ((r.pending.map Item.code).toList++k) τ I ((h1++hr).set i (L,.loop {r with state:= .exhausted})) Q)):
  Wp P f (.code (.rangeFunc g ps ac bd)::k) τ I h Q:=by
 intro w0 K0 w hi b cs hb hk hro
 obtain⟨_,_,hi1⟩:=hi.new (.deferred (some []))
 obtain⟨_,_,hi2⟩:=hi1.new (.loop {state:= .ready,pending:=none,fn:=f.fn,tmps:=⟨τ⟩,params:=ps,assign:=ac,body:=bd,defers:=w.heap.size})
 have he:(Instr.enterLoop b.fn (act τ f.ds).tmps ps ac bd b.roundOf).run P w= .ok (w.heap.size+1,[{target:= .collected w.heap.size,args:=#[]}])
   ((w.alloc (.deferred (some []))).alloc (.loop {state:= .ready,pending:=none,fn:=f.fn,tmps:=(act τ f.ds).tmps,params:=ps,assign:=ac,body:=bd,defers:=w.heap.size})):=by
  rw[hro,hrd,run_enterLoop_outer,hb]
 have hsz:(w.heap.push (Obj.deferred (some []))).size=w.heap.size+1:=by simp
 simp only[hsz]at hi2
 obtain⟨hc,hr,hp,hf⟩:=hw w.heap.size (w.heap.size+1) ⟨w0,K0,_,hi2⟩
 have hff:=hf.frame
 have hev:(act τ f.ds).eval g= .func (.func fn) #[] ⟨caps⟩:=by rw[yK];exact hg
 have hres: ∀w1,(resolve (act τ f.ds).eval (rangeCall g (w.heap.size+1)) 0).run P w1= .ok {target:= .fn (.func fn) ⟨caps⟩,args:=#[.func (.yield (w.heap.size+1)) #[] #[]]} w1:=by
  intro w1
  simp only[resolve,hev,Deferred.ofValue]
  show Result.ok _ w1=_
  congr 1
  congr 1
  simp
  rfl
 have hinv: ∀w1,(invoke (.fn (.func fn) ⟨caps⟩) #[.func (.yield (w.heap.size+1)) #[] #[]]).run P w1= .ok (.enter fn ⟨.func (.yield (w.heap.size+1)) #[] #[]::caps⟩) w1:=by
  intro w1
  simp only[invoke]
  rw[show(#[.func (.yield (w.heap.size+1)) #[] #[]]++(⟨caps⟩:Array Value))=⟨.func (.yield (w.heap.size+1)) #[] #[]::caps⟩ by simp]
  exact uW hca
 have henter:=stepR_rangeFunc (b:=b) (a:=act τ f.ds) (k:=k) (cs:=cs) he (hres _) (hinv _)
 obtain⟨e,w2,fr,⟨v,h2,rfl,⟨h3,rfl,i,r,hu,hnb,hwp⟩,hi3⟩,hsteps,_,hleave⟩:=hff.2 w0 K0 _ (hi2.perm hp) (b.atR {act τ f.ds with defers:=[{target:= .collected w.heap.size,args:=#[]}]++(act τ f.ds).defers} (.inRangeFunc (w.heap.size+1)::k)::cs)
 have hl:=hi3.own _ _ (List.mem_of_getElem? hu)
 have hend:=run_endLoop (P:=P) hl hnb
 obtain⟨v',h',w',hq',hi',h4⟩:=hwp w0 K0 _ (hi3.put hu (.loop {r with state:= .exhausted})) b cs hb hk hro
 refine⟨v',h',w',hq',hi',xm.head henter (xm.steps hsteps (xm.head (step_leave_returned hleave) ?_))⟩
 rw[finish_atR_inRangeFunc]
 exact xm.head (stepR_endRangeFunc hend) h4
theorem Wp.retD{f:Ctl}{fn:Func}{D i:Nat}{todo:List Item}{τ:List Value}{h:Mem}{Q:Value→Mem→Prop}(hfr:f.rd=none)(hds:f.ds=[{target:= .collected D,args:=#[]}])(ht:todo=[]∨ ∃k,todo= .code .ret::k)(hf:P.funcs[f.fn]? =some fn)
  (hu:h[i]? =some (D,.deferred (some [])))(hr:rwp P I (h.set i (D,.deferred none)) (results fn ⟨τ⟩) (fun v=>Q v (h.set i (D,.deferred none)))):Wp P f todo τ I h Q:=by
 intro w0 K0 w hi b cs hb hk hrd
 have hl:=hi.own _ _ (List.mem_of_getElem? hu)
 have hi2:=hi.put hu (.deferred none)
 obtain⟨v,hrun,hq⟩:=NA hi2 _ hr
 rw[hfr]at hrd
 rw[←hb]at hf
 rw[hds]
 have hgo: ∀td,xm P f (lone {b.atR (act τ [{target:= .collected D,args:=#[]}]) td with mode:= .returning} cs w) cs v (w.putObj D (.deferred none)):=by
  intro td
  have h1:=step_collected (P:=P) (fr:={b.atR (act τ [{target:= .collected D,args:=#[]}]) td with mode:= .returning}) (cs:=cs) (w:=w) (d:={target:= .collected D,args:=#[]}) (r:=D) (ds:=[]) (calls:=[]) (by simp) rfl rfl (run_takeDeferred hl)
  exact xm.leave hfr (.one h1) hb ⟨rfl,rfl,hk,fn,hf,hrun⟩
 rcases ht with rfl|⟨k,rfl⟩
 ·exact⟨v,_,_,hq,hi2,xm.head (stepR_end hrd) (hgo _)⟩
 ·exact⟨v,_,_,hq,hi2,xm.head (stepR_ret hrd) (hgo _)⟩
theorem ve{fn:Func}{τ:List Value}{h:Mem}{Q:Value→Prop}(hr:rwp P I h (fn.results.toList.mapM (wg τ)) (fun vs=>Q (CN vs))):rwp P I h (results fn ⟨τ⟩) Q:=by
 rw[Eo,cH]
 exact hr
section
variable {f:Ctl} {Q:Value→Mem→Prop} {h:Mem}
theorem ne{L:Nat}{args:List Value}{sh:Sh}{k:(Nat→jT)→Tr}{r:Loop}{Qc:Value→Mem→Prop}(hc hr:Mem)(hh:Has I h L (.loop r))(hn:args.length=r.params.size)(hp:h.Perm (hc++hr))
  (hf:dJ I h→bU P L r.fn ((r.params.zip ⟨args⟩).foldl (fun tmps (t,a)=>tmps.setIfInBounds t a) r.tmps) r.assign r.body (plus I hr) hc Qc)
  (hk: ∀v h1,Qc v h1→ ∃l,v=sh.val l∧holds P f I Q (k l) (h1++hr)):holds P f I Q (.gen (Ga (.func (.yield L) #[] #[]) args) sh k) h:=by
 intro hl
 have he:(#[]:Array Value)++⟨args⟩=⟨args⟩:=by simp
 simp only[Ga,Deferred.ofValue,aS,iF,invoke,he,Instr.yield,Instr.getLoop,getObj]
 refine⟨_,hh,(fun _ _ _=>by simp),?_⟩
 show swp P I (if(⟨args⟩:Array Value).size≠r.params.size then _ else _) h _
 rw[if_neg (by rw[show(⟨args⟩:Array Value).size=args.length from rfl,hn];exact fun h=>h rfl)]
 exact fun hl=>⟨hc,hr,hp,(hf hl).mono fun v h1 hq=>hk v h1 hq⟩
end
theorem bU.perm{l:Nat}{f:FuncId}{tmps:Array Value}{ac bd:Code}{h g:Mem}{Q:Value→Mem→Prop}(hr:bU P l f tmps ac bd I h Q)(p:g.Perm h):bU P l f tmps ac bd I g Q:=
 fun w0 K0 w hi c cs=>hr w0 K0 w (hi.perm p) c cs
def iJ(P:Program)(fn:FuncId)(caps:List Value)(I:Ctx)(S:Ctx→Mem→Prop){κ:Type}(args:κ→List Value)(keys:List κ):Prop:=
 ∀(I':Ctx),(∀b o,I b=some o→I' b=some o)→ ∀(L:Nat) (r:Loop) (J:List κ→Mem→Prop) (m:Mem),
  (∀k,(args k).length=r.params.size)→(∀done m,J done m→S I' m∧(L,.loop r)∈m)→
  (∀done k rest m,(done++k::rest).Perm keys→J done m→ ∀I'',(∀b o,I' b=some o→I'' b=some o)→
   bU P L r.fn ((r.params.zip ⟨args k⟩).foldl (fun tmps (t,a)=>tmps.setIfInBounds t a) r.tmps) r.assign r.body I'' m (cl_ fun v m'=>v= .bool true∧J (done++[k]) m'))→
  J [] m→Fn P fn ⟨.func (.yield L) #[] #[]::caps⟩ I' m (cl_ fun _ m'=> ∃ks,ks.Perm keys∧J ks m')
abbrev kH(f:FuncId)(τ:List Value)(ps:Array Tmp)(ac bd:Code)(D:Nat):Loop:={state:= .ready,pending:=none,fn:=f,tmps:=⟨τ⟩,params:=ps,assign:=ac,body:=bd,defers:=D}
theorem Wp.rangeIter{f:Ctl}{g:Operand}{ps:Array Tmp}{ac bd:Code}{k:List Item}{τ:List Value}{h:Mem}{Q:Value→Mem→Prop}{fn:FuncId}{caps:List Value}{S:Ctx→Mem→Prop}{κ:Type}{args:κ→List Value}{keys:List κ}
  (hrd:f.rd=none)(hg:evl τ g= .func (.func fn) #[] ⟨caps⟩)(hca:af P fn)(m0 hr:Mem)(hp:h.Perm (m0++hr))(hio:dJ I h→iJ P fn caps (plus I hr) S args keys)(J:List κ→Mem→Prop)(h0:J [] m0)(ha: ∀k,(args k).length=ps.size)
  (hS: ∀done m I',J done m→(∀b o,plus I hr b=some o→I' b=some o)→ ∀m',(∀x∈m,x∈m')→S I' m')
  (hround: ∀L D done k rest m,(done++k::rest).Perm keys→J done m→ ∀I',(∀b o,plus I hr b=some o→I' b=some o)→
   bU P L f.fn ((ps.zip ⟨args k⟩).foldl (fun tmps (t,a)=>tmps.setIfInBounds t a) ⟨τ⟩) ac bd I' ((L,.loop (kH f.fn τ ps ac bd D))::m)
    (cl_ fun v m'=>v= .bool true∧ ∃m2,m'=(L,.loop (kH f.fn τ ps ac bd D))::m2∧J (done++[k]) m2))
  (hafter: ∀L D ks m,ks.Perm keys→J ks m→Wp P {f with ds:={target:= .collected D,args:=#[]}::f.ds} k τ I ((L,.loop {kH f.fn τ ps ac bd D with state:= .exhausted})::(D,.deferred (some []))::(m++hr)) Q):
  Wp P f (.code (.rangeFunc g ps ac bd)::k) τ I h Q:=by
 refine Wp.live fun hl0=>Wp.rangeFunc hrd hg hca fun D L hl=>?_
 refine⟨(L,.loop (kH f.fn τ ps ac bd D))::m0,(D,.deferred (some []))::hr,?_,?_⟩
 ·refine List.Perm.cons _ ?_
  exact(hp.cons _).trans List.perm_middle.symm
 ·have hsub: ∀b o,plus I hr b=some o→plus I ((D,Obj.deferred (some []))::hr) b=some o:=by
   intro b o hb
   have hn:=hl.nd
   unfold plus at hb⊢
   by_cases hbd:D=b
   ·exfalso
    subst hbd
    have h1:=hl.perm (((hp.cons (D,Obj.deferred (some []))).cons _).trans (List.Perm.refl _))
    split at hb
    ·rename_i p hpf
     have:=List.mem_of_find?_eq_some hpf
     have e:=List.find?_some hpf
     simp only[beq_iff_eq]at e
     have h2:=h1.nd
     simp only[il,aT,List.nodup_cons,List.mem_cons,List.mem_append]at h2
     exact h2.2.1 (.inr (e▸rK (show(p.1,p.2)∈hr from this)))
    ·exact hl.ctx hb (by simp)
   ·rw[List.find?_cons_of_neg (by simpa using hbd)]
    exact hb
  have:=hio hl0 _ hsub L (kH f.fn τ ps ac bd D) (fun done m=> ∃m2,m=(L,.loop (kH f.fn τ ps ac bd D))::m2∧J done m2) _ ha
   (fun done m ⟨m2,e,hj⟩=>⟨hS done m2 _ hj hsub _ (fun x hx=>by rw[e];exact List.mem_cons_of_mem _ hx),by rw[e];exact List.mem_cons_self⟩) ?_ ⟨m0,rfl,h0⟩
  ·refine this.mono ?_
   rintro v h1 ⟨h2,gg,hpg,ks,hks,m2,rfl,hj⟩
   obtain⟨j,hj1,hj2⟩:=xx (i:=0) (x:=(L,Obj.loop (kH f.fn τ ps ac bd D))) (h:=(L,Obj.loop (kH f.fn τ ps ac bd D))::m2++gg) (hpg.symm) rfl
   have hjl:=(List.getElem?_eq_some_iff.1 hj1).1
   refine⟨j,kH f.fn τ ps ac bd D,by rw[List.getElem?_append_left hjl];exact hj1,by simp,?_⟩
   show Wp P _ ([]++k) τ I _ Q
   rw[List.nil_append]
   have hh:=hafter L D ks m2 hks hj
   refine Wp.perm (Wp.drop hh (g:=gg)) ?_
   rw[List.set_append_left _ _ hjl]
   have e1:=hj2 (L,.loop {kH f.fn τ ps ac bd D with state:= .exhausted})
   rw[List.cons_append,List.set_cons_zero]at e1
   refine List.Perm.trans ?_ (e1.append_right _)
   simp only[List.cons_append]
   refine List.Perm.cons _ ?_
   refine List.Perm.trans ?_ List.perm_middle.symm
   refine List.Perm.cons _ ?_
   rw[List.append_assoc,List.append_assoc]
   exact(List.perm_append_comm (l₁:=hr) (l₂:=gg)).append_left m2
  ·intro done key rest m hper hj I'' hI''
   obtain⟨m2,rfl,hj⟩:=hj
   refine(hround L D done key rest m2 hper hj I'' (fun b o hb=>hI'' b o (hsub b o hb))).mono ?_
   rintro v h1 ⟨h2,gg,hpg,hv,m3,e,hj3⟩
   exact⟨h2,gg,hpg,hv,m3,e,hj3⟩
end
section
variable {P:Program} {I:Ctx} {f:Ctl} {Q:Value→Mem→Prop} {h:Mem} {k:(Nat→jT)→Tr}
theorem MS{t e:TypeId}{sz n:Nat}{a:Addr}{ik:IntKind}{i:Int}{R:Value→Prop}(ht:P.underlying t=some (.array n e))(hs:i4 P e=some sz)(h0:0≤i)(h1:i<n)
  (hr:R (.pointer (some (a.add (i.toNat*sz))))):rwp P I h (Instr.indexAt t (.pointer (some a)) (.int ik i)) R:=by
 unfold Instr.indexAt
 refine aB (a:=(ik,i)) rfl ?_
 refine aB (ap ht) ?_
 refine aB (a:=(some a,n,e)) rfl ?_
 refine aB (ap ht) ?_
 show rwp P I h (if 0≤i∧i<(n:Int)then _ else _) R
 rw[if_pos ⟨h0,h1⟩]
 refine aB (eV hs) ?_
 exact hr
end
end Go.Proofs.YtadanegddceleaaGreatS
