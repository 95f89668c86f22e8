import Derived.Test.YtadanegddceleaaGreatqad
import Derived.Test.YtadanegddceleaaGreatqam
import Derived.Test.YtadanegddceleaaGreatqas
set_option linter.unusedSimpArgs false
set_option linter.unusedVariables false
set_option maxRecDepth 20000
namespace Go.Proofs.YtadanegddceleaaGreatS
def M6(g:Nat)(L:List Pk)(i:Int)(v:Value)(h:Mem):Prop:=
 if 0≤i∧i<(L.length:Int)then∃p A c hB hR,L[i.toNat]? =some p∧v= .tuple #[p.v A p.B.length c,.bool true]∧h.Perm (hB++hR)∧BI A p.B.length c p.B hB∧p.B.length≤100000000000∧iN 76 g (L.eraseIdx i.toNat) hR
 else v= .tuple #[Tj.v none 0 0,.bool false]∧iN 76 g L h
theorem EC{I:Ctx}{g:Nat}{L:List Pk}{h:Mem}{i:Int}(hrep:iN 76 g L h)(hbd:L.length≤100000000000):
  Fn Tryz.prog 44 #[.pointer (some ⟨g,0,none⟩),.int .i64 i] I h (M6 g L i):=by
 obtain⟨A0,c0,cs,m,hb,hp,ho,hpk,hall⟩:=hrep
 refine Fn.perm ?_ hp
 refine Di _ _ ?_
 refine bt dK fun g1 hg1 hI1=>?_
 refine ak [] _ ws (List.Perm.refl _) (fun hl=>JQ (iN.read (h:=(g,.cells #[.slice A0 L.length c0] 76 (0,0))::(m++hb)) ⟨A0,c0,cs,m,hb,List.Perm.refl _,ho,hpk,hall⟩ hl (fun x hx=>List.mem_cons_of_mem _ hx))) ?_
 intro v h1 hq
 unfold AtQ at hq
 split at hq
 ·rename_i hin
  obtain⟨p,A,c,hLi,rfl,hoB,hbB⟩:=hq
  obtain⟨k,rfl⟩: ∃k:Nat,i=k:=⟨i.toNat,by omega⟩
  have hk:k<L.length:=by omega
  rw[Int.toNat_natCast]at hLi
  refine⟨ag [{i:=p.d},{i:=p.f},{i:=p.t},{A:=A,n:=p.B.length,c:=c},{b:=true}],rfl,?_⟩
  dsimp only[ag]
  refine bt dK fun g3 hg3 hI3=>?_
  refine iW 0 rfl kE (Nat.le_of_ble_eq_true rfl) (by simp[Value.cells]) ?_
  refine aN (cl_.aff _) (g:=(g3,.cells #[.int .i64 p.d,.int .i64 p.f,.int .i64 p.t,.slice A p.B.length c] 87 (0,0))::(g,.cells #[.slice A0 L.length c0] 76 (0,0))::(g1,.cells #[.int .i64 0,.int .i64 0,.int .i64 0,.slice none 0 0] 87 (0,0))::(m++(hb++h1))) (show List.Perm ((g3,.cells #[.int .i64 p.d,.int .i64 p.f,.int .i64 p.t,.slice A p.B.length c] 87 (0,0))::(h1++(g1,.cells #[.int .i64 0,.int .i64 0,.int .i64 0,.slice none 0 0] 87 (0,0))::(g,.cells #[.slice A0 L.length c0] 76 (0,0))::(m++hb))) _ from cE) ?_
  refine aX rfl ?_
  refine dS kE (by first|exact aR (j:=0) rfl rfl|exact aR (j:=1) rfl rfl|exact aR (j:=2) rfl rfl|exact aR (j:=3) rfl rfl|exact aR (j:=4) rfl rfl) ?_
  dsimp only
  rw[show IntKind.wrap .i64 ((k:Int)+1)=((k+1:Nat):Int)from cr (by omega)]
  refine ak m ((g3,.cells #[.int .i64 p.d,.int .i64 p.f,.int .i64 p.t,.slice A p.B.length c] 87 (0,0))::(g,.cells #[.slice A0 L.length c0] 76 (0,0))::(g1,.cells #[.int .i64 0,.int .i64 0,.int .i64 0,.slice none 0 0] 87 (0,0))::(hb++h1)) rV cE (fun hl=>F7 ho hk hpk.plain hbd) ?_
  rintro v m2 ⟨rfl,ho2⟩
  refine⟨fun _=>{A:=A0,n:=L.length - 1,c:=c0},rfl,?_⟩
  dsimp only
  refine aN (cl_.aff _) (List.perm_append_comm) ?_
  refine iW 1 rfl kE (Nat.le_of_ble_eq_true rfl) (by simp[Value.cells]) ?_
  refine bL (cs:=[.int .i64 p.d,.int .i64 p.f,.int .i64 p.t,.slice A p.B.length c]) (ag [{i:=p.d},{i:=p.f},{i:=p.t},{A:=A,n:=p.B.length,c:=c}]) (by kernel_rfl) (by kernel_rfl) (gZ (j:=0) rfl rfl) rfl ?_;dsimp only[ag]
  refine iW 2 rfl kE (Nat.le_of_ble_eq_true rfl) (by simp[Value.cells]) ?_
  refine u6 (cs:=[.int .i64 p.d,.int .i64 p.f,.int .i64 p.t,.slice A p.B.length c]) (ag [{i:=p.d},{i:=p.f},{i:=p.t},{A:=A,n:=p.B.length,c:=c}]) (by kernel_rfl) (by kernel_rfl) (gZ (j:=2) rfl rfl) rfl ?_;dsimp only[ag]
  have hlen:(L.eraseIdx k).length=L.length - 1:=by rw[List.length_eraseIdx,if_pos hk]
  refine aY (h1:=(h1++((g,.cells #[.slice A0 (L.length - 1) c0] 76 (0,0))::(m2++hb)))) (g:=[(g3,.cells #[.int .i64 p.d,.int .i64 p.f,.int .i64 p.t,.slice A p.B.length c] 87 (0,0)),(g1,.cells #[.int .i64 p.d,.int .i64 p.f,.int .i64 p.t,.slice A p.B.length c] 87 (0,0))]) ?_ ?_
  ·show List.Perm ((g3,.cells #[.int .i64 p.d,.int .i64 p.f,.int .i64 p.t,.slice A p.B.length c] 87 (0,0))::(g,.cells #[.slice A0 (L.length - 1) c0] 76 (0,0))::(g1,.cells #[.int .i64 p.d,.int .i64 p.f,.int .i64 p.t,.slice A p.B.length c] 87 (0,0))::((hb++h1)++m2)) _
   exact cE
  ·unfold M6
   rw[if_pos hin,Int.toNat_natCast]
   refine⟨p,A,c,h1,_,hLi,rfl,List.Perm.refl _,hoB,hbB,A0,c0,_,m2,hb,?_,by rw[hlen];exact ho2,?_,fun q hq=>hall q (List.mem_of_mem_eraseIdx hq)⟩
   ·rw[hlen]
   ·rw[List.eraseIdx_eq_take_drop_succ]
    exact(hpk.take k).append (hpk.drop (k+1))
 ·rename_i hin
  obtain⟨rfl,rfl⟩:=hq
  refine⟨ag [{i:=0},{i:=0},{i:=0},{A:=none,n:=0,c:=0},{b:=false}],rfl,?_⟩
  dsimp only[ag]
  refine bt dK fun g3 hg3 hI3=>?_
  refine iW 0 rfl kE (Nat.le_of_ble_eq_true rfl) (by simp[Value.cells]) ?_
  refine b7 rfl ?_
  refine bL (cs:=[.int .i64 0,.int .i64 0,.int .i64 0,.slice none 0 0]) (ag [{i:=0},{i:=0},{i:=0},{A:=none,n:=0,c:=0}]) (by kernel_rfl) (by kernel_rfl) (gZ (j:=0) rfl rfl) rfl ?_;dsimp only[ag]
  refine iW 1 rfl kE (Nat.le_of_ble_eq_true rfl) (by simp[Value.cells]) ?_
  refine u6 (cs:=[.int .i64 0,.int .i64 0,.int .i64 0,.slice none 0 0]) (ag [{i:=0},{i:=0},{i:=0},{A:=none,n:=0,c:=0}]) (by kernel_rfl) (by kernel_rfl) (gZ (j:=1) rfl rfl) rfl ?_;dsimp only[ag]
  refine d9 [_,_] rfl ?_
  unfold M6
  rw[if_neg hin]
  exact⟨rfl,A0,c0,cs,m,hb,List.Perm.refl _,ho,hpk,hall⟩
def ej(d x y:Int)(p:Pk):Bool:=p.d==d&&(p.f==x&&p.t==y||p.f==y&&p.t==x)
theorem Fr{I:Ctx}{p:Pk}{A:Option Addr}{n c:Nat}{d x y:Int}{g0 g1 g2:Nat}{arr0 arr1 arr2:Nat×Nat}(h0:I g0=some (.cells #[.int .i64 d] 3 arr0))(h1:I g1=some (.cells #[.int .i64 x] 3 arr1))(h2:I g2=some (.cells #[.int .i64 y] 3 arr2)):
  Fn Tryz.prog 89 #[p.v A n c,.pointer (some ⟨g0,0,none⟩),.pointer (some ⟨g1,0,none⟩),.pointer (some ⟨g2,0,none⟩)] I [] (fun v h'=>v= .bool (ej d x y p)∧h'=[]):=by
 refine xw _ _ _ _ _ _ _ _ _ ?_
 refine aP fun g hg hI=>?_
 have fin: ∀b:Bool,ej d x y p=b→holds Tryz.prog 89 I (cl_ fun v h'=>v= .bool (ej d x y p)∧h'=[]) (.done (.bool b)) [(g,.cells (p.v A n c).cells 87 (0,0))]:=fun b hb=>aC ⟨by rw[hb],rfl⟩
 have hc0:bh I [(g,.cells (p.v A n c).cells 87 (0,0))] ⟨g,0,none⟩ (.int .i64 p.d):=aR (j:=0) rfl rfl
 have hc1:bh I [(g,.cells (p.v A n c).cells 87 (0,0))] ⟨g,1,none⟩ (.int .i64 p.f):=aR (j:=0) rfl rfl
 have hc2:bh I [(g,.cells (p.v A n c).cells 87 (0,0))] ⟨g,2,none⟩ (.int .i64 p.t):=aR (j:=0) rfl rfl
 have hd:bh I [(g,.cells (p.v A n c).cells 87 (0,0))] ⟨g0,0,none⟩ (.int .i64 d):=uB h0 rfl
 have hx:bh I [(g,.cells (p.v A n c).cells 87 (0,0))] ⟨g1,0,none⟩ (.int .i64 x):=uB h1 rfl
 have hy:bh I [(g,.cells (p.v A n c).cells 87 (0,0))] ⟨g2,0,none⟩ (.int .i64 y):=uB h2 rfl
 refine aZ kE hc0 ?_
 refine aZ kE hd ?_
 refine ay (fun e1=>?_) (fun e1=>fin _ (by unfold ej;dsimp only at e1;rw[e1];rfl))
 refine aZ kE hc1 ?_
 refine aZ kE hx ?_
 refine ay (fun e2=>?_) (fun e2=>?_)
 ·refine aZ kE hc2 ?_
  refine aZ kE hy ?_
  refine ay (fun e3=>fin _ (by unfold ej;dsimp only at e1 e2 e3;rw[e1,e2,e3];rfl)) (fun e3=>?_)
  refine aZ kE hc1 ?_
  refine aZ kE hy ?_
  refine ay (fun e4=>?_) (fun e4=>fin _ (by unfold ej;dsimp only at e1 e2 e3 e4;rw[e1,e2,e3,e4];rfl))
  refine aZ kE hc2 ?_
  refine aZ kE hx ?_
  exact fin _ (by unfold ej;dsimp only at e1 e2 e3 e4⊢;rw[e1,e2,e3,e4];simp)
 ·refine aZ kE hc1 ?_
  refine aZ kE hy ?_
  refine ay (fun e4=>?_) (fun e4=>fin _ (by unfold ej;dsimp only at e1 e2 e4;rw[e1,e2,e4];rfl))
  refine aZ kE hc2 ?_
  refine aZ kE hx ?_
  exact fin _ (by unfold ej;dsimp only at e1 e2 e4⊢;rw[e1,e2,e4];simp)
def Cap(J:Ctx)(d x y:Int)(g0 g1 g2:Nat):Prop:=(∃f,J g0=some (.cells #[.int .i64 d] 3 f))∧(∃f,J g1=some (.cells #[.int .i64 x] 3 f))∧ ∃f,J g2=some (.cells #[.int .i64 y] 3 f)
theorem Cap.up{J J':Ctx}{d x y:Int}{g0 g1 g2:Nat}(h:Cap J d x y g0 g1 g2)(hs: ∀b o,J b=some o→J' b=some o):Cap J' d x y g0 g1 g2:=by
 obtain⟨⟨f0,h0⟩,⟨f1,h1⟩,⟨f2,h2⟩⟩:=h
 exact⟨⟨f0,hs _ _ h0⟩,⟨f1,hs _ _ h1⟩,⟨f2,hs _ _ h2⟩⟩
theorem Cap.spec{I:Ctx}{p:Pk}{A:Option Addr}{n c:Nat}{d x y:Int}{g0 g1 g2:Nat}(h:Cap I d x y g0 g1 g2):
  Fn Tryz.prog 89 #[p.v A n c,.pointer (some ⟨g0,0,none⟩),.pointer (some ⟨g1,0,none⟩),.pointer (some ⟨g2,0,none⟩)] I [] (fun v h'=>v= .bool (ej d x y p)∧h'=[]):=by
 obtain⟨⟨f0,h0⟩,⟨f1,h1⟩,⟨f2,h2⟩⟩:=h
 exact Fr h0 h1 h2
theorem Ku{J J':Ctx}{d x y:Int}{g0 g1 g2:Nat}(hcap:Cap J d x y g0 g1 g2){A:Option Addr}{c:Nat}{L:List Pk}{cs:List Value}(hrd:RdC J [] A cs)(hpk:nZ J' L cs)(hbd:L.length≤100000000000):
  ∀(k i:Nat) (u:Nat→Value) (h:Mem),i+k=L.length→(∀q p,q<i→L[q]? =some p→ej d x y p=false)→
  Wp Tryz.prog 108 cK (cO A L.length c g0 g1 g2 i u) J h (cl_ fun v h'=>v= .int .i64 (match L.findIdx? (ej d x y)with|some q=>(q:Int)|none=> -1)∧h'=[]):=by
 intro k
 induction k with
 |zero=>
  intro i u h hik hno
  refine iw _ _ _ _ _ _ _ _ ?_
  refine b7 (by simp;omega) ?_
  refine aC ⟨?_,rfl⟩
  have:L.findIdx? (ej d x y)=none:=by
   rw[List.findIdx?_eq_none_iff]
   intro p hp
   obtain⟨q,hq⟩:=List.getElem?_of_mem hp
   exact hno q p (by have:=(List.getElem?_eq_some_iff.1 hq).1;omega) hq
  rw[this]
 |succ k ih=>
  intro i u h hik hno
  have hi:i<L.length:=by omega
  obtain⟨p,hp⟩: ∃p,L[i]? =some p:=⟨_,List.getElem?_eq_getElem hi⟩
  obtain⟨c4,⟨A',n',c',rfl,hB⟩,hc4⟩:=hpk.get hp
  obtain⟨a,rfl,hcells⟩:=hrd (fun he=>by have:=hc4 0 _ rfl;rw[he]at this;simp at this)
  refine iw _ _ _ _ _ _ _ _ ?_
  refine aX (by simp;omega) ?_
  refine aI a rfl (sz:=4) kE (by omega) (by omega) rfl ?_
  dsimp only
  rw[Int.toNat_natCast]
  refine bL (cs:=[.int .i64 p.d,.int .i64 p.f,.int .i64 p.t,.slice A' n' c']) (ag [{i:=p.d},{i:=p.f},{i:=p.t},{A:=A',n:=n',c:=c'}]) (by kernel_rfl) (by kernel_rfl) ((hcells.sub Sub.self).at _ hc4) rfl ?_;dsimp only[ag]
  refine aA (fun _=>{b:=ej d x y p}) nT (fun hl=>(hcap.up (Sub.self.up hl)).spec) rfl ?_
  refine ay (fun hb=>?_) (fun hb=>?_)
  ·refine aC ⟨?_,rfl⟩
   have:L.findIdx? (ej d x y)=some i:=by
    rw[List.findIdx?_eq_some_iff_getElem]
    refine⟨hi,?_,fun j hji=>?_⟩
    ·have:=(List.getElem?_eq_some_iff.1 hp).2
     rw[this];exact hb
    ·have:=hno j _ hji (List.getElem?_eq_getElem (by omega))
     simp[this]
   rw[this]
  ·refine aj fun _ hl=>?_
   rw[dT (by omega)]
   refine ih (i+1) _ h (by omega) ?_
   intro q p' hq hp'
   by_cases hqi:q=i
   ·subst hqi
    rw[hp]at hp'
    injection hp' with hp'
    subst hp'
    exact hb
   ·exact hno q p' (by omega) hp'
theorem KB{J J':Ctx}{d x y:Int}{g0 g1 g2:Nat}(hcap:Cap J d x y g0 g1 g2){A:Option Addr}{c:Nat}{L:List Pk}{cs:List Value}(hrd:RdC J [] A cs)(hpk:nZ J' L cs)(hbd:L.length≤100000000000):
  Fn Tryz.prog 108 #[.slice A L.length c,.func (.func 89) #[] #[.pointer (some ⟨g0,0,none⟩),.pointer (some ⟨g1,0,none⟩),.pointer (some ⟨g2,0,none⟩)]] J []
   (fun v h'=>v= .int .i64 (match L.findIdx? (ej d x y)with|some q=>(q:Int)|none=> -1)∧h'=[]):=by
 refine p8 _ _ _ _ _ _ ?_
 refine aj fun _ hl=>?_
 exact Ku hcap hrd hpk hbd L.length 0 _ [] (by omega) (by omega)
theorem Su{c1 mid cp c3:List Value}{i:Nat}(h1:c1.length=i*4)(h2:cp.length=4):wrL (c1++mid++(cp++c3)) (i*4) cp=c1++cp++(mid++cp).drop 4++c3:=by
 unfold wrL
 rw[List.append_assoc c1 mid,List.take_append_of_le_length (by omega),List.take_of_length_le (by omega),List.append_assoc,List.append_assoc (c1++cp),List.append_assoc c1 cp]
 congr 1
 congr 1
 rw[List.drop_append,List.drop_of_length_le (l:=c1) (by omega),show i*4+cp.length - c1.length=4 by omega,←List.append_assoc mid,List.drop_append_of_le_length (by simp;omega)]
 rfl
theorem MJ{I J':Ctx}{d x y:Int}{g0 g1 g2:Nat}(hcap:Cap I d x y g0 g1 g2){a:Addr}{c:Nat}{L:List Pk}(hbd:L.length≤100000000000):
  ∀(k i j:Nat) (u:Nat→Value) (h hr m:Mem) (L':List Pk) (c1 mid c2:List Value),j+k=L.length→i<j→L'=(L.take j).filter (fun p=> !ej d x y p)→i=L'.length→h.Perm (m++hr)→Own 87 4 (some a) L.length c (c1++mid++c2) m→
   nZ J' L' c1→nZ J' (L.drop j) c2→
  Wp Tryz.prog 88 bG (bH (some a) L.length c g0 g1 g2 i j u) I h
   (cl_ fun v h'=> ∃cs',v= .slice (some a) (L.filter (fun p=> !ej d x y p)).length c∧Own 87 4 (some a) (L.filter (fun p=> !ej d x y p)).length c cs' h'∧nZ J' (L.filter (fun p=> !ej d x y p)) cs'):=by
 intro k
 induction k with
 |zero=>
  intro i j u h hr m L' c1 mid c2 hjk hij hL' hi hp ho h1 h2
  have hj:j=L.length:=by omega
  subst hj
  rw[List.take_length]at hL'
  have hll:L'.length≤L.length:=by rw[hL'];exact List.length_filter_le ..
  have l1:=h1.len
  have lo:=ho.1
  have lc:=ho.2.1
  refine ib _ _ _ _ _ _ _ _ _ ?_
  refine b7 (by simp) ?_
  refine uK (e:=87) (sz:=4) i L.length c kE kE rfl rfl rfl (by simp) (by omega) (by omega) (by omega) ?_
  dsimp only
  refine NU qI (o:=i*4) (cl_.aff _) hp ho (.inr ⟨a,rfl,B0 (by omega)⟩) (by omega) (by simp[Value.cells]) ?_
  intro m2 ho3
  refine uK (e:=87) (sz:=4) 0 i c kE kE rfl rfl rfl (by simp) (by omega) (by omega) (by omega) ?_
  simp only[nB,Nat.sub_zero]
  have ho4:=ho3.cut (i:=i) (by omega)
  rw[JO (by omega),List.append_assoc,List.take_append_of_le_length (by omega),List.take_of_length_le (by omega)]at ho4
  subst hi
  subst hL'
  exact aY (h1:=m2) (g:=hr) (List.Perm.refl _) ⟨c1,rfl,ho4,h1⟩
 |succ k ih=>
  intro i j u h hr m L' c1 mid c2 hjk hij hL' hi hp ho h1 h2
  have hj:j<L.length:=by omega
  have l1:=h1.len
  have l2:=h2.len
  have lo:=ho.1
  have lc:=ho.2.1
  simp only[List.length_append,List.length_drop]at lo l2
  have lm:mid.length=(j - i)*4:=by omega
  have hd:L.drop j=L[j]::L.drop (j+1):=List.drop_eq_getElem_cons hj
  rw[hd]at h2
  obtain⟨cp,c3,rfl,hcp,h3⟩:=h2
  have hcpl:=hcp.len
  have htk:L.take (j+1)=L.take j++[L[j]]:=by rw[List.take_succ_eq_append_getElem hj]
  obtain⟨A',n',c',rfl,hB⟩:=hcp
  refine ib _ _ _ _ _ _ _ _ _ ?_
  refine aX (by simp;omega) ?_
  refine aI a rfl (sz:=4) kE (by omega) (by omega) rfl ?_
  dsimp only
  rw[Int.toNat_natCast]
  refine bL (cs:=[.int .i64 L[j].d,.int .i64 L[j].f,.int .i64 L[j].t,.slice A' n' c']) (ag [{i:=L[j].d},{i:=L[j].f},{i:=L[j].t},{A:=A',n:=n',c:=c'}]) (by kernel_rfl) (by kernel_rfl) ((ho.cells hp).at (j*4) (fun q v hq=>by rw[List.getElem?_append_right (by simp;omega),show j*4+q - (c1++mid).length=q by simp;omega,List.getElem?_append_left (List.getElem?_eq_some_iff.1 hq).1];exact hq)) rfl ?_;dsimp only[ag]
  refine bt dK fun g4 hg4 hI4=>?_
  refine iW 0 rfl kE (Nat.le_of_ble_eq_true rfl) (by simp[Value.cells]) ?_
  refine bL (cs:=[.int .i64 L[j].d,.int .i64 L[j].f,.int .i64 L[j].t,.slice A' n' c']) (ag [{i:=L[j].d},{i:=L[j].f},{i:=L[j].t},{A:=A',n:=n',c:=c'}]) (by kernel_rfl) (by kernel_rfl) (gZ (j:=0) rfl rfl) rfl ?_;dsimp only[ag]
  refine aA (fun _=>{b:=ej d x y L[j]}) nT (fun hl=>(hcap.up (Sub.self.up hl)).spec) rfl ?_
  refine ay (fun hb=>?_) (fun hb=>?_)
  ·have hb:ej d x y L[j]=false:=by simpa using hb
   refine bL (cs:=[.int .i64 L[j].d,.int .i64 L[j].f,.int .i64 L[j].t,.slice A' n' c']) (ag [{i:=L[j].d},{i:=L[j].f},{i:=L[j].t},{A:=A',n:=n',c:=c'}]) (by kernel_rfl) (by kernel_rfl) (gZ (j:=0) rfl rfl) rfl ?_;dsimp only[ag]
   refine aI a rfl (sz:=4) kE (by omega) (by omega) rfl ?_
   dsimp only
   rw[Int.toNat_natCast]
   refine iH (i*4) (m:=m) (hr:=(g4,.cells #[.int .i64 L[j].d,.int .i64 L[j].f,.int .i64 L[j].t,.slice A' n' c'] 87 (0,0))::hr) (cl_.aff _) ?_ ho rfl kE (by simp[Value.cells];omega) (by simp[Value.cells]) ?_
   ·exact(hp.cons _).trans (List.perm_middle.symm)
   intro m' ho'
   refine aj fun _ hl=>?_
   rw[dT (by omega),dT (by omega)]
   refine ih (i+1) (j+1) _ _ ((g4,.cells #[.int .i64 L[j].d,.int .i64 L[j].f,.int .i64 L[j].t,.slice A' n' c'] 87 (0,0))::hr) m' (L'++[L[j]]) (c1++[.int .i64 L[j].d,.int .i64 L[j].f,.int .i64 L[j].t,.slice A' n' c']) (List.drop 4 (mid++[.int .i64 L[j].d,.int .i64 L[j].f,.int .i64 L[j].t,.slice A' n' c'])) c3 (by omega) (by omega) ?_ (by simp[hi]) (List.Perm.refl _) ?_ (h1.append ⟨_,[],by simp,⟨A',n',c',rfl,hB⟩,rfl⟩) h3
   ·rw[htk,List.filter_append,hL']
    simp[hb]
   ·have hw:=Su (c1:=c1) (mid:=mid) (cp:=[.int .i64 L[j].d,.int .i64 L[j].f,.int .i64 L[j].t,.slice A' n' c']) (c3:=c3) (i:=i) (by omega) rfl
    rw[←hw]
    exact ho'
  ·have hb:ej d x y L[j]=true:=by simpa using hb
   refine aj fun _ hl=>?_
   rw[dT (by omega)]
   refine ih i (j+1) _ _ ((g4,.cells #[.int .i64 L[j].d,.int .i64 L[j].f,.int .i64 L[j].t,.slice A' n' c'] 87 (0,0))::hr) m L' c1 (mid++[.int .i64 L[j].d,.int .i64 L[j].f,.int .i64 L[j].t,.slice A' n' c']) c3 (by omega) (by omega) ?_ hi ?_ ?_ h1 h3
   ·rw[htk,List.filter_append,hL']
    simp[hb]
   ·exact(hp.cons _).trans (List.perm_middle.symm)
   ·simpa using ho
abbrev left(d x y:Int)(L:List Pk):List Pk:=L.filter (fun p=> !ej d x y p)
theorem Pp{d x y:Int}{L:List Pk}(h:L.findIdx? (ej d x y)=none):left d x y L=L:=by
 rw[List.findIdx?_eq_none_iff]at h
 rw[List.filter_eq_self]
 intro p hp
 simp[h p hp]
theorem PA{d x y:Int}{L:List Pk}{i:Nat}(h:L.findIdx? (ej d x y)=some i): ∃hi:i<L.length,ej d x y L[i]=true∧left d x y (L.take i)=L.take i:=by
 rw[List.findIdx?_eq_some_iff_getElem]at h
 obtain⟨hi,h1,h2⟩:=h
 refine⟨hi,h1,?_⟩
 rw[List.filter_eq_self]
 intro p hp
 obtain⟨j,hj,rfl⟩:=List.getElem_of_mem hp
 rw[List.length_take]at hj
 rw[List.getElem_take]
 have:=h2 j (by omega)
 simpa using this
theorem LK{I J':Ctx}{d x y:Int}{g0 g1 g2:Nat}(hcap:Cap I d x y g0 g1 g2){A:Option Addr}{c:Nat}{L:List Pk}{cs:List Value}{m:Mem}(hbd:L.length≤100000000000)(ho:Own 87 4 A L.length c cs m)(hpk:nZ J' L cs):
  Fn Tryz.prog 88 #[.slice A L.length c,.func (.func 89) #[] #[.pointer (some ⟨g0,0,none⟩),.pointer (some ⟨g1,0,none⟩),.pointer (some ⟨g2,0,none⟩)]] I m
   (fun v h'=> ∃cs',v= .slice A (left d x y L).length c∧Own 87 4 A (left d x y L).length c cs' h'∧nZ J' (left d x y L) cs'):=by
 refine pb _ _ _ _ _ _ ?_
 refine aA (fun _=>{i:=match L.findIdx? (ej d x y)with|some q=>(q:Int)|none=> -1}) oS (fun hl=>KB (hcap.up (Sub.self.up hl)) ((ho.rd (fun x hx=>hx)).all hl) hpk hbd) rfl ?_
 cases hf:L.findIdx? (ej d x y)with
 |none=>
  refine aX rfl ?_
  refine aY (h1:=m) (g:=[]) (by simp) ?_
  rw[Pp hf]
  exact⟨cs,rfl,ho,hpk⟩
 |some i=>
  obtain⟨hi,h1,h2⟩:=PA hf
  refine b7 (by simp) ?_
  refine aj fun _ hl=>?_
  dsimp only
  rw[dT (by omega)]
  obtain⟨a,rfl⟩: ∃a,A=some a:=by
   cases A with
   |none=>have:=ho.some_of rfl;omega
   |some a=>exact⟨a,rfl⟩
  have hlen:=ho.1
  refine MJ hcap hbd (L.length - (i+1)) i (i+1) _ m [] m (L.take i) (cs.take (i*4)) ((cs.drop (i*4)).take 4) (cs.drop ((i+1)*4)) (by omega) (by omega) ?_ (by simp;omega) (by simp) ?_ (hpk.take i) (hpk.drop (i+1))
  ·rw[List.take_succ_eq_append_getElem hi,List.filter_append]
   refine Eq.trans h2.symm ?_
   simp[h1]
  ·have:cs.take (i*4)++(cs.drop (i*4)).take 4++cs.drop ((i+1)*4)=cs:=by
    rw[List.append_assoc,show(i+1)*4=i*4+4 by omega,←List.drop_drop,List.take_append_drop,List.take_append_drop]
   rw[this]
   exact ho
theorem Nz{I:Ctx}{g:Nat}{L:List Pk}{h:Mem}{d x y:Int}(hrep:iN 76 g L h)(hbd:L.length≤100000000000):
  Fn Tryz.prog 69 #[.pointer (some ⟨g,0,none⟩),.int .i64 d,.int .i64 x,.int .i64 y] I h (fun v h'=>v= .int .i64 ((L.length - (left d x y L).length:Nat):Int)∧iN 76 g (left d x y L) h'):=by
 obtain⟨A0,c0,cs,m,hb,hp,ho,hpk,hall⟩:=hrep
 refine Fn.perm ?_ hp
 refine DI _ _ _ _ ?_
 refine aP fun g0 hg0 hI0=>?_
 refine aP fun g1 hg1 hI1=>?_
 refine aP fun g2 hg2 hI2=>?_
 refine dS kE (by first|exact aR (j:=0) rfl rfl|exact aR (j:=1) rfl rfl|exact aR (j:=2) rfl rfl|exact aR (j:=3) rfl rfl|exact aR (j:=4) rfl rfl) ?_
 refine dS kE (by first|exact aR (j:=0) rfl rfl|exact aR (j:=1) rfl rfl|exact aR (j:=2) rfl rfl|exact aR (j:=3) rfl rfl|exact aR (j:=4) rfl rfl) ?_
 dsimp only
 refine ak m ((g,.cells #[.slice A0 L.length c0] 76 (0,0))::(g2,.cells (Value.int .i64 y).cells 3 (0,0))::(g1,.cells (Value.int .i64 x).cells 3 (0,0))::(g0,.cells (Value.int .i64 d).cells 3 (0,0))::hb) nO ?_ (fun hl=>?_)
  (Qc:=fun v h'=> ∃cs',v= .slice A0 (left d x y L).length c0∧Own 87 4 A0 (left d x y L).length c0 cs' h'∧nZ (plus noC hb) (left d x y L) cs') ?_
 ·exact cE
 ·have hl':dJ I (m++((g,.cells #[.slice A0 L.length c0] 76 (0,0))::(g2,.cells (Value.int .i64 y).cells 3 (0,0))::(g1,.cells (Value.int .i64 x).cells 3 (0,0))::(g0,.cells (Value.int .i64 d).cells 3 (0,0))::hb)):=hl.perm cE
  have hl2:=(hl'.perm List.perm_append_comm).left
  have hcap:Cap (plus I ((g,.cells #[.slice A0 L.length c0] 76 (0,0))::(g2,.cells (Value.int .i64 y).cells 3 (0,0))::(g1,.cells (Value.int .i64 x).cells 3 (0,0))::(g0,.cells (Value.int .i64 d).cells 3 (0,0))::hb)) d x y g0 g1 g2:=
   ⟨⟨(0,0),aF hl2 (.inl (by simp[Value.cells]))⟩,⟨(0,0),aF hl2 (.inl (by simp[Value.cells]))⟩,⟨(0,0),aF hl2 (.inl (by simp[Value.cells]))⟩⟩
  exact LK hcap hbd ho hpk
 ·rintro v h1 ⟨cs',rfl,ho',hpk'⟩
  refine⟨fun _=>{A:=A0,n:=(left d x y L).length,c:=c0},rfl,?_⟩
  dsimp only
  refine aN (cl_.aff _) (List.perm_append_comm) ?_
  refine iW 0 rfl kE (Nat.le_of_ble_eq_true rfl) (by simp[Value.cells]) ?_
  refine dS kE (by first|exact aR (j:=0) rfl rfl|exact aR (j:=1) rfl rfl|exact aR (j:=2) rfl rfl|exact aR (j:=3) rfl rfl|exact aR (j:=4) rfl rfl) ?_
  dsimp only
  have hle:(left d x y L).length≤L.length:=List.length_filter_le ..
  refine aY (h1:=(g,.cells #[.slice A0 (left d x y L).length c0] 76 (0,0))::(h1++hb)) (g:=[(g2,.cells (Value.int .i64 y).cells 3 (0,0)),(g1,.cells (Value.int .i64 x).cells 3 (0,0)),(g0,.cells (Value.int .i64 d).cells 3 (0,0))]) ?_ ⟨?_,A0,c0,cs',h1,hb,List.Perm.refl _,ho',hpk',fun q hq=>hall q ((List.mem_filter.1 hq).1)⟩
  ·show List.Perm ((g,.cells #[.slice A0 (left d x y L).length c0] 76 (0,0))::(g2,.cells (Value.int .i64 y).cells 3 (0,0))::(g1,.cells (Value.int .i64 x).cells 3 (0,0))::(g0,.cells (Value.int .i64 d).cells 3 (0,0))::(hb++h1)) _
   exact cE
  ·rw[show(L.length:Int) - ((left d x y L).length:Int)=((L.length - (left d x y L).length:Nat):Int) by omega,cr (by omega)]
theorem Mk{I:Ctx}:Fn Tryz.prog 18 #[] I [] (fun v h'=> ∃g,v= .pointer (some ⟨g,0,none⟩)∧iN 76 g [] h'):=by
 refine Kd ?_
 refine aP fun g hg hI=>?_
 exact d9 [] rfl ⟨g,rfl,none,0,[],[],[],List.Perm.refl _,Own.nil _ _,rfl,by simp⟩
def dbl(L:List Pk)(i:Int):List Pk:=if 0≤i∧i<(L.length:Int)then L++(L[i.toNat]?).toList else L
def inL(L:List Pk)(i:Int):Bool:=decide (0≤i∧i<(L.length:Int))
theorem G1{I:Ctx}{g:Nat}{L:List Pk}{h:Mem}{i:Int}(hrep:iN 76 g L h)(hbd:L.length≤100000000000):
  Fn Tryz.prog 46 #[.pointer (some ⟨g,0,none⟩),.int .i64 i] I h (fun v h'=>v= .bool (inL L i)∧iN 76 g (dbl L i) h'):=by
 refine zN _ _ ?_
 refine ak [] _ ws (List.Perm.refl _) (fun hl=>JQ (iN.read hrep hl (fun x hx=>hx))) ?_
 intro v h1 hq
 unfold AtQ at hq
 split at hq
 ·rename_i hin
  obtain⟨p,A,c,hLi,rfl,hoB,hbB⟩:=hq
  refine⟨ag [{i:=p.d},{i:=p.f},{i:=p.t},{A:=A,n:=p.B.length,c:=c},{b:=true}],rfl,?_⟩
  dsimp only[ag]
  refine bt dK fun g3 hg3 hI3=>?_
  refine iW 0 rfl kE (Nat.le_of_ble_eq_true rfl) (by simp[Value.cells]) ?_
  refine aX rfl ?_
  refine bL (cs:=[.int .i64 p.d,.int .i64 p.f,.int .i64 p.t,.slice A p.B.length c]) (ag [{i:=p.d},{i:=p.f},{i:=p.t},{A:=A,n:=p.B.length,c:=c}]) (by kernel_rfl) (by kernel_rfl) (gZ (j:=0) rfl rfl) rfl ?_;dsimp only[ag]
  refine ak h ((g3,.cells #[.int .i64 p.d,.int .i64 p.f,.int .i64 p.t,.slice A p.B.length c] 87 (0,0))::h1) sK (show List.Perm ((g3,.cells #[.int .i64 p.d,.int .i64 p.f,.int .i64 p.t,.slice A p.B.length c] 87 (0,0))::(h1++h)) _ from cE) (fun hl=>?_) (Qc:=fun v h'=>v=undef∧iN 76 g (L++[p]) h') ?_
  ·have hl2:dJ I ((g3,.cells #[.int .i64 p.d,.int .i64 p.f,.int .i64 p.t,.slice A p.B.length c] 87 (0,0))::h1):=by
    have h2:dJ I (((g3,.cells #[.int .i64 p.d,.int .i64 p.f,.int .i64 p.t,.slice A p.B.length c] 87 (0,0))::h1)++h):=hl
    exact h2.left
   exact Ew hrep (hoB.rdb hl2 (fun x hx=>List.mem_cons_of_mem _ hx)) hbB hbd
  ·rintro v h2 ⟨rfl,hrep2⟩
   refine⟨fun _=>{},rfl,?_⟩
   refine aY (h1:=h2) (g:=(g3,.cells #[.int .i64 p.d,.int .i64 p.f,.int .i64 p.t,.slice A p.B.length c] 87 (0,0))::h1) (List.Perm.refl _) ⟨?_,?_⟩
   ·unfold inL;simp only[decide_eq_true hin]
   ·unfold dbl;rw[if_pos hin,hLi];exact hrep2
 ·rename_i hin
  obtain⟨rfl,rfl⟩:=hq
  refine⟨ag [{i:=0},{i:=0},{i:=0},{A:=none,n:=0,c:=0},{b:=false}],rfl,?_⟩
  dsimp only[ag]
  refine bt dK fun g3 hg3 hI3=>?_
  refine iW 0 rfl kE (Nat.le_of_ble_eq_true rfl) (by simp[Value.cells]) ?_
  refine b7 rfl ?_
  refine d9 [_] rfl ?_
  unfold inL dbl
  rw[if_neg hin]
  exact⟨by simp only[decide_eq_false hin],hrep⟩
structure Nd where
 l:List Bool
 n:Int
 h:Bool
abbrev gR(T:List Nd):List (List Bool):=T.map (·.l)
def pos:List Nd→List Bool→Option Nat
 |[],_=>none
 |x::T,l=>if x.l=l then some 0 else(pos T l).map (· +1)
def ix(T:List Nd)(l:List Bool):Nat:=(pos T l).getD 0
def mh:List Nd→List Bool→Option Int
 |[],_=>none
 |x::T,l=>if x.l=l then(if x.h then some x.n else none)else mh T l
def qZ(T:List Nd)(l:List Bool)(n:Int)(h:Bool):List Nd:=T.map fun x=>if x.l=l then⟨l,n,h⟩else x
structure va (T:List Nd):Prop where
 root:T[0]?.map (·.l)=some []
 nd:(gR T).Nodup
 pre: ∀l b,l++[b]∈gR T→l∈gR T
 len: ∀l∈gR T,l.length≤32
theorem JH: ∀{T:List Nd} {l:List Bool} {i:Nat},pos T l=some i→ ∃x,T[i]? =some x∧x.l=l
 |[],_,_,h=>by cases h
 |x::T,l,i,h=>by
  rw[pos]at h
  split at h
  ·injection h with h;subst h;exact⟨x,rfl,by assumption⟩
  ·obtain⟨j,hj,rfl⟩:=Option.map_eq_some_iff.1 h
   obtain⟨y,h1,h2⟩:=JH hj
   exact⟨y,by simpa using h1,h2⟩
theorem FS{T:List Nd}{l:List Bool}:pos T l=none↔l∉gR T:=by
 induction T with
 |nil=>simp[pos]
 |cons x T ih=>
  rw[pos,gR,List.map_cons,List.mem_cons,not_or]
  split
  ·rename_i h;simp[h.symm]
  ·rename_i h
   rw[Option.map_eq_none_iff,ih]
   exact⟨fun hh=>⟨fun e=>h e.symm,hh⟩,fun hh=>hh.2⟩
theorem rX{T:List Nd}{l:List Bool}(h:l∈gR T): ∃i x,pos T l=some i∧T[i]? =some x∧x.l=l:=by
 cases hp:pos T l with
 |none=>exact absurd h (FS.1 hp)
 |some i=>obtain⟨x,h1,h2⟩:=JH hp;exact⟨i,x,rfl,h1,h2⟩
theorem Ol{T:List Nd}{y:Nd}{l:List Bool}:pos (T++[y]) l=match pos T l with|some i=>some i|none=>if y.l=l then some T.length else none:=by
 induction T with
 |nil=>simp[pos]
 |cons x T ih=>
  rw[List.cons_append,pos,pos,ih]
  by_cases h:x.l=l
  ·rw[if_pos h,if_pos h]
  ·rw[if_neg h,if_neg h]
   cases pos T l with
   |some i=>rfl
   |none=>by_cases h2:y.l=l<;>simp[h2]
theorem MP{f:Nd→Nd}(hf: ∀x,(f x).l=x.l){T:List Nd}{l:List Bool}:pos (T.map f) l=pos T l:=by
 induction T with
 |nil=>rfl
 |cons x T ih=>rw[List.map_cons,pos,pos,ih,hf]
theorem ME(T:List Nd)(l:List Bool)(n:Int)(h:Bool):gR (qZ T l n h)=gR T:=by
 unfold gR qZ
 rw[List.map_map]
 refine List.map_congr_left fun x _=>?_
 show(if x.l=l then(⟨l,n,h⟩:Nd)else x).l=x.l
 split
 ·rename_i e;exact e.symm
 ·rfl
theorem Ob{T:List Nd}{l l':List Bool}{n:Int}{h:Bool}:pos (qZ T l n h) l'=pos T l':=by
 refine MP fun x=>?_
 split
 ·rename_i e;exact e.symm
 ·rfl
theorem LV{T:List Nd}{l l':List Bool}{n:Int}{h:Bool}:ix (qZ T l n h) l'=ix T l':=by unfold ix;rw[Ob]
theorem FD{T:List Nd}(h:va T)(l:List Bool)(n:Int)(b:Bool):va (qZ T l n b):=by
 have e:=ME T l n b
 refine⟨?_,e▸h.nd,fun l' b'=>by rw[e];exact h.pre l' b',by rw[e];exact h.len⟩
 have hr:=h.root
 unfold qZ
 rw[List.getElem?_map,Option.map_map]
 cases hT:T[0]? with
 |none=>rw[hT]at hr;cases hr
 |some x=>
  rw[hT]at hr
  simp only[Option.map_some,Option.some.injEq,Function.comp_apply]at hr⊢
  split
  ·rename_i e;rw[←hr,e]
  ·exact hr
theorem Fe{T:List Nd}{l:List Bool}{i:Nat}{x:Nd}(hp:pos T l=some i)(hx:T[i]? =some x):mh T l=if x.h then some x.n else none:=by
 induction T generalizing i with
 |nil=>cases hp
 |cons y T ih=>
  rw[pos]at hp
  rw[mh]
  split at hp
  ·rename_i h;injection hp with hp;subst hp;rw[if_pos h];simp at hx;rw[hx]
  ·rename_i h
   obtain⟨j,hj,rfl⟩:=Option.map_eq_some_iff.1 hp
   rw[if_neg h]
   exact ih hj (by simpa using hx)
theorem Ci{T:List Nd}{l:List Bool}(h:l∉gR T):mh T l=none:=by
 induction T with
 |nil=>rfl
 |cons y T ih=>
  rw[gR,List.map_cons,List.mem_cons,not_or]at h
  rw[mh,if_neg (fun e=>h.1 e.symm)]
  exact ih h.2
theorem Mt{T:List Nd}{l l':List Bool}:mh (T++[⟨l',0,false⟩]) l=mh T l:=by
 induction T with
 |nil=>simp[mh]
 |cons y T ih=>rw[List.cons_append,mh,mh,ih]
theorem ER{T:List Nd}{l l':List Bool}{n:Int}{h:Bool}(hl:l∈gR T):mh (qZ T l n h) l'=if l'=l then(if h then some n else none)else mh T l':=by
 induction T with
 |nil=>cases hl
 |cons y T ih=>
  rw[gR,List.map_cons,List.mem_cons]at hl
  show mh ((if y.l=l then(⟨l,n,h⟩:Nd)else y)::qZ T l n h) l'=_
  rw[mh]
  by_cases hyl:y.l=l
  ·have e:=hyl
   rw[if_pos e]
   by_cases e2:l'=l
   ·rw[if_pos e2.symm,if_pos e2]
   ·have hne: ¬l=l':=fun e=>e2 e.symm
    rw[if_neg hne,if_neg e2,mh,if_neg (by rw[e];exact hne)]
    by_cases hm:l∈gR T
    ·rw[ih hm,if_neg e2]
    ·have:qZ T l n h=T:=by
      unfold qZ
      refine(List.map_congr_left fun x hx=>?_).trans (List.map_id _)
      have hne: ¬x.l=l:=fun e5=>hm (e5▸List.mem_map_of_mem (f:=(·.l)) hx)
      rw[if_neg hne]
      rfl
     rw[this]
  ·rw[if_neg hyl]
   have hm:=hl.resolve_left fun e2=>hyl e2.symm
   by_cases e3:y.l=l'
   ·have h4: ¬l'=l:=fun e4=>hyl (e3.trans e4)
    rw[if_pos e3,if_neg h4,mh,if_pos e3]
   ·rw[if_neg e3,ih hm,mh,if_neg e3]
theorem Hq{T:List Nd}(h:va T){l:List Bool}(hl:l∈gR T)(h0:l≠[]):0<ix T l:=by
 obtain⟨i,x,hp,hx,rfl⟩:=rX hl
 unfold ix
 rw[hp]
 show 0<i
 refine Nat.pos_of_ne_zero fun e=>h0 ?_
 subst e
 have:=h.root
 rw[hx]at this
 simpa using this
theorem ua{T:List Nd}{l:List Bool}(hl:l∉gR T):ix T l=0:=by unfold ix;rw[FS.2 hl];rfl
theorem LM{T:List Nd}(h:va T):ix T []=0:=by
 have:=h.root
 cases T with
 |nil=>cases this
 |cons x T=>simp at this;unfold ix;rw[pos,if_pos this];rfl
theorem tW{T:List Nd}(h:va T):[]∈gR T:=by
 have:=h.root
 cases T with
 |nil=>cases this
 |cons x T=>simp at this;rw[gR,List.map_cons,this];exact List.mem_cons_self
theorem FO{T:List Nd}(h:va T){l:List Bool}(hl:l∈gR T): ∀i,l.take i∈gR T:=by
 have key: ∀(n:Nat) (l:List Bool),l.length=n→l∈gR T→ ∀i,l.take i∈gR T:=by
  intro n
  induction n with
  |zero=>intro l h0 hl i;rw[List.eq_nil_of_length_eq_zero h0];simpa using tW h
  |succ n ih=>
   intro l h0 hl i
   by_cases hi:l.length≤i
   ·rw[List.take_of_length_le hi];exact hl
   ·have e:l.take n++[l[n]'(by omega)]=l:=by rw[List.take_append_getElem,List.take_of_length_le (by omega)]
    have hp:=h.pre (l.take n) (l[n]'(by omega)) (by rw[e];exact hl)
    have:=ih (l.take n) (by rw[List.length_take];omega) hp i
    rwa[List.take_take,Nat.min_eq_left (by omega)]at this
 exact key _ l rfl hl
def zV(T:List Nd)(l:List Bool):List Nd:=if l∈gR T then T else T++[⟨l,0,false⟩]
def Bm(bits:List Bool):Nat→Nat→List Nd→List Nd
 |_,0,T=>T
 |i,n+1,T=>Bm bits (i+1) n (zV T (bits.take (i+1)))
theorem tN{bits:List Bool}{i:Nat}(h:i<bits.length):bits.take (i+1)=bits.take i++[bits[i]]:=(List.take_append_getElem h).symm
theorem wW{T:List Nd}(h:va T){l:List Bool}{b:Bool}(hl:l∈gR T)(h32:(l++[b]).length≤32):va (zV T (l++[b]))∧(∀l',mh (zV T (l++[b])) l'=mh T l')∧l++[b]∈gR (zV T (l++[b])):=by
 unfold zV
 split
 ·exact⟨h,fun _=>rfl,by assumption⟩
 ·rename_i hn
  have e:gR (T++[⟨l++[b],0,false⟩])=gR T++[l++[b]]:=by simp[gR]
  refine⟨⟨?_,?_,?_,?_⟩,fun _=>Mt,by rw[e];simp⟩
  ·have:=h.root
   cases T with
   |nil=>cases this
   |cons x T=>exact this
  ·rw[e,List.nodup_append]
   exact⟨h.nd,by simp,fun a ha c hc=>by rw[List.mem_singleton]at hc;subst hc;exact fun e=>hn (e▸ha)⟩
  ·intro l' b' hm
   rw[e,List.mem_append]at hm⊢
   rcases hm with hm|hm
   ·exact .inl (h.pre _ _ hm)
   ·rw[List.mem_singleton]at hm
    obtain⟨rfl,_⟩:=List.append_inj' hm rfl
    exact .inl hl
  ·intro l' hm
   rw[e,List.mem_append]at hm
   rcases hm with hm|hm
   ·exact h.len _ hm
   ·rw[List.mem_singleton]at hm;subst hm;exact h32
theorem w7{bits:List Bool}(h32:bits.length≤32): ∀{n i:Nat} {T:List Nd},va T→i+n=bits.length→bits.take i∈gR T→va (Bm bits i n T)∧(∀l',mh (Bm bits i n T) l'=mh T l')∧bits∈gR (Bm bits i n T)
 |0,i,T,h,hi,hm=>⟨h,fun _=>rfl,by rwa[List.take_of_length_le (by omega)]at hm⟩
 |n+1,i,T,h,hi,hm=>by
  have hs:=tN (bits:=bits) (i:=i) (by omega)
  obtain⟨a,b,c⟩:=wW h hm (b:=bits[i]) (by rw[←hs,List.length_take];omega)
  rw[←hs]at a b c
  obtain⟨d,e,f⟩:=w7 h32 (n:=n) (i:=i+1) a (by omega) c
  exact⟨d,fun l'=>(e l').trans (b l'),f⟩
def yY(l:List Bool):Nat:=l.foldl (fun a b=>2*a+b.toNat) 0
def eh(l:List Bool):Int×Int:=(((yY l*2^(32 - l.length):Nat):Int),(l.length:Int))
def aH(p:Int×Int):List Bool:=(List.range p.2.toNat).map fun i=>p.1.toNat.testBit (31 - i)
theorem uj(l:List Bool)(b:Bool):yY (l++[b])=2*yY l+b.toNat:=by unfold yY;rw[List.foldl_append];rfl
theorem CZ(l:List Bool):yY l<2^l.length:=by
 have key: ∀(n:Nat) (l:List Bool),l.length=n→yY l<2^n:=by
  intro n
  induction n with
  |zero=>intro l h;rw[List.eq_nil_of_length_eq_zero h];decide
  |succ n ih=>
   intro l h
   have e:l.take n++[l[n]'(by omega)]=l:=by rw[List.take_append_getElem,List.take_of_length_le (by omega)]
   rw[←e,uj]
   have:=ih (l.take n) (by rw[List.length_take];omega)
   have hb:(l[n]'(by omega)).toNat≤1:=by cases l[n]'(by omega)<;>decide
   rw[Nat.pow_succ]
   omega
 exact key _ l rfl
theorem G7{a k:Nat}:a/2^k=2*(a/2^(k+1))+(a.testBit k).toNat:=by
 rw[Nat.pow_succ,←Nat.div_div_eq_div_mul]
 have h:=Nat.testBit_eq_decide_div_mod_eq (x:=a) (i:=k)
 rw[h]
 have:=Nat.mod_two_eq_zero_or_one (a/2^k)
 rcases this with h|h<;>simp[h]<;>omega
theorem Gt{a:Nat}(ha:a<4294967296): ∀n,n≤32→yY ((List.range n).map fun i=>a.testBit (31 - i))=a/2^(32 - n)
 |0,_=>by
  show 0=a/2^32
  rw[Nat.div_eq_of_lt (by omega)]
 |n+1,h=>by
  rw[List.range_succ,List.map_append,List.map_singleton,uj,Gt ha n (by omega),G7 (a:=a) (k:=32 - (n+1)),show 32 - (n+1)+1=32 - n by omega,show 32 - (n+1)=31 - n by omega]
theorem jL(p:Int×Int):(aH p).length=p.2.toNat:=by simp[aH]
theorem vc{p:Int×Int}(hp:qb p)(hm:ov p.1.toNat p.2=true):eh (aH p)=p:=by
 unfold ov at hm
 simp only[Bool.and_eq_true,decide_eq_true_eq]at hm
 obtain⟨h0,h32,hd⟩:=hm
 have ha:=hp.1
 unfold eh
 rw[jL]
 have e:=Gt (a:=p.1.toNat) (by omega) p.2.toNat (by omega)
 have e2:yY (aH p)=p.1.toNat/2^(32 - p.2.toNat):=e
 rw[e2,Nat.div_mul_cancel (Nat.dvd_of_mod_eq_zero hd)]
 refine Prod.ext ?_ ?_
 ·show((p.1.toNat:Nat):Int)=p.1;omega
 ·show((p.2.toNat:Nat):Int)=p.2;omega
theorem Ia{p:Int×Int}(hm:ov p.1.toNat p.2=true):(0≤p.2∧p.2≤32)∧(aH p).length≤32:=by
 unfold ov at hm
 simp only[Bool.and_eq_true,decide_eq_true_eq]at hm
 refine⟨⟨hm.1,hm.2.1⟩,by rw[jL];omega⟩
theorem JV: ∀{l m:List Bool},l.length=m.length→yY l=yY m→l=m:=by
 have key: ∀(n:Nat) (l m:List Bool),l.length=n→m.length=n→yY l=yY m→l=m:=by
  intro n
  induction n with
  |zero=>intro l m h1 h2 _;rw[List.eq_nil_of_length_eq_zero h1,List.eq_nil_of_length_eq_zero h2]
  |succ n ih=>
   intro l m h1 h2 he
   have el:l.take n++[l[n]'(by omega)]=l:=by rw[List.take_append_getElem,List.take_of_length_le (by omega)]
   have em:m.take n++[m[n]'(by omega)]=m:=by rw[List.take_append_getElem,List.take_of_length_le (by omega)]
   rw[←el,←em,uj,uj]at he
   have hb:(l[n]'(by omega))=(m[n]'(by omega)):=by
    cases h3:l[n]'(by omega)<;>cases h4:m[n]'(by omega)<;>simp[h3,h4]at he⊢ <;>omega
   rw[hb]at he
   have:=ih (l.take n) (m.take n) (by rw[List.length_take];omega) (by rw[List.length_take];omega) (by omega)
   rw[←el,←em,this,hb]
 intro l m h he
 exact key _ l m h rfl he
theorem va.few{T:List Nd}(h:va T):T.length≤8589934592:=by
 have h1:((gR T).map fun l=>2^l.length+yY l).Nodup:=by
  refine List.Pairwise.map (S:=(· ≠ ·)) (fun l=>2^l.length+yY l) (fun a b hab e=>hab ?_) h.nd
  have ha:=CZ a
  have hb:=CZ b
  have hlen: ∀x y:List Bool,2^x.length+yY x=2^y.length+yY y→ ¬x.length<y.length:=by
   intro x y e hlt
   have hx:=CZ x
   have:2^(x.length+1)≤2^y.length:=Nat.pow_le_pow_right (by decide) hlt
   rw[Nat.pow_succ]at this
   omega
  have h1:=hlen a b e
  have h2:=hlen b a e.symm
  have hl:a.length=b.length:=by omega
  refine JV hl ?_
  rw[hl]at e
  omega
 have h2:=qJ (m:=List.range 8589934592) h1 fun x hx=>by
  obtain⟨l,hl,rfl⟩:=List.mem_map.1 hx
  rw[List.mem_range]
  have a:=CZ l
  have b:2^l.length≤2^32:=Nat.pow_le_pow_right (by decide) (h.len l hl)
  omega
 rw[List.length_range]at h2
 simpa[gR]using h2
theorem QX{m:Nat}(h:m<4294967296):oh .and .u32 (m:Int) 1=((m%2:Nat):Int):=by
 show IntKind.u32.wrap ((BitVec.ofInt 32 (m:Int)&&& BitVec.ofInt 32 ((1:Nat):Int)).toNat:Int)=_
 rw[BitVec.ofInt_natCast,BitVec.ofInt_natCast,BitVec.toNat_and,BitVec.toNat_ofNat,BitVec.toNat_ofNat,Nat.mod_eq_of_lt (by omega),show 1%2^32=1 from rfl,Nat.and_one_is_mod]
 exact wA (by omega)
def bI(a:Int)(i:Nat):Bool:=a.toNat.testBit (31 - i)
theorem BE{I:Ctx}{a:Int}{i:Nat}(ha:0≤a∧a<4294967296)(hi:i≤31):Fn Tryz.prog 148 #[.int .u32 a,.int .i64 i] I [] (fun v h'=>v= .int .i64 ((bI a i).toNat:Nat)∧h'=[]):=by
 refine LD _ _ ?_
 refine Qk (by rw[cr (by omega)];omega) ?_
 refine aC ⟨?_,rfl⟩
 dsimp only
 rw[cr (x:=31 - (i:Int)) (by omega),show(31 - (i:Int)).toNat=31 - i by omega,Nat.min_eq_left (show 31 - i≤IntKind.u32.bits by show 31 - i≤32;omega),Int.fdiv_eq_ediv_of_nonneg _ (Int.pow_nonneg (by decide))]
 have e:a/2^(31 - i)=((a.toNat/2^(31 - i):Nat):Int):=by
  rw[Int.natCast_ediv,Int.natCast_pow,show((a.toNat:Nat):Int)=a by omega]
  rfl
 rw[e,QX (Nat.lt_of_le_of_lt (Nat.div_le_self _ _) (by omega))]
 unfold bI
 rw[Nat.testBit_eq_decide_div_mod_eq]
 have h2:=Nat.mod_two_eq_zero_or_one (a.toNat/2^(31 - i))
 rcases h2 with h2|h2<;>rw[h2]<;>rfl
def ndC(T:List Nd)(x:Nd):List Value:=[.int .i64 (ix T (x.l++[false]):Nat),.int .i64 (ix T (x.l++[true]):Nat),.int .i64 x.n,.bool x.h]
def trC(T:List Nd):List Value:=T.flatMap (ndC T)
theorem BO{f:Nd→List Value}(hf: ∀x,(f x).length=4): ∀T:List Nd,(T.flatMap f).length=T.length*4
 |[]=>rfl
 |x::T=>by rw[List.flatMap_cons,List.length_append,hf,BO hf T,List.length_cons];omega
theorem zP{T:List Nd}{i:Nat}{x:Nd}(h:T[i]? =some x): ∀q v,(ndC T x)[q]? =some v→(trC T)[i*4+q]? =some v:=by
 obtain⟨hi,rfl⟩:=List.getElem?_eq_some_iff.1 h
 have e:T=T.take i++T[i]::T.drop (i+1):=by simp
 intro q v hq
 have hq4:q<4:=(List.getElem?_eq_some_iff.1 hq).1
 have e2:trC T=(T.take i).flatMap (ndC T)++(ndC T T[i]++(T.drop (i+1)).flatMap (ndC T)):=by
  have:=congrArg (fun L=>L.flatMap (ndC T)) e
  rwa[List.flatMap_append,List.flatMap_cons]at this
 have hl:((T.take i).flatMap (ndC T)).length=i*4:=by
  rw[BO (fun _=>rfl),List.length_take];omega
 rw[e2,List.getElem?_append_right (by omega),hl,show i*4+q - i*4=q by omega,List.getElem?_append_left hq4]
 exact hq
theorem Ms{fa fx fb vs:List Value}{q:Nat}(h:q+vs.length≤fx.length):wrL (fa++(fx++fb)) (fa.length+q) vs=fa++(wrL fx q vs++fb):=by
 unfold wrL
 rw[List.take_length_add_append,List.take_append_of_le_length (by omega),show fa.length+q+vs.length=fa.length+(q+vs.length) by omega,List.drop_length_add_append,List.drop_append_of_le_length (by omega)]
 simp
theorem FB{T:List Nd}{i:Nat}{x:Nd}(h:T[i]? =some x): ∃A B,T=A++x::B∧A.length=i:=by
 obtain⟨hi,rfl⟩:=List.getElem?_eq_some_iff.1 h
 exact⟨T.take i,T.drop (i+1),by simp,by rw[List.length_take];omega⟩
theorem ED{A B:List Nd}{x:Nd}(hn:(gR (A++x::B)).Nodup)(n:Int)(h:Bool):qZ (A++x::B) x.l n h=A++⟨x.l,n,h⟩::B:=by
 have e: ∀L:List Nd,(∀y∈L,y.l≠x.l)→qZ L x.l n h=L:=fun L hL=>by
  unfold qZ
  refine(List.map_congr_left fun y hy=>?_).trans (List.map_id _)
  rw[if_neg (hL y hy)]
  rfl
 rw[gR,List.map_append,List.map_cons,List.nodup_append,List.nodup_cons]at hn
 have ha:=e A fun y hy e=>hn.2.2 _ (List.mem_map_of_mem (f:=(·.l)) hy) _ List.mem_cons_self e
 have hb:=e B fun y hy e=>hn.2.1.1 (e▸List.mem_map_of_mem (f:=(·.l)) hy)
 have:qZ (A++x::B) x.l n h=qZ A x.l n h++(if x.l=x.l then(⟨x.l,n,h⟩:Nd)else x)::qZ B x.l n h:=by unfold qZ;rw[List.map_append,List.map_cons]
 rw[this,ha,hb,if_pos rfl]
theorem L6{T:List Nd}{l:List Bool}{n:Int}{h:Bool}:ndC (qZ T l n h)=ndC T:=by
 funext x
 unfold ndC
 rw[LV,LV]
theorem MR{g:Nd→List Value}(hg: ∀x,(g x).length=4){A B:List Nd}{x:Nd}{q:Nat}{vs:List Value}(h:q+vs.length≤4):
  wrL ((A++x::B).flatMap g) (A.length*4+q) vs=A.flatMap g++(wrL (g x) q vs++B.flatMap g):=by
 rw[List.flatMap_append,List.flatMap_cons,←BO hg A]
 exact Ms (by rw[hg];exact h)
theorem Jl{T:List Nd}(hn:(gR T).Nodup){i:Nat}{x:Nd}(h:T[i]? =some x)(n:Int):wrL (trC T) (i*4+2) [.int .i64 n]=trC (qZ T x.l n x.h):=by
 unfold trC
 rw[L6]
 have hg: ∀y,(ndC T y).length=4:=fun _=>rfl
 obtain⟨A,B,e,rfl⟩:=FB h
 have e2:=ED (e▸hn) n x.h
 rw[←e]at e2
 have e3:=MR hg (A:=A) (B:=B) (x:=x) (q:=2) (vs:=[.int .i64 n]) (by simp)
 rw[←e]at e3
 rw[e3,e2,List.flatMap_append,List.flatMap_cons]
 rfl
theorem JZ{T:List Nd}(hn:(gR T).Nodup){i:Nat}{x:Nd}(h:T[i]? =some x)(b:Bool):wrL (trC T) (i*4+3) [.bool b]=trC (qZ T x.l x.n b):=by
 unfold trC
 rw[L6]
 have hg: ∀y,(ndC T y).length=4:=fun _=>rfl
 obtain⟨A,B,e,rfl⟩:=FB h
 have e2:=ED (e▸hn) x.n b
 rw[←e]at e2
 have e3:=MR hg (A:=A) (B:=B) (x:=x) (q:=3) (vs:=[.bool b]) (by simp)
 rw[←e]at e3
 rw[e3,e2,List.flatMap_append,List.flatMap_cons]
 rfl
theorem J2{T:List Nd}(ht:va T){i:Nat}{x:Nd}(h:T[i]? =some x){b:Bool}(hb:x.l++[b]∉gR T):
  wrL (trC T++[.int .i64 0,.int .i64 0,.int .i64 0,.bool false]) (i*4+b.toNat) [.int .i64 (T.length:Nat)]=trC (T++[⟨x.l++[b],0,false⟩]):=by
 have hix: ∀l,ix (T++[⟨x.l++[b],0,false⟩]) l=if l=x.l++[b]then T.length else ix T l:=by
  intro l
  unfold ix
  rw[Ol]
  by_cases e:l=x.l++[b]
  ·rw[if_pos e,e,FS.2 hb]
   simp
  ·rw[if_neg e]
   cases pos T l with
   |some i=>rfl
   |none=>show(if x.l++[b]=l then some T.length else none).getD 0=0;rw[if_neg fun e2=>e e2.symm];rfl
 have hnew:ndC (T++[⟨x.l++[b],0,false⟩]) ⟨x.l++[b],0,false⟩=[.int .i64 0,.int .i64 0,.int .i64 0,.bool false]:=by
  have h0: ∀c,ix (T++[⟨x.l++[b],0,false⟩]) (x.l++[b]++[c])=0:=by
   intro c
   rw[hix,if_neg (by intro e;have:=congrArg List.length e;simp at this)]
   exact ua fun hm=>hb (ht.pre _ _ hm)
  unfold ndC
  rw[h0,h0]
  rfl
 have hoth: ∀y∈T,y.l≠x.l→ndC (T++[⟨x.l++[b],0,false⟩]) y=ndC T y:=by
  intro y _ hne
  have hc: ∀c,y.l++[c]≠x.l++[b]:=fun c e=>hne (List.append_inj' e rfl).1
  unfold ndC
  rw[hix,hix,if_neg (hc _),if_neg (hc _)]
 have hx:ndC (T++[⟨x.l++[b],0,false⟩]) x=wrL (ndC T x) b.toNat [.int .i64 (T.length:Nat)]:=by
  unfold ndC
  rw[hix,hix]
  cases b
  ·rw[if_pos rfl,if_neg (by simp)];rfl
  ·rw[if_neg (by simp),if_pos rfl];rfl
 have hg: ∀y,(ndC T y).length=4:=fun _=>rfl
 unfold trC
 rw[List.flatMap_append,List.flatMap_singleton,hnew]
 obtain⟨A,B,e,rfl⟩:=FB h
 have hn:=ht.nd
 have hcong: ∀L:List Nd,(∀y∈L,y∈T∧y.l≠x.l)→L.flatMap (ndC (T++[⟨x.l++[b],0,false⟩]))=L.flatMap (ndC T):=by
  intro L hL
  induction L with
  |nil=>rfl
  |cons y L ih=>
   rw[List.flatMap_cons,List.flatMap_cons,ih fun z hz=>hL z (List.mem_cons_of_mem _ hz),hoth y (hL y List.mem_cons_self).1 (hL y List.mem_cons_self).2]
 have hn2:=hn
 rw[e,gR,List.map_append,List.map_cons,List.nodup_append,List.nodup_cons]at hn2
 have hA:=hcong A fun y hy=>⟨by rw[e];exact List.mem_append_left _ hy,fun e5=>hn2.2.2 _ (List.mem_map_of_mem (f:=(·.l)) hy) _ List.mem_cons_self e5⟩
 have hB:=hcong B fun y hy=>⟨by rw[e];exact List.mem_append_right _ (List.mem_cons_of_mem _ hy),fun e5=>hn2.2.1.1 (e5▸List.mem_map_of_mem (f:=(·.l)) hy)⟩
 have hb2:b.toNat+[Value.int .i64 (T.length:Nat)].length≤4:=by cases b<;>simp
 have e3:=congrArg (fun L=>L.flatMap (ndC T)) e
 have e4:=congrArg (fun L=>L.flatMap (ndC (T++[⟨x.l++[b],0,false⟩]))) e
 simp only[List.flatMap_append,List.flatMap_cons]at e3 e4
 rw[e3,e4,hA,hB,hx,List.append_assoc,List.append_assoc,←BO hg A,Ms (by rw[hg];exact hb2),List.append_assoc,List.append_assoc]
theorem BP{p:Int×Int}{i:Nat}(h:i<(aH p).length):(aH p)[i]=bI p.1 i:=by simp[aH,bI]
structure FV (I:Ctx) (a:Nat) (T:List Nd) (most many:Int) (A:Addr) (c:Nat):Prop where
 b: ∃fz,I a=some (.cells #[.int .i64 most,.int .i64 many,.slice (some A) T.length c] 192 fz)
 r: ∀i x,T[i]? =some x→df I [] (A.add (i*4)) (ndC T x)
theorem df.nil_up{I:Ctx}{a:Addr}{cs:List Value}(h:df I [] a cs){m:Mem}:df I m a cs:=fun q v hq=>(h q v hq).mono (fun x hx=>by cases hx)
abbrev Hf(T:List Nd)(l:List Bool):Value:= .tuple #[.int .i64 (ix T l:Nat),.bool (decide (l∈gR T))]
theorem ko{P:Program}{f:Ctl}{I:Ctx}{h:Mem}{Q:Value→Mem→Prop}{k:(Nat→jT)→Tr}{t e:TypeId}{sz n:Nat}{a:Addr}{ik:IntKind}{i:Int}(ht:P.underlying t=some (.array n e))(hs:i4 P e=some sz)(h0:0≤i)(h1:i<n)
  (hk:holds P f I Q (k fun _=>{a:=a.add (i.toNat*sz)}) h):holds P f I Q (.rd (Instr.indexAt t (.pointer (some a)) (.int ik i)) Ay k) h:=FT _ (MS ht hs h0 h1 rfl) hk
theorem J9{I:Ctx}{a:Nat}{T:List Nd}{most many:Int}{A:Addr}{c:Nat}{p:Int×Int}(hin:FV I a T most many A c)(ht:va T)(hp:0≤p.1∧p.1<4294967296)(hl:0≤p.2∧p.2≤32)(hbd:T.length≤8589934592):
  ∀(n i:Nat) (y4:Nat) (u:Nat→Value),i+n=p.2.toNat→(aH p).take i∈gR T→
  Wp Tryz.prog 130 cF (cM ⟨a,0,none⟩ false y4 (ix T ((aH p).take i):Nat) i u) I [(y4,.cells #[.int .u32 p.1,.int .i64 p.2] 45 (0,0))] (cl_ fun v h'=>v=Hf T (aH p)∧h'=[]):=by
 obtain⟨fz,hb⟩:=hin.b
 have hlen:=jL p
 intro n
 induction n with
 |zero=>
  intro i y4 u hi hm
  refine ig _ _ _ _ _ _ ?_
  refine ldI mE rE kE ?_;dsimp only[ag]
  refine aX (by simp;omega) ?_
  rw[List.take_of_length_le (by omega)]at hm⊢
  exact d9 [_] rfl ⟨by rw[Hf,decide_eq_true hm],rfl⟩
 |succ n ih=>
  intro i y4 u hi hm
  have hib:i<(aH p).length:=by omega
  have hs:=tN hib
  rw[BP hib]at hs
  obtain⟨j,x,hp1,hx,hxl⟩:=rX hm
  have hix:ix T ((aH p).take i)=j:=by unfold ix;rw[hp1];rfl
  have hjl:j<T.length:=(List.getElem?_eq_some_iff.1 hx).1
  have hcell:=hin.r j x hx
  have hbel:bh I [] (A.add (j*4+(bI p.1 i).toNat)) (.int .i64 (ix T ((aH p).take (i+1)):Nat)):=by
   rw[hs,←add_add,←hxl]
   refine hcell _ _ ?_
   cases bI p.1 i<;>rfl
  have hlb:(bI p.1 i).toNat≤1:=by cases bI p.1 i<;>decide
  have hb2:Has I [(y4,Obj.cells #[.int .u32 p.1,.int .i64 p.2] 45 (0,0))] a (.cells #[.int .i64 most,.int .i64 many,.slice (some A) T.length c] 192 fz):= .inr hb
  refine ig _ _ _ _ _ _ ?_
  refine ldI mE rE kE ?_;dsimp only[ag]
  refine b7 (by simp;omega) ?_
  refine ldI mE rE kE ?_;dsimp only[ag]
  refine aA (v:= .int .i64 ((bI p.1 i).toNat:Nat)) (fun _=>{i:=((bI p.1 i).toNat:Nat)}) ri (fun hl=>BE hp (by omega)) rfl ?_
  dsimp only
  rw[hix]
  refine dS kE ⟨rfl,_,_,_,hb2,rfl⟩ ?_
  dsimp only
  refine aI A rfl (sz:=4) kE (by omega) (by omega) rfl ?_
  dsimp only
  refine ko (e:=3) (sz:=1) (n:=2) kE kE (by omega) (by omega) ?_
  dsimp only
  rw[Int.toNat_natCast,Int.toNat_natCast,add_add,Nat.mul_one]
  refine aZ kE (hbel.mono (fun x hx=>by cases hx)) ?_
  dsimp only
  by_cases hnew:(aH p).take (i+1)∈gR T
  ·have hpos:=Hq ht hnew (by intro e;have:=congrArg List.length e;rw[List.length_take,List.length_nil]at this;omega)
   refine b7 (by simp;omega) ?_
   refine dS kE ⟨rfl,_,_,_,hb2,rfl⟩ ?_
   dsimp only
   refine aI A rfl (sz:=4) kE (by omega) (by omega) rfl ?_
   dsimp only
   refine ko (e:=3) (sz:=1) (n:=2) kE kE (by omega) (by omega) ?_
   dsimp only
   rw[Int.toNat_natCast,Int.toNat_natCast,add_add,Nat.mul_one]
   refine aZ kE (hbel.mono (fun x hx=>by cases hx)) ?_
   refine aj fun _ _=>?_
   dsimp only
   rw[dT (by omega)]
   exact ih (i+1) y4 _ (by omega) hnew
  ·refine aX (by rw[ua hnew];rfl) ?_
   refine aX rfl ?_
   have hno:aH p∉gR T:=fun hm2=>hnew (FO ht hm2 _)
   exact d9 [_] rfl ⟨by rw[Hf,decide_eq_false hno,ua hno];rfl,rfl⟩
theorem Kk{I:Ctx}{a:Nat}{T:List Nd}{most many:Int}{A:Addr}{c:Nat}{p:Int×Int}(hin:FV I a T most many A c)(ht:va T)(hp:0≤p.1∧p.1<4294967296)(hl:0≤p.2∧p.2≤32):
  Fn Tryz.prog 130 #[ptV a,pfV p,.bool false] I [] (fun v h'=>v=Hf T (aH p)∧h'=[]):=by
 have hbd:=ht.few
 have hlen:=jL p
 obtain⟨fz,hb⟩:=hin.b
 refine sM _ _ _ _ ?_
 refine aP fun y4 _ _=>?_
 refine aj fun _ _=>?_
 obtain⟨i,hi0⟩: ∃i:Nat,i=0:=⟨0,rfl⟩
 have hm:(aH p).take i∈gR T:=by rw[hi0];exact tW ht
 have e0:(0:Int)=((ix T ((aH p).take i):Nat):Int):=by rw[hi0];show(0:Int)=((ix T []:Nat):Int);rw[LM ht];rfl
 suffices hh: ∀u,Wp Tryz.prog 130 g8 (hZ ⟨a,0,none⟩ false y4 (ix T ((aH p).take i):Nat) (i:Nat) u) I [(y4,.cells #[.int .u32 p.1,.int .i64 p.2] 45 (0,0))] (cl_ fun v h'=>v=Hf T (aH p)∧h'=[]) by
  have:=hh
  rw[←e0,hi0]at this
  exact this _
 intro u
 cases hn:p.2.toNat with
 |zero=>
  have hi:i+0=p.2.toNat:=by omega
  refine gU _ _ _ _ _ _ ?_
  refine ldI mE rE kE ?_;dsimp only[ag]
  refine aX (by simp;omega) ?_
  rw[List.take_of_length_le (by omega)]at hm⊢
  exact d9 [_] rfl ⟨by rw[Hf,decide_eq_true hm],rfl⟩
 |succ n=>
  have hi:i+(n+1)=p.2.toNat:=by omega
  have ih:=J9 hin ht hp hl hbd n
  have hib:i<(aH p).length:=by omega
  have hs:=tN hib
  rw[BP hib]at hs
  obtain⟨j,x,hp1,hx,hxl⟩:=rX hm
  have hix:ix T ((aH p).take i)=j:=by unfold ix;rw[hp1];rfl
  have hjl:j<T.length:=(List.getElem?_eq_some_iff.1 hx).1
  have hcell:=hin.r j x hx
  have hbel:bh I [] (A.add (j*4+(bI p.1 i).toNat)) (.int .i64 (ix T ((aH p).take (i+1)):Nat)):=by
   rw[hs,←add_add,←hxl]
   refine hcell _ _ ?_
   cases bI p.1 i<;>rfl
  have hlb:(bI p.1 i).toNat≤1:=by cases bI p.1 i<;>decide
  have hb2:Has I [(y4,Obj.cells #[.int .u32 p.1,.int .i64 p.2] 45 (0,0))] a (.cells #[.int .i64 most,.int .i64 many,.slice (some A) T.length c] 192 fz):= .inr hb
  refine gU _ _ _ _ _ _ ?_
  refine ldI mE rE kE ?_;dsimp only[ag]
  refine b7 (by simp;omega) ?_
  refine ldI mE rE kE ?_;dsimp only[ag]
  refine aA (v:= .int .i64 ((bI p.1 i).toNat:Nat)) (fun _=>{i:=((bI p.1 i).toNat:Nat)}) ri (fun hl=>BE hp (by omega)) rfl ?_
  dsimp only
  rw[hix]
  refine dS kE ⟨rfl,_,_,_,hb2,rfl⟩ ?_
  dsimp only
  refine aI A rfl (sz:=4) kE (by omega) (by omega) rfl ?_
  dsimp only
  refine ko (e:=3) (sz:=1) (n:=2) kE kE (by omega) (by omega) ?_
  dsimp only
  rw[Int.toNat_natCast,Int.toNat_natCast,add_add,Nat.mul_one]
  refine aZ kE (hbel.mono (fun x hx=>by cases hx)) ?_
  dsimp only
  by_cases hnew:(aH p).take (i+1)∈gR T
  ·have hpos:=Hq ht hnew (by intro e;have:=congrArg List.length e;rw[List.length_take,List.length_nil]at this;omega)
   refine b7 (by simp;omega) ?_
   refine dS kE ⟨rfl,_,_,_,hb2,rfl⟩ ?_
   dsimp only
   refine aI A rfl (sz:=4) kE (by omega) (by omega) rfl ?_
   dsimp only
   refine ko (e:=3) (sz:=1) (n:=2) kE kE (by omega) (by omega) ?_
   dsimp only
   rw[Int.toNat_natCast,Int.toNat_natCast,add_add,Nat.mul_one]
   refine aZ kE (hbel.mono (fun x hx=>by cases hx)) ?_
   refine aj fun _ _=>?_
   dsimp only
   rw[dT (by omega)]
   exact ih (i+1) y4 _ (by omega) hnew
  ·refine aX (by rw[ua hnew];rfl) ?_
   refine aX rfl ?_
   have hno:aH p∉gR T:=fun hm2=>hnew (FO ht hm2 _)
   exact d9 [_] rfl ⟨by rw[Hf,decide_eq_false hno,ua hno];rfl,rfl⟩
end Go.Proofs.YtadanegddceleaaGreatS
