import Derived.Test.YtadanegddceleaaGreatqae
import Derived.Test.YtadanegddceleaaGreatqag
import Derived.Test.YtadanegddceleaaGreatqah
import Derived.Test.YtadanegddceleaaGreatqai
import Derived.Test.YtadanegddceleaaGreatqaj
import Derived.Test.YtadanegddceleaaGreatqak
import Derived.Test.YtadanegddceleaaGreatqal
import Derived.Test.YtadanegddceleaaGreatqam
set_option linter.unusedSimpArgs false
set_option linter.unusedVariables false
set_option maxRecDepth 20000
namespace Go.Proofs.YtadanegddceleaaGreatS
def Hv:Ctx→Mem→Prop:=fun _ _=>True
theorem yq1{c:Nat×Obj}{m hx:Mem}:(c::(m++hx)).Perm (m++(c::hx)):=List.perm_middle.symm
theorem yq2{z c:Nat×Obj}{m hx:Mem}:(z::c::(m++hx)).Perm (m++(z::c::hx)):=(List.Perm.cons _ List.perm_middle.symm).trans List.perm_middle.symm
theorem yf1{c:Nat×Obj}{h1 h2 gg hx:Mem}(p:h1.Perm (h2++gg)):(h1++(c::hx)).Perm (c::(h2++(gg++hx))):=by
 refine List.perm_middle.trans (List.Perm.cons _ ?_)
 rw[←List.append_assoc]
 exact p.append_right _
theorem yf2{z c:Nat×Obj}{h1 h2 gg hx:Mem}(p:h1.Perm (h2++gg)):(h1++(z::c::hx)).Perm (c::(h2++(gg++(z::hx)))):=by
 refine((List.Perm.swap _ _ _).append_left h1).trans ?_
 exact yf1 p
theorem DR{I':Ctx}{L M:Nat}{r:Loop}{l:List (_×Value)}{om:Obj}{J:List _→Mem→Prop}(hI:I' M=some om)(hlen:r.params.size=1)
  (hst: ∀done m,J done m→(L,Obj.loop r)∈m)
  (hr: ∀done k rest m,(done++k::rest).Perm (l.map (·.1))→J done m→ ∀I'',(∀b o,I' b=some o→I'' b=some o)→
   bU Tryz.prog L r.fn ((r.params.zip ⟨[yr k]⟩).foldl (fun tmps (t,a)=>tmps.setIfInBounds t a) r.tmps) r.assign r.body I'' m (cl_ fun v m'=>v= .bool true∧J (done++[k]) m')):
  ∀(n:Nat) (rem:List (_×Value)) (done:List _) (m hx h:Mem) (oi:Obj) (y:Nat) (u:Nat→Value),rem.length=n→Itr yr M l rem om oi→(done++rem.map (·.1)).Perm (l.map (·.1))→J done m→h.Perm ((y,oi)::(m++hx))→
  Wp Tryz.prog 304 eD (eL (.func (.yield L) #[] #[]) y u) I' h (cl_ fun _ m'=> ∃ks,ks.Perm (l.map (·.1))∧J ks m'):=by
 intro n
 induction n with
 |zero=>
  intro rem done m hx h oi y u hn ho hd hj hp
  obtain rfl:rem=[]:=List.eq_nil_of_length_eq_zero hn
  refine kT _ _ _ ?_
  refine z6 (cl_.aff _) (.inr hI) hp ho (fun _=>?_) (fun p hp'=>by cases hp')
  refine lF (fun _=>{b:=false}) rfl ?_
  refine b7 rfl ?_
  exact aY (h1:=m) (g:=(y,oi)::hx) (hp.trans List.perm_middle.symm) ⟨done,by simpa using hd,hj⟩
 |succ n ih=>
  intro rem done m hx h oi y u hn ho hd hj hp
  refine kT _ _ _ ?_
  refine z6 (cl_.aff _) (.inr hI) hp ho (fun he=>by rw[he]at hn;cases hn) (fun p hp' oi' ho' hc=>?_)
  refine lF (fun _=>{b:=true}) rfl ?_
  refine aX rfl ?_
  refine Fk (.inl mq0) (.inr hI) hc (ag [{i:=p.1},{v:=p.2}]) rfl ?_
  dsimp only[ag]
  skip
  have hrd:=hr done p.1 ((q4 rem p.1).map (·.1)) m (((jh hp').append_left done).symm.trans hd) hj
  refine ne m ((y,oi')::hx) (.inl (yq1.mem_iff.2 (List.mem_append_left _ (hst _ _ hj)))) hlen.symm yq1 (fun hl=>hrd _ (fK hl yq1)) ?_
  rintro v h1 ⟨h2,gg,hpg,rfl,hj2⟩
  refine⟨fun _=>{b:=true},rfl,?_⟩
  refine b7 rfl ?_
  refine aj fun _ hl=>?_
  refine ih (q4 rem p.1) (done++[p.1]) h2 _ _ oi' y _ (by have:=BG hp';omega) ho' ?_ hj2 (yf1 hpg)
  rw[List.append_assoc]
  exact((jh hp').append_left done).symm.trans hd
theorem Dx{I:Ctx}{g0 M:Nat}{t:TypeId}{fz:Nat×Nat}{l:List (_×Value)}{om:Obj}(hg:I g0=some (.cells #[.map (some M)] t fz))(hM:I M=some om)(hm:Mp yr l om):
  iJ Tryz.prog 304 [.pointer (some ⟨g0,0,none⟩)] I Hv (fun k=>[yr k]) (l.map (·.1)):=by
 intro I' hI L r J m hn hS hr hJ
 have hlen:r.params.size=1:=(hn l.head!.1).symm
 refine vV _ _ ?_
 refine nt kE ⟨rfl,_,_,_,.inr (hI _ _ hg),rfl⟩ ?_
 dsimp only
 refine EO (enc:=yr) rfl (.inr (hI _ _ hM)) hm fun g oi hg1 hg2 ho=>?_
 refine aj fun _ hl=>?_
 exact Wp.mono (DR (hI _ _ hM) hlen (fun done m hj=>(hS done m hj).2) hr _ l [] m [] _ oi g _ rfl ho (List.Perm.refl _) hJ (by rw[List.append_nil])) fun _ _ hq=>cl_.of hq
theorem DW{I:Ctx}{M:Nat}:Fn Tryz.prog 298 #[.map (some M)] I [] (fun v h'=> ∃g,v= .func (.func 304) #[] #[.pointer (some ⟨g,0,none⟩)]∧h'=[(g,.cells #[.map (some M)] 201 (0,0))]):=by
 refine Bn _ ?_
 refine aP fun g hg hI=>?_
 exact aY (h1:=[(g,.cells #[.map (some M)] 201 (0,0))]) (g:=[]) (by simp[Value.cells]) ⟨g,rfl,rfl⟩
theorem A7{I':Ctx}{L M:Nat}{r:Loop}{l:List (_×Value)}{om:Obj}{J:List _→Mem→Prop}(hI:I' M=some om)(hlen:r.params.size=1)
  (hst: ∀done m,J done m→(L,Obj.loop r)∈m)
  (hr: ∀done k rest m,(done++k::rest).Perm (l.map (·.1))→J done m→ ∀I'',(∀b o,I' b=some o→I'' b=some o)→
   bU Tryz.prog L r.fn ((r.params.zip ⟨[yr k]⟩).foldl (fun tmps (t,a)=>tmps.setIfInBounds t a) r.tmps) r.assign r.body I'' m (cl_ fun v m'=>v= .bool true∧J (done++[k]) m')):
  ∀(n:Nat) (rem:List (_×Value)) (done:List _) (m hx h:Mem) (oi:Obj) (y:Nat) (u:Nat→Value),rem.length=n→Itr yr M l rem om oi→(done++rem.map (·.1)).Perm (l.map (·.1))→J done m→h.Perm ((y,oi)::(m++hx))→
  Wp Tryz.prog 343 dR (dQ (.func (.yield L) #[] #[]) y u) I' h (cl_ fun _ m'=> ∃ks,ks.Perm (l.map (·.1))∧J ks m'):=by
 intro n
 induction n with
 |zero=>
  intro rem done m hx h oi y u hn ho hd hj hp
  obtain rfl:rem=[]:=List.eq_nil_of_length_eq_zero hn
  refine jD _ _ _ ?_
  refine z6 (cl_.aff _) (.inr hI) hp ho (fun _=>?_) (fun p hp'=>by cases hp')
  refine lF (fun _=>{b:=false}) rfl ?_
  refine b7 rfl ?_
  exact aY (h1:=m) (g:=(y,oi)::hx) (hp.trans List.perm_middle.symm) ⟨done,by simpa using hd,hj⟩
 |succ n ih=>
  intro rem done m hx h oi y u hn ho hd hj hp
  refine jD _ _ _ ?_
  refine z6 (cl_.aff _) (.inr hI) hp ho (fun he=>by rw[he]at hn;cases hn) (fun p hp' oi' ho' hc=>?_)
  refine lF (fun _=>{b:=true}) rfl ?_
  refine aX rfl ?_
  refine Fk (.inl mq0) (.inr hI) hc (ag [{i:=p.1},{v:=p.2}]) rfl ?_
  dsimp only[ag]
  skip
  have hrd:=hr done p.1 ((q4 rem p.1).map (·.1)) m (((jh hp').append_left done).symm.trans hd) hj
  refine ne m ((y,oi')::hx) (.inl (yq1.mem_iff.2 (List.mem_append_left _ (hst _ _ hj)))) hlen.symm yq1 (fun hl=>hrd _ (fK hl yq1)) ?_
  rintro v h1 ⟨h2,gg,hpg,rfl,hj2⟩
  refine⟨fun _=>{b:=true},rfl,?_⟩
  refine b7 rfl ?_
  refine aj fun _ hl=>?_
  refine ih (q4 rem p.1) (done++[p.1]) h2 _ _ oi' y _ (by have:=BG hp';omega) ho' ?_ hj2 (yf1 hpg)
  rw[List.append_assoc]
  exact((jh hp').append_left done).symm.trans hd
theorem AY{I:Ctx}{g0 M:Nat}{t:TypeId}{fz:Nat×Nat}{l:List (_×Value)}{om:Obj}(hg:I g0=some (.cells #[.map (some M)] t fz))(hM:I M=some om)(hm:Mp yr l om):
  iJ Tryz.prog 343 [.pointer (some ⟨g0,0,none⟩)] I Hv (fun k=>[yr k]) (l.map (·.1)):=by
 intro I' hI L r J m hn hS hr hJ
 have hlen:r.params.size=1:=(hn l.head!.1).symm
 refine s5 _ _ ?_
 refine nt kE ⟨rfl,_,_,_,.inr (hI _ _ hg),rfl⟩ ?_
 dsimp only
 refine EO (enc:=yr) rfl (.inr (hI _ _ hM)) hm fun g oi hg1 hg2 ho=>?_
 refine aj fun _ hl=>?_
 exact Wp.mono (A7 (hI _ _ hM) hlen (fun done m hj=>(hS done m hj).2) hr _ l [] m [] _ oi g _ rfl ho (List.Perm.refl _) hJ (by rw[List.append_nil])) fun _ _ hq=>cl_.of hq
theorem BA{I:Ctx}{M:Nat}:Fn Tryz.prog 342 #[.map (some M)] I [] (fun v h'=> ∃g,v= .func (.func 343) #[] #[.pointer (some ⟨g,0,none⟩)]∧h'=[(g,.cells #[.map (some M)] 405 (0,0))]):=by
 refine yx _ ?_
 refine aP fun g hg hI=>?_
 exact aY (h1:=[(g,.cells #[.map (some M)] 405 (0,0))]) (g:=[]) (by simp[Value.cells]) ⟨g,rfl,rfl⟩
theorem C4{I':Ctx}{L M:Nat}{r:Loop}{l:List (_×Value)}{om:Obj}{J:List _→Mem→Prop}(hI:I' M=some om)(hlen:r.params.size=1)
  (hst: ∀done m,J done m→(L,Obj.loop r)∈m)
  (hr: ∀done k rest m,(done++k::rest).Perm (l.map (·.1))→J done m→ ∀I'',(∀b o,I' b=some o→I'' b=some o)→
   bU Tryz.prog L r.fn ((r.params.zip ⟨[BR k]⟩).foldl (fun tmps (t,a)=>tmps.setIfInBounds t a) r.tmps) r.assign r.body I'' m (cl_ fun v m'=>v= .bool true∧J (done++[k]) m')):
  ∀(n:Nat) (rem:List (_×Value)) (done:List _) (m hx h:Mem) (oi:Obj) (y:Nat) (u:Nat→Value),rem.length=n→Itr BR M l rem om oi→(done++rem.map (·.1)).Perm (l.map (·.1))→J done m→h.Perm ((y,oi)::(m++hx))→
  Wp Tryz.prog 295 d5 (d6 (.func (.yield L) #[] #[]) y u) I' h (cl_ fun _ m'=> ∃ks,ks.Perm (l.map (·.1))∧J ks m'):=by
 intro n
 induction n with
 |zero=>
  intro rem done m hx h oi y u hn ho hd hj hp
  obtain rfl:rem=[]:=List.eq_nil_of_length_eq_zero hn
  refine j9 _ _ _ ?_
  refine z6 (cl_.aff _) (.inr hI) hp ho (fun _=>?_) (fun p hp'=>by cases hp')
  refine lF (fun _=>{b:=false}) rfl ?_
  refine b7 rfl ?_
  exact aY (h1:=m) (g:=(y,oi)::hx) (hp.trans List.perm_middle.symm) ⟨done,by simpa using hd,hj⟩
 |succ n ih=>
  intro rem done m hx h oi y u hn ho hd hj hp
  refine j9 _ _ _ ?_
  refine z6 (cl_.aff _) (.inr hI) hp ho (fun he=>by rw[he]at hn;cases hn) (fun p hp' oi' ho' hc=>?_)
  refine lF (fun _=>{b:=true}) rfl ?_
  refine aX rfl ?_
  refine Fk (.inl mq0) (.inr hI) hc (ag [{i:=p.1.1},{i:=p.1.2},{v:=p.2}]) rfl ?_
  dsimp only[ag]
  refine aP fun _ _ _=>?_;dsimp only[ag];refine stU uE kE rE vE ?_;refine lz mE rE kE ?_;dsimp only[ag]
  have hrd:=hr done p.1 ((q4 rem p.1).map (·.1)) m (((jh hp').append_left done).symm.trans hd) hj
  refine ne m (_::(y,oi')::hx) (.inl (yq2.mem_iff.2 (List.mem_append_left _ (hst _ _ hj)))) hlen.symm yq2 (fun hl=>hrd _ (fK hl yq2)) ?_
  rintro v h1 ⟨h2,gg,hpg,rfl,hj2⟩
  refine⟨fun _=>{b:=true},rfl,?_⟩
  refine b7 rfl ?_
  refine aj fun _ hl=>?_
  refine ih (q4 rem p.1) (done++[p.1]) h2 _ _ oi' y _ (by have:=BG hp';omega) ho' ?_ hj2 (yf2 hpg)
  rw[List.append_assoc]
  exact((jh hp').append_left done).symm.trans hd
theorem C9{I:Ctx}{g0 M:Nat}{t:TypeId}{fz:Nat×Nat}{l:List (_×Value)}{om:Obj}(hg:I g0=some (.cells #[.map (some M)] t fz))(hM:I M=some om)(hm:Mp BR l om):
  iJ Tryz.prog 295 [.pointer (some ⟨g0,0,none⟩)] I Hv (fun k=>[BR k]) (l.map (·.1)):=by
 intro I' hI L r J m hn hS hr hJ
 have hlen:r.params.size=1:=(hn l.head!.1).symm
 refine uJ _ _ ?_
 refine nt kE ⟨rfl,_,_,_,.inr (hI _ _ hg),rfl⟩ ?_
 dsimp only
 refine EO (enc:=BR) rfl (.inr (hI _ _ hM)) hm fun g oi hg1 hg2 ho=>?_
 refine aj fun _ hl=>?_
 exact Wp.mono (C4 (hI _ _ hM) hlen (fun done m hj=>(hS done m hj).2) hr _ l [] m [] _ oi g _ rfl ho (List.Perm.refl _) hJ (by rw[List.append_nil])) fun _ _ hq=>cl_.of hq
theorem Dq{I:Ctx}{M:Nat}:Fn Tryz.prog 289 #[.map (some M)] I [] (fun v h'=> ∃g,v= .func (.func 295) #[] #[.pointer (some ⟨g,0,none⟩)]∧h'=[(g,.cells #[.map (some M)] 202 (0,0))]):=by
 refine zk _ ?_
 refine aP fun g hg hI=>?_
 exact aY (h1:=[(g,.cells #[.map (some M)] 202 (0,0))]) (g:=[]) (by simp[Value.cells]) ⟨g,rfl,rfl⟩
theorem D5{I':Ctx}{L M:Nat}{r:Loop}{l:List (_×Value)}{om:Obj}{J:List _→Mem→Prop}(hI:I' M=some om)(hlen:r.params.size=1)
  (hst: ∀done m,J done m→(L,Obj.loop r)∈m)
  (hr: ∀done k rest m,(done++k::rest).Perm (l.map (·.1))→J done m→ ∀I'',(∀b o,I' b=some o→I'' b=some o)→
   bU Tryz.prog L r.fn ((r.params.zip ⟨[FJ k]⟩).foldl (fun tmps (t,a)=>tmps.setIfInBounds t a) r.tmps) r.assign r.body I'' m (cl_ fun v m'=>v= .bool true∧J (done++[k]) m')):
  ∀(n:Nat) (rem:List (_×Value)) (done:List _) (m hx h:Mem) (oi:Obj) (y:Nat) (u:Nat→Value),rem.length=n→Itr FJ M l rem om oi→(done++rem.map (·.1)).Perm (l.map (·.1))→J done m→h.Perm ((y,oi)::(m++hx))→
  Wp Tryz.prog 106 eJ (ez (.func (.yield L) #[] #[]) y u) I' h (cl_ fun _ m'=> ∃ks,ks.Perm (l.map (·.1))∧J ks m'):=by
 intro n
 induction n with
 |zero=>
  intro rem done m hx h oi y u hn ho hd hj hp
  obtain rfl:rem=[]:=List.eq_nil_of_length_eq_zero hn
  refine kK _ _ _ ?_
  refine z6 (cl_.aff _) (.inr hI) hp ho (fun _=>?_) (fun p hp'=>by cases hp')
  refine lF (fun _=>{b:=false}) rfl ?_
  refine b7 rfl ?_
  exact aY (h1:=m) (g:=(y,oi)::hx) (hp.trans List.perm_middle.symm) ⟨done,by simpa using hd,hj⟩
 |succ n ih=>
  intro rem done m hx h oi y u hn ho hd hj hp
  refine kK _ _ _ ?_
  refine z6 (cl_.aff _) (.inr hI) hp ho (fun he=>by rw[he]at hn;cases hn) (fun p hp' oi' ho' hc=>?_)
  refine lF (fun _=>{b:=true}) rfl ?_
  refine aX rfl ?_
  refine Fk (.inl mq0) (.inr hI) hc (ag [{i:=p.1.1},{i:=p.1.2.1},{i:=p.1.2.2.1},{i:=p.1.2.2.2},{v:=p.2}]) rfl ?_
  dsimp only[ag]
  refine aP fun _ _ _=>?_;dsimp only[ag];refine stU uE kE rE vE ?_;refine la9 mE rE kE ?_;dsimp only[ag]
  have hrd:=hr done p.1 ((q4 rem p.1).map (·.1)) m (((jh hp').append_left done).symm.trans hd) hj
  refine ne m (_::(y,oi')::hx) (.inl (yq2.mem_iff.2 (List.mem_append_left _ (hst _ _ hj)))) hlen.symm yq2 (fun hl=>hrd _ (fK hl yq2)) ?_
  rintro v h1 ⟨h2,gg,hpg,rfl,hj2⟩
  refine⟨fun _=>{b:=true},rfl,?_⟩
  refine b7 rfl ?_
  refine aj fun _ hl=>?_
  refine ih (q4 rem p.1) (done++[p.1]) h2 _ _ oi' y _ (by have:=BG hp';omega) ho' ?_ hj2 (yf2 hpg)
  rw[List.append_assoc]
  exact((jh hp').append_left done).symm.trans hd
theorem DG{I:Ctx}{g0 M:Nat}{t:TypeId}{fz:Nat×Nat}{l:List (_×Value)}{om:Obj}(hg:I g0=some (.cells #[.map (some M)] t fz))(hM:I M=some om)(hm:Mp FJ l om):
  iJ Tryz.prog 106 [.pointer (some ⟨g0,0,none⟩)] I Hv (fun k=>[FJ k]) (l.map (·.1)):=by
 intro I' hI L r J m hn hS hr hJ
 have hlen:r.params.size=1:=(hn l.head!.1).symm
 refine vy _ _ ?_
 refine nt kE ⟨rfl,_,_,_,.inr (hI _ _ hg),rfl⟩ ?_
 dsimp only
 refine EO (enc:=FJ) rfl (.inr (hI _ _ hM)) hm fun g oi hg1 hg2 ho=>?_
 refine aj fun _ hl=>?_
 exact Wp.mono (D5 (hI _ _ hM) hlen (fun done m hj=>(hS done m hj).2) hr _ l [] m [] _ oi g _ rfl ho (List.Perm.refl _) hJ (by rw[List.append_nil])) fun _ _ hq=>cl_.of hq
theorem DC{I:Ctx}{M:Nat}:Fn Tryz.prog 85 #[.map (some M)] I [] (fun v h'=> ∃g,v= .func (.func 106) #[] #[.pointer (some ⟨g,0,none⟩)]∧h'=[(g,.cells #[.map (some M)] 98 (0,0))]):=by
 refine AG _ ?_
 refine aP fun g hg hI=>?_
 exact aY (h1:=[(g,.cells #[.map (some M)] 98 (0,0))]) (g:=[]) (by simp[Value.cells]) ⟨g,rfl,rfl⟩
section
variable {P:Program} {I:Ctx}
theorem zL{h:Mem}{fn:Func}{τ:List Value}{t:Tmp}{v:Value}{Q:Value→Prop}(hr:fn.results.toList=[.tmp t])(hv:τ.getD t undef=v)(hq:Q v):rwp P I h (results fn ⟨τ⟩) Q:=by
 refine ve ?_
 rw[hr]
 simp only[List.mapM_cons,List.mapM_nil,wg,cH,u9,hv]
 exact hq
theorem QB{h:Mem}{fn:Func}{τ:List Value}{Q:Value→Prop}(hr:fn.results.toList=[])(hq:Q undef):rwp P I h (results fn ⟨τ⟩) Q:=by
 refine ve ?_
 rw[hr]
 exact hq
end
abbrev Og(ty sz:Nat){κ:Type}(enc:κ→List Value)(y ts:Nat)(done:List κ)(m:Mem):Prop:= ∃A c m',m=(y,.cells #[.slice A done.length c] ts (0,0))::m'∧Own ty sz A done.length c (done.flatMap enc) m'
theorem Dw{I:Ctx}{L D y2:Nat}{τ:List Value}{done:List Int}{k:Int}{m:Mem}(hj:Og 3 1 (fun k=>[Value.int .i64 k]) y2 71 done m)(hbd:done.length≤1000000)(u:Nat→Value):
  Wp Tryz.prog {fn:=305,rd:=some L} jH (dP y2 none 0 0 k u) I ((L,.loop (kH 305 τ #[7] (ra (bd (sr (sl (sr ax))))) (rb (bd (sr (sl (sr ax))))) D))::m)
   (cl_ fun v m'=>v= .bool true∧ ∃m2,m'=(L,.loop (kH 305 τ #[7] (ra (bd (sr (sl (sr ax))))) (rb (bd (sr (sl (sr ax))))) D))::m2∧Og 3 1 (fun k=>[Value.int .i64 k]) y2 71 (done++[k]) m2):=by
 obtain⟨A,c,m',rfl,ho⟩:=hj
 refine qe _ _ _ _ _ _ ?_
 skip
 refine aj fun _ hl2=>?_
 refine Wp.beginRound (l:=L) (i:=0) (r:=kH 305 τ #[7] (ra (bd (sr (sl (sr ax))))) (rb (bd (sr (sl (sr ax))))) D) rfl rfl rfl ?_
 refine qP _ _ _ _ _ _ ?_
 refine ldL mE rE kE ?_;dsimp only[ag]
 refine gK (e:=3) ⟨(fun k=>[Value.int .i64 k]) k⟩ kE fun g hg hI=>?_
 dsimp only
 refine bP (cl_.aff _) IH kE (cs2:=(fun k=>[Value.int .i64 k]) k) (fun _=>⟨_,rfl,cw (arr:=⟨(fun k=>[Value.int .i64 k]) k⟩) mE rfl⟩) (fun h=>by cases h) rfl (by simp) (m:=m') p1E ho (by omega) (by omega) ?_
 intro A2 c2 m2 ho2
 refine stU uE kE rE vE ?_;dsimp only[ag]
 refine aj fun _ hl3=>?_
 refine Wp.perm (h:=(L,.loop {kH 305 τ #[7] (ra (bd (sr (sl (sr ax))))) (rb (bd (sr (sl (sr ax))))) D with state:= .busy})::(((y2,.cells #[.slice A2 (done.length+1) c2] 71 (0,0))::m2)++_)) ?_ (List.Perm.symm (aM.perm (m:=[_,_]++m2) p1E))
 refine Wp.roundEnd (l:=L) (i:=0) rfl rfl ?_
 refine⟨_,_,List.Perm.refl _,rfl,_,rfl,A2,c2,m2,by simp,?_⟩
 rw[List.length_append,List.flatMap_append]
 simpa using ho2
theorem zT{I:Ctx}{L D y2:Nat}{τ:List Value}{done:List (Int×Int)}{k:(Int×Int)}{m:Mem}(hj:Og 45 2 (fun k=>[Value.int .u32 k.1,.int .i64 k.2]) y2 141 done m)(hbd:done.length≤1000000)(u:Nat→Value):
  Wp Tryz.prog {fn:=186,rd:=some L} io (cJ y2 none 0 0 k.1 k.2 u) I ((L,.loop (kH 186 τ #[7] (ra (bd (sr (sl (sr aq))))) (rb (bd (sr (sl (sr aq))))) D))::m)
   (cl_ fun v m'=>v= .bool true∧ ∃m2,m'=(L,.loop (kH 186 τ #[7] (ra (bd (sr (sl (sr aq))))) (rb (bd (sr (sl (sr aq))))) D))::m2∧Og 45 2 (fun k=>[Value.int .u32 k.1,.int .i64 k.2]) y2 141 (done++[k]) m2):=by
 obtain⟨A,c,m',rfl,ho⟩:=hj
 refine nI _ _ _ _ _ _ _ ?_
 refine bt Ca fun _ _ _=>?_;dsimp only[ag];refine stU uE kE rE vE ?_
 refine aj fun _ hl2=>?_
 refine Wp.beginRound (l:=L) (i:=1) (r:=kH 186 τ #[7] (ra (bd (sr (sl (sr aq))))) (rb (bd (sr (sl (sr aq))))) D) rfl rfl rfl ?_
 refine nu _ _ _ _ _ _ _ _ ?_
 refine ldL mE rE kE ?_;dsimp only[ag]
 refine lz mE rE kE ?_;dsimp only[ag]
 refine gK (e:=45) ⟨(fun k=>[Value.int .u32 k.1,.int .i64 k.2]) k⟩ kE fun g hg hI=>?_
 dsimp only
 refine bP (cl_.aff _) Gd kE (cs2:=(fun k=>[Value.int .u32 k.1,.int .i64 k.2]) k) (fun _=>⟨_,rfl,cw (arr:=⟨(fun k=>[Value.int .u32 k.1,.int .i64 k.2]) k⟩) mE rfl⟩) (fun h=>by cases h) rfl (by simp) (m:=m') p1E ho (by omega) (by omega) ?_
 intro A2 c2 m2 ho2
 refine stU uE kE rE vE ?_;dsimp only[ag]
 refine aj fun _ hl3=>?_
 refine Wp.perm (h:=(L,.loop {kH 186 τ #[7] (ra (bd (sr (sl (sr aq))))) (rb (bd (sr (sl (sr aq))))) D with state:= .busy})::(((y2,.cells #[.slice A2 (done.length+1) c2] 141 (0,0))::m2)++_)) ?_ (List.Perm.symm (aM.perm (m:=[_,_]++m2) p1E))
 refine Wp.roundEnd (l:=L) (i:=0) rfl rfl ?_
 refine⟨_,_,List.Perm.refl _,rfl,_,rfl,A2,c2,m2,by simp,?_⟩
 rw[List.length_append,List.flatMap_append]
 simpa using ho2
theorem AS{I:Ctx}{L D y2:Nat}{τ:List Value}{done:List (Int×Int×(Int×Int))}{k:(Int×Int×(Int×Int))}{m:Mem}(hj:Og 123 4 (fun k=>[Value.int .i64 k.1,.int .i64 k.2.1,.int .u32 k.2.2.1,.int .i64 k.2.2.2]) y2 178 done m)(hbd:done.length≤1000000)(u:Nat→Value):
  Wp Tryz.prog {fn:=126,rd:=some L} iI (cZ y2 none 0 0 k.1 k.2.1 k.2.2.1 k.2.2.2 u) I ((L,.loop (kH 126 τ #[7] (ra (bd (sr (sl (sr av))))) (rb (bd (sr (sl (sr av))))) D))::m)
   (cl_ fun v m'=>v= .bool true∧ ∃m2,m'=(L,.loop (kH 126 τ #[7] (ra (bd (sr (sl (sr av))))) (rb (bd (sr (sl (sr av))))) D))::m2∧Og 123 4 (fun k=>[Value.int .i64 k.1,.int .i64 k.2.1,.int .u32 k.2.2.1,.int .i64 k.2.2.2]) y2 178 (done++[k]) m2):=by
 obtain⟨A,c,m',rfl,ho⟩:=hj
 refine oP _ _ _ _ _ _ _ _ _ ?_
 refine bt BB fun _ _ _=>?_;dsimp only[ag];refine stU uE kE rE vE ?_
 refine aj fun _ hl2=>?_
 refine Wp.beginRound (l:=L) (i:=1) (r:=kH 126 τ #[7] (ra (bd (sr (sl (sr av))))) (rb (bd (sr (sl (sr av))))) D) rfl rfl rfl ?_
 refine o4 _ _ _ _ _ _ _ _ _ _ ?_
 refine ldL mE rE kE ?_;dsimp only[ag]
 refine la9 mE rE kE ?_;dsimp only[ag]
 refine gK (e:=123) ⟨(fun k=>[Value.int .i64 k.1,.int .i64 k.2.1,.int .u32 k.2.2.1,.int .i64 k.2.2.2]) k⟩ kE fun g hg hI=>?_
 dsimp only
 refine bP (cl_.aff _) OW kE (cs2:=(fun k=>[Value.int .i64 k.1,.int .i64 k.2.1,.int .u32 k.2.2.1,.int .i64 k.2.2.2]) k) (fun _=>⟨_,rfl,cw (arr:=⟨(fun k=>[Value.int .i64 k.1,.int .i64 k.2.1,.int .u32 k.2.2.1,.int .i64 k.2.2.2]) k⟩) mE rfl⟩) (fun h=>by cases h) rfl (by simp) (m:=m') p1E ho (by omega) (by omega) ?_
 intro A2 c2 m2 ho2
 refine stU uE kE rE vE ?_;dsimp only[ag]
 refine aj fun _ hl3=>?_
 refine Wp.perm (h:=(L,.loop {kH 126 τ #[7] (ra (bd (sr (sl (sr av))))) (rb (bd (sr (sl (sr av))))) D with state:= .busy})::(((y2,.cells #[.slice A2 (done.length+1) c2] 178 (0,0))::m2)++_)) ?_ (List.Perm.symm (aM.perm (m:=[_,_]++m2) p1E))
 refine Wp.roundEnd (l:=L) (i:=0) rfl rfl ?_
 refine⟨_,_,List.Perm.refl _,rfl,_,rfl,A2,c2,m2,by simp,?_⟩
 rw[List.length_append,List.flatMap_append]
 simpa using ho2
theorem iJ.up{P:Program}{fn:FuncId}{caps:List Value}{I I2:Ctx}{S:Ctx→Mem→Prop}{κ:Type}{args:κ→List Value}{keys:List κ}(h:iJ P fn caps I S args keys)(hs: ∀b o,I b=some o→I2 b=some o):iJ P fn caps I2 S args keys:=
 fun I' hI=>h I' fun b o hb=>hI b o (hs b o hb)
abbrev tZ(ty sz:Nat){κ:Type}(enc:κ→List Value)(keys:List κ)(v:Value)(h':Mem):Prop:= ∃(A:Option Addr) (c:Nat) (ks:List κ),v= .slice A ks.length c∧ks.Perm keys∧Own ty sz A ks.length c (ks.flatMap enc) h'
theorem EU{a1:Value}{y2:Nat}{A:Option Addr}{n c:Nat}{k:Int}(u:Nat→Value):
  ((#[7]:Array Tmp).zip ⟨[.int .i64 k]⟩).foldl (fun tmps (t,a)=>tmps.setIfInBounds t a) (⟨cz a1 y2 A n c u⟩:Array Value)=⟨dP y2 A n c k (fun i=>if i=6 then a1 else u i)⟩:=by
 simp[cz,dP]
theorem Dv{I:Ctx}{fn:FuncId}{caps:List Value}{keys:List Int}(hca:af Tryz.prog fn)(hio:iJ Tryz.prog fn caps I Hv (fun k=>[.int .i64 k]) keys)(hlen:keys.length≤1000000){g:Nat}(u:Nat→Value):
  Wp Tryz.prog 305 fZ (cz (.func (.func fn) #[] ⟨caps⟩) g none 0 0 u) I [(g,.cells #[.slice none 0 0] 71 (0,0))] (cl_ (tZ 3 1 (fun k=>[Value.int .i64 k]) keys)):=by
 rw[show fZ= .code (.rangeFunc (.tmp 6) #[7] (ra (bd (sr (sl (sr ax))))) (rb (bd (sr (sl (sr ax))))))::jC by kernel_rfl]
 refine Wp.rangeIter rfl rfl hca [(g,.cells #[.slice none 0 0] 71 (0,0))] [] (by simp) (fun hl=>hio) (fun done m=>Og 3 1 (fun k=>[Value.int .i64 k]) g 71 done m) ⟨none,0,[],rfl,Own.nil _ _⟩ (fun k=>rfl) (fun _ _ _ _ _ _ _=>trivial) ?_ ?_
 ·intro L D done k rest m hper hj I' hI'
  have hbd:done.length≤1000000:=by
   have:=hper.length_eq
   simp at this
   omega
  rw[EU]
  exact bU.of (Dw hj hbd _)
 ·intro L D ks m hper hj
  obtain⟨A,c,m',rfl,ho⟩:=hj
  refine qA g (fun i=>(cz (.func (.func fn) #[] ⟨caps⟩) g none 0 0 u).getD i undef) ?_
  refine ldL (A:=A) (n:=ks.length) (c:=c) (show _∈_ from mq1 (mq1 mq0)) rfl kE ?_
  refine aj fun _ hl2=>?_
  rw[show jM= .code .ret::[] by kernel_rfl]
  refine Wp.retD (D:=D) (i:=1) rfl rfl (.inr ⟨_,rfl⟩) Tryz.func305 rfl ?_
  refine zL (t:=4) (v:= .slice A ks.length c) rfl rfl ?_
  exact⟨m',_,p1E,A,c,ks,rfl,hper,ho⟩
theorem EK{I:Ctx}{fn:FuncId}{caps:List Value}{keys:List Int}(hca:af Tryz.prog fn)(hio:iJ Tryz.prog fn caps I Hv (fun k=>[.int .i64 k]) keys)(hlen:keys.length≤1000000):
  Fn Tryz.prog 305 #[.slice none 0 0,.func (.func fn) #[] ⟨caps⟩] I [] (tZ 3 1 (fun k=>[Value.int .i64 k]) keys):=by
 refine tn _ _ _ _ ?_
 refine aP fun g hg hI=>?_
 exact aj fun _ hl=>Dv hca hio hlen _
theorem E0{I:Ctx}{fn:FuncId}{caps:List Value}{keys:List Int}(hca:af Tryz.prog fn)(hio:iJ Tryz.prog fn caps I Hv (fun k=>[.int .i64 k]) keys)(hlen:keys.length≤1000000):
  Fn Tryz.prog 302 #[.func (.func fn) #[] ⟨caps⟩] I [] (tZ 3 1 (fun k=>[Value.int .i64 k]) keys):=by
 refine vg _ ?_
 refine ak [] _ ry (List.Perm.refl _) (fun hl=>EK hca (hio.up (fK (m:=[]) hl (List.Perm.refl _))) hlen) ?_
 rintro v h1 ⟨A,c,ks,rfl,hp,ho⟩
 refine⟨fun _=>{A:=A,n:=ks.length,c:=c},rfl,?_⟩
 exact aY p1E ⟨A,c,ks,rfl,hp,ho⟩
theorem Az{a1:Value}{y2:Nat}{A:Option Addr}{n c:Nat}{k:(Int×Int)}(u:Nat→Value):
  ((#[7]:Array Tmp).zip ⟨[.agg #[.int .u32 k.1,.int .i64 k.2]]⟩).foldl (fun tmps (t,a)=>tmps.setIfInBounds t a) (⟨bQ a1 y2 A n c u⟩:Array Value)=⟨cJ y2 A n c k.1 k.2 (fun i=>if i=6 then a1 else u i)⟩:=by
 simp[bQ,cJ]
theorem zM{I:Ctx}{fn:FuncId}{caps:List Value}{keys:List (Int×Int)}(hca:af Tryz.prog fn)(hio:iJ Tryz.prog fn caps I Hv (fun k=>[.agg #[.int .u32 k.1,.int .i64 k.2]]) keys)(hlen:keys.length≤1000000){g:Nat}(u:Nat→Value):
  Wp Tryz.prog 186 ef (bQ (.func (.func fn) #[] ⟨caps⟩) g none 0 0 u) I [(g,.cells #[.slice none 0 0] 141 (0,0))] (cl_ (tZ 45 2 (fun k=>[Value.int .u32 k.1,.int .i64 k.2]) keys)):=by
 rw[show ef= .code (.rangeFunc (.tmp 6) #[7] (ra (bd (sr (sl (sr aq))))) (rb (bd (sr (sl (sr aq))))))::im by kernel_rfl]
 refine Wp.rangeIter rfl rfl hca [(g,.cells #[.slice none 0 0] 141 (0,0))] [] (by simp) (fun hl=>hio) (fun done m=>Og 45 2 (fun k=>[Value.int .u32 k.1,.int .i64 k.2]) g 141 done m) ⟨none,0,[],rfl,Own.nil _ _⟩ (fun k=>rfl) (fun _ _ _ _ _ _ _=>trivial) ?_ ?_
 ·intro L D done k rest m hper hj I' hI'
  have hbd:done.length≤1000000:=by
   have:=hper.length_eq
   simp at this
   omega
  rw[Az]
  exact bU.of (zT hj hbd _)
 ·intro L D ks m hper hj
  obtain⟨A,c,m',rfl,ho⟩:=hj
  refine n9 g (fun i=>(bQ (.func (.func fn) #[] ⟨caps⟩) g none 0 0 u).getD i undef) ?_
  refine ldL (A:=A) (n:=ks.length) (c:=c) (show _∈_ from mq1 (mq1 mq0)) rfl kE ?_
  refine aj fun _ hl2=>?_
  rw[show iz= .code .ret::[] by kernel_rfl]
  refine Wp.retD (D:=D) (i:=1) rfl rfl (.inr ⟨_,rfl⟩) Tryz.func186 rfl ?_
  refine zL (t:=4) (v:= .slice A ks.length c) rfl rfl ?_
  exact⟨m',_,p1E,A,c,ks,rfl,hper,ho⟩
theorem Bp{I:Ctx}{fn:FuncId}{caps:List Value}{keys:List (Int×Int)}(hca:af Tryz.prog fn)(hio:iJ Tryz.prog fn caps I Hv (fun k=>[.agg #[.int .u32 k.1,.int .i64 k.2]]) keys)(hlen:keys.length≤1000000):
  Fn Tryz.prog 186 #[.slice none 0 0,.func (.func fn) #[] ⟨caps⟩] I [] (tZ 45 2 (fun k=>[Value.int .u32 k.1,.int .i64 k.2]) keys):=by
 refine pJ _ _ _ _ ?_
 refine aP fun g hg hI=>?_
 exact aj fun _ hl=>zM hca hio hlen _
theorem AI{I:Ctx}{fn:FuncId}{caps:List Value}{keys:List (Int×Int)}(hca:af Tryz.prog fn)(hio:iJ Tryz.prog fn caps I Hv (fun k=>[.agg #[.int .u32 k.1,.int .i64 k.2]]) keys)(hlen:keys.length≤1000000):
  Fn Tryz.prog 183 #[.func (.func fn) #[] ⟨caps⟩] I [] (tZ 45 2 (fun k=>[Value.int .u32 k.1,.int .i64 k.2]) keys):=by
 refine r8 _ ?_
 refine ak [] _ oJ (List.Perm.refl _) (fun hl=>Bp hca (hio.up (fK (m:=[]) hl (List.Perm.refl _))) hlen) ?_
 rintro v h1 ⟨A,c,ks,rfl,hp,ho⟩
 refine⟨fun _=>{A:=A,n:=ks.length,c:=c},rfl,?_⟩
 exact aY p1E ⟨A,c,ks,rfl,hp,ho⟩
theorem Cz{a1:Value}{y2:Nat}{A:Option Addr}{n c:Nat}{k:(Int×Int×(Int×Int))}(u:Nat→Value):
  ((#[7]:Array Tmp).zip ⟨[.agg #[.int .i64 k.1,.int .i64 k.2.1,.int .u32 k.2.2.1,.int .i64 k.2.2.2]]⟩).foldl (fun tmps (t,a)=>tmps.setIfInBounds t a) (⟨bX a1 y2 A n c u⟩:Array Value)=⟨cZ y2 A n c k.1 k.2.1 k.2.2.1 k.2.2.2 (fun i=>if i=6 then a1 else u i)⟩:=by
 simp[bX,cZ]
theorem Bu{I:Ctx}{fn:FuncId}{caps:List Value}{keys:List (Int×Int×(Int×Int))}(hca:af Tryz.prog fn)(hio:iJ Tryz.prog fn caps I Hv (fun k=>[.agg #[.int .i64 k.1,.int .i64 k.2.1,.int .u32 k.2.2.1,.int .i64 k.2.2.2]]) keys)(hlen:keys.length≤1000000){g:Nat}(u:Nat→Value):
  Wp Tryz.prog 126 eS (bX (.func (.func fn) #[] ⟨caps⟩) g none 0 0 u) I [(g,.cells #[.slice none 0 0] 178 (0,0))] (cl_ (tZ 123 4 (fun k=>[Value.int .i64 k.1,.int .i64 k.2.1,.int .u32 k.2.2.1,.int .i64 k.2.2.2]) keys)):=by
 rw[show eS= .code (.rangeFunc (.tmp 6) #[7] (ra (bd (sr (sl (sr av))))) (rb (bd (sr (sl (sr av))))))::iM by kernel_rfl]
 refine Wp.rangeIter rfl rfl hca [(g,.cells #[.slice none 0 0] 178 (0,0))] [] (by simp) (fun hl=>hio) (fun done m=>Og 123 4 (fun k=>[Value.int .i64 k.1,.int .i64 k.2.1,.int .u32 k.2.2.1,.int .i64 k.2.2.2]) g 178 done m) ⟨none,0,[],rfl,Own.nil _ _⟩ (fun k=>rfl) (fun _ _ _ _ _ _ _=>trivial) ?_ ?_
 ·intro L D done k rest m hper hj I' hI'
  have hbd:done.length≤1000000:=by
   have:=hper.length_eq
   simp at this
   omega
  rw[Cz]
  exact bU.of (AS hj hbd _)
 ·intro L D ks m hper hj
  obtain⟨A,c,m',rfl,ho⟩:=hj
  refine o6 g (fun i=>(bX (.func (.func fn) #[] ⟨caps⟩) g none 0 0 u).getD i undef) ?_
  refine ldL (A:=A) (n:=ks.length) (c:=c) (show _∈_ from mq1 (mq1 mq0)) rfl kE ?_
  refine aj fun _ hl2=>?_
  rw[show iT= .code .ret::[] by kernel_rfl]
  refine Wp.retD (D:=D) (i:=1) rfl rfl (.inr ⟨_,rfl⟩) Tryz.func126 rfl ?_
  refine zL (t:=4) (v:= .slice A ks.length c) rfl rfl ?_
  exact⟨m',_,p1E,A,c,ks,rfl,hper,ho⟩
theorem Cu{I:Ctx}{fn:FuncId}{caps:List Value}{keys:List (Int×Int×(Int×Int))}(hca:af Tryz.prog fn)(hio:iJ Tryz.prog fn caps I Hv (fun k=>[.agg #[.int .i64 k.1,.int .i64 k.2.1,.int .u32 k.2.2.1,.int .i64 k.2.2.2]]) keys)(hlen:keys.length≤1000000):
  Fn Tryz.prog 126 #[.slice none 0 0,.func (.func fn) #[] ⟨caps⟩] I [] (tZ 123 4 (fun k=>[Value.int .i64 k.1,.int .i64 k.2.1,.int .u32 k.2.2.1,.int .i64 k.2.2.2]) keys):=by
 refine qw _ _ _ _ ?_
 refine aP fun g hg hI=>?_
 exact aj fun _ hl=>Bu hca hio hlen _
theorem Cn{I:Ctx}{fn:FuncId}{caps:List Value}{keys:List (Int×Int×(Int×Int))}(hca:af Tryz.prog fn)(hio:iJ Tryz.prog fn caps I Hv (fun k=>[.agg #[.int .i64 k.1,.int .i64 k.2.1,.int .u32 k.2.2.1,.int .i64 k.2.2.2]]) keys)(hlen:keys.length≤1000000):
  Fn Tryz.prog 104 #[.func (.func fn) #[] ⟨caps⟩] I [] (tZ 123 4 (fun k=>[Value.int .i64 k.1,.int .i64 k.2.1,.int .u32 k.2.2.1,.int .i64 k.2.2.2]) keys):=by
 refine sY _ ?_
 refine ak [] _ pZ (List.Perm.refl _) (fun hl=>Cu hca (hio.up (fK (m:=[]) hl (List.Perm.refl _))) hlen) ?_
 rintro v h1 ⟨A,c,ks,rfl,hp,ho⟩
 refine⟨fun _=>{A:=A,n:=ks.length,c:=c},rfl,?_⟩
 exact aY p1E ⟨A,c,ks,rfl,hp,ho⟩
section
open Go.Sort
abbrev pfV(p:Int×Int):Value:= .agg #[.int .u32 p.1,.int .i64 p.2]
abbrev pfC(p:Int×Int):List Value:=[.int .u32 p.1,.int .i64 p.2]
def GV(p q:Int×Int):Bool:=if p.1 !=q.1 then decide (p.1<q.1)else decide (p.2<q.2)
def Rj(p q:Int×Int):Int:=if GV p q then -1 else if p=q then 0 else 1
theorem Mj{I:Ctx}{p q:Int×Int}:Fn Tryz.prog 107 #[pfV p,pfV q] I [] (fun v h'=>v= .bool (GV p q)∧h'=[]):=by
 refine Fg _ _ _ _ ?_
 refine aP fun _ _ _=>?_;dsimp only[ag];refine aP fun _ _ _=>?_;dsimp only[ag];refine ldI mE rE kE ?_;dsimp only[ag];refine ldI mE rE kE ?_;dsimp only[ag]
 unfold GV
 refine ay (fun t=>?_) (fun t=>?_)
 ·refine ldI mE rE kE ?_;dsimp only[ag];refine ldI mE rE kE ?_;dsimp only[ag]
  rw[t]
  exact aC ⟨rfl,rfl⟩
 ·refine ldI mE rE kE ?_;dsimp only[ag];refine ldI mE rE kE ?_;dsimp only[ag]
  rw[t]
  exact aC ⟨rfl,rfl⟩
theorem Pd{p q:Int×Int}:[p.1==q.1,p.2==q.2].all id=decide (p=q):=by
 simp[Prod.ext_iff];rfl
theorem pT{I:Ctx}{p q:Int×Int}:Fn Tryz.prog 290 #[pfV p,pfV q] I [] (fun v h'=>v= .int .i64 (Rj p q)∧h'=[]):=by
 refine q9 _ _ _ _ ?_
 refine aP fun _ _ _=>?_;dsimp only[ag];refine aP fun _ _ _=>?_;dsimp only[ag];refine lz mE rE kE ?_;dsimp only[ag];refine lz mE rE kE ?_;dsimp only[ag]
 refine aA (fun _=>{b:=GV p q}) D4 (fun hl=>Mj) rfl ?_
 dsimp only
 unfold Rj
 refine ay (fun t=>?_) (fun t=>?_)
 ·rw[if_pos t]
  exact aC ⟨rfl,rfl⟩
 ·rw[if_neg (by rw[t];simp)]
  refine lz mE rE kE ?_;dsimp only[ag];refine lz mE rE kE ?_;dsimp only[ag]
  refine Jz [p.1==q.1,p.2==q.2] kE kE ?_
  dsimp only
  rw[Pd]
  refine ay (fun t2=>?_) (fun t2=>?_)
  ·rw[if_pos (by simpa using t2)]
   exact aC ⟨rfl,rfl⟩
  ·rw[if_neg (by simpa using t2)]
   exact aC ⟨rfl,rfl⟩
theorem H9(p q:Int×Int):ltOf Rj p q=GV p q:=by
 unfold ltOf Rj
 cases h:GV p q with
 |true=>rfl
 |false=>
  by_cases e:p=q
  ·simp[e]
  ·simp[e]
theorem Cp(p q:Int×Int):GV p q=true↔p.1<q.1∨(p.1=q.1∧p.2<q.2):=by
 unfold GV
 by_cases h:p.1=q.1
 ·simp[h]
 ·simp[h]
theorem Tq:SWO (ltOf Rj)where
 irrefl x:=by
  rw[H9,Bool.eq_false_iff]
  intro h
  rcases(Cp _ _).1 h with h|h<;>omega
 trans x y z h1 h2:=by
  rw[H9]at h1 h2⊢
  rw[Cp]at*
  omega
 ntrans x y z h1 h2:=by
  rw[H9,Bool.eq_false_iff,ne_eq,Cp]at*
  omega
theorem H8(l:List Int):l.flatMap (fun k=>[Value.int .i64 k])=l.map (Value.int .i64):=by
 induction l with
 |nil=>rfl
 |cons a l ih=>rw[List.flatMap_cons,ih];rfl
theorem ut{I:Ctx}{fn:FuncId}{caps:List Value}{keys:List Int}(hca:af Tryz.prog fn)(hio:iJ Tryz.prog fn caps I Hv (fun k=>[.int .i64 k]) keys)(hlen:keys.length≤1000000):
  Fn Tryz.prog 297 #[.func (.func fn) #[] ⟨caps⟩] I [] (tZ 3 1 (fun k=>[Value.int .i64 k]) keys):=by
 refine xi _ ?_
 refine ak [] _ tH (List.Perm.refl _) (fun hl=>E0 hca (hio.up (fK (m:=[]) hl (List.Perm.refl _))) hlen) ?_
 rintro v h1 ⟨A,c,ks,rfl,hp,ho⟩
 refine⟨fun _=>{A:=A,n:=ks.length,c:=c},rfl,?_⟩
 dsimp only
 rw[H8]at ho
 have hle:=hp.length_eq
 refine ak h1 [] xO (by simp) (fun hl=>KS ho (by omega)) ?_
 rintro v h2 ⟨rfl,zs,hz,ho2⟩
 refine⟨fun _=>{v:=undef},rfl,?_⟩
 refine aY (h1:=h2) (g:=[]) (List.Perm.refl _) ⟨A,c,zs,by rw[hz.length_eq],hz.trans hp,?_⟩
 rw[H8,hz.length_eq]
 exact ho2
theorem wv{I:Ctx}{fn g:FuncId}{caps:List Value}{keys:List (Int×Int)}(hca:af Tryz.prog fn)(hcg:af Tryz.prog g)(hio:iJ Tryz.prog fn caps I Hv (fun k=>[pfV k]) keys)(hlen:keys.length≤1000000)
  (hf: ∀x y,Fn Tryz.prog g #[pfV x,pfV y] (fun _=>none) [] (fun v h'=>v= .int .i64 (Rj x y)∧h'=[])):
  Fn Tryz.prog 180 #[.func (.func fn) #[] ⟨caps⟩,.func (.func g) #[] #[]] I [] (tZ 45 2 pfC keys):=by
 refine oM _ _ ?_
 refine ak [] _ qk (List.Perm.refl _) (fun hl=>AI hca (hio.up (fK (m:=[]) hl (List.Perm.refl _))) hlen) ?_
 rintro v h1 ⟨A,c,ks,rfl,hp,ho⟩
 refine⟨fun _=>{A:=A,n:=ks.length,c:=c},rfl,?_⟩
 dsimp only
 have hle:=hp.length_eq
 refine ak h1 [] je (by simp) (fun hl=>Kf Tryz.sf184 rfl rfl je (k:=2) Tryz.isAgg45 Tryz.sizeOf45 (enc:=pfC) (fun _=>rfl) (by omega) (fun x v hv=>by simp at hv;rcases hv with rfl|rfl<;>rfl) Tq hcg hf rfl ho (by omega)) ?_
 rintro v h2 ⟨rfl,zs,hz,ho2⟩
 refine⟨fun _=>{v:=undef},rfl,?_⟩
 exact aY (h1:=h2) (g:=[]) (List.Perm.refl _) ⟨A,c,zs,by rw[hz.length_eq],hz.trans hp,by rw[hz.length_eq];exact ho2⟩
theorem yG{I:Ctx}{fn:FuncId}{fv:Value}{caps:List Value}(hca:af Tryz.prog fn)(hio:iJ Tryz.prog fn caps I Hv (fun k:Int×Int×(Int×Int)=>[.agg #[.int .i64 k.1,.int .i64 k.2.1,.int .u32 k.2.2.1,.int .i64 k.2.2.2]]) []):
  Fn Tryz.prog 84 #[.func (.func fn) #[] ⟨caps⟩,fv] I [] (fun v h'=> ∃A c,v= .slice A 0 c):=by
 refine pI _ _ ?_
 refine ak [] _ rT (List.Perm.refl _) (fun hl=>Cn hca (hio.up (fK (m:=[]) hl (List.Perm.refl _))) (by simp)) ?_
 rintro v h1 ⟨A,c,ks,rfl,hp,ho⟩
 obtain rfl:ks=[]:=hp.eq_nil
 refine⟨fun _=>{A:=A,n:=0,c:=c},rfl,?_⟩
 refine aA (v:=undef) (fun _=>{v:=undef}) jA (fun hl=>?_) rfl ?_
 ·refine Mf jA fun w hw=>?_
  refine(AnyF.slices_SortFunc_none Tryz.sf105 A c fv w).mono ?_
  rintro e w' ⟨rfl,rfl⟩
  exact⟨rfl,Go.RowKit.Below.refl _ _,Nat.le_refl _⟩
 ·exact aC ⟨A,c,rfl⟩
end
section
variable {κ:Type} [DecidableEq κ] {α β:Type}
def ah:List (κ×α)→κ→Option α
 |[],_=>none
 |p::l,k=>if k=p.1 then some p.2 else ah l k
def aL:List (κ×α)→κ→α→List (κ×α)
 |[],k,v=>[(k,v)]
 |p::l,k,v=>if k=p.1 then(k,v)::l else p::aL l k v
def dq:List (κ×α)→κ→List (κ×α)
 |[],_=>[]
 |p::l,k=>if k=p.1 then l else p::dq l k
abbrev am(l:List (κ×α)):List κ:=l.map (·.1)
def mpv(f:α→β)(l:List (κ×α)):List (κ×β):=l.map fun p=>(p.1,f p.2)
theorem Hz(l:List (κ×Value))(k:κ):l.lookup k=ah l k:=by
 induction l with
 |nil=>rfl
 |cons p l ih=>
  rw[List.lookup,ah]
  by_cases h:k=p.1
  ·have:(k==p.1)=true:=by simpa using h
   rw[this,if_pos h]
  ·have:(k==p.1)=false:=by simpa using h
   rw[this,if_neg h];exact ih
theorem xJ(f:α→β)(l:List (κ×α))(k:κ):ah (mpv f l) k=(ah l k).map f:=by
 induction l with
 |nil=>rfl
 |cons p l ih=>
  show ah ((p.1,f p.2)::mpv f l) k=_
  rw[ah,ah]
  split
  ·rfl
  ·exact ih
theorem Ot(f:α→Value)(l:List (κ×α))(k:κ)(v:α):LJ (mpv f l) k (f v)=mpv f (aL l k v):=by
 induction l with
 |nil=>rfl
 |cons p l ih=>
  show LJ ((p.1,f p.2)::mpv f l) k (f v)=_
  rw[LJ,aL]
  split
  ·rfl
  ·rw[ih];rfl
theorem Ow(f:α→Value)(l:List (κ×α))(k:κ):q4 (mpv f l) k=mpv f (dq l k):=by
 induction l with
 |nil=>rfl
 |cons p l ih=>
  show q4 ((p.1,f p.2)::mpv f l) k=_
  rw[q4,dq]
  split
  ·rfl
  ·rw[ih];rfl
@[simp] theorem Rc{κ α β:Type}(f:α→β)(l:List (κ×α)):(mpv f l).length=l.length:=by simp[mpv]
theorem mpv_keys {κ α β:Type} (f:α→β) (l:List (κ×α)):(mpv f l).map (·.1)=am l:=by simp[mpv]
theorem bW{l:List (κ×α)}{k:κ}:ah l k=none↔k∉am l:=by
 induction l with
 |nil=>simp[ah]
 |cons p l ih=>
  rw[ah,am,List.map_cons,List.mem_cons,not_or]
  by_cases h:k=p.1
  ·simp[h]
  ·simp only[if_neg h,h,not_false_eq_true,true_and];exact ih
theorem aO{l:List (κ×α)}{k:κ}:(ah l k).isSome=true↔k∈am l:=by
 cases h:ah l k with
 |none=>simp[bW.1 h]
 |some v=>
  simp only[Option.isSome_some,true_iff]
  refine Classical.byContradiction fun hn=>?_
  rw[bW.2 hn]at h;cases h
theorem nb{l:List (κ×α)}{k:κ}{v:α}(h:ah l k=some v):(k,v)∈l:=by
 induction l with
 |nil=>cases h
 |cons p l ih=>
  rw[ah]at h
  split at h
  ·rename_i e;injection h with h;subst h;subst e;exact List.mem_cons_self
  ·exact List.mem_cons_of_mem _ (ih h)
theorem rU{l:List (κ×α)}{k:κ}{v:α}(hn:(am l).Nodup)(h:(k,v)∈l):ah l k=some v:=by
 induction l with
 |nil=>cases h
 |cons p l ih=>
  rw[am,List.map_cons,List.nodup_cons]at hn
  rw[ah]
  rcases List.mem_cons.1 h with rfl|h
  ·simp
  ·have hne:k≠p.1:=fun e=>hn.1 (by rw[←e];exact List.mem_map_of_mem (f:=(·.1)) h)
   rw[if_neg hne];exact ih hn.2 h
theorem aJ{l:List (κ×α)}{k k':κ}{v:α}:ah (aL l k v) k'=if k'=k then some v else ah l k':=by
 induction l with
 |nil=>rw[aL,ah];split<;>simp_all[ah]
 |cons p l ih=>
  rw[aL]
  by_cases h:k=p.1
  ·rw[if_pos h,ah,ah]
   by_cases h2:k'=k
   ·simp[h2]
   ·simp[h2,show k'≠p.1 from h▸h2]
  ·rw[if_neg h,ah,ah]
   by_cases h2:k'=p.1
   ·simp[h2,show p.1≠k from fun e=>h e.symm]
   ·rw[if_neg h2,if_neg h2];exact ih
theorem gL{l:List (κ×α)}{k:κ}{v:α}:am (aL l k v)=if k∈am l then am l else am l++[k]:=by
 induction l with
 |nil=>simp[aL]
 |cons p l ih=>
  rw[aL]
  by_cases h:k=p.1
  ·simp[h]
  ·rw[if_neg h]
   show p.1::am (aL l k v)=_
   rw[ih]
   show _=if k∈p.1::am l then p.1::am l else p.1::am l++[k]
   by_cases h2:k∈am l
   ·rw[if_pos h2,if_pos (List.mem_cons_of_mem _ h2)]
   ·rw[if_neg h2,if_neg (by rw[List.mem_cons,not_or];exact⟨h,h2⟩)];rfl
theorem jg{l:List (κ×α)}{k:κ}{v:α}(h:(am l).Nodup):(am (aL l k v)).Nodup:=by
 rw[gL]
 split
 ·exact h
 ·rename_i hk
  rw[List.nodup_append]
  refine⟨h,by simp,fun a ha b hb=>?_⟩
  simp only[List.mem_singleton]at hb
  subst hb
  exact fun e=>hk (e▸ha)
theorem L4{l:List (κ×α)}{k:κ}(h:k∉am l):dq l k=l:=by
 induction l with
 |nil=>rfl
 |cons p l ih=>
  rw[am,List.map_cons,List.mem_cons,not_or]at h
  rw[dq,if_neg h.1,ih h.2]
theorem pB{l:List (κ×α)}{k:κ}:(dq l k).Sublist l:=by
 induction l with
 |nil=>exact .slnil
 |cons p l ih=>
  rw[dq]
  split
  ·exact .cons _ (List.Sublist.refl _)
  ·exact .cons_cons _ ih
theorem lM{l:List (κ×α)}{k:κ}(h:(am l).Nodup):(am (dq l k)).Nodup:=h.sublist (pB.map _)
theorem db{l:List (κ×α)}{k k':κ}(hn:(am l).Nodup):ah (dq l k) k'=if k'=k then none else ah l k':=by
 induction l with
 |nil=>simp[dq,ah]
 |cons p l ih=>
  have hn':=hn
  rw[am,List.map_cons,List.nodup_cons]at hn
  rw[dq,ah]
  by_cases h:k=p.1
  ·rw[if_pos h]
   by_cases h2:k'=k
   ·rw[if_pos h2,h2];exact bW.2 (h▸hn.1)
   ·have h3:k'≠p.1:=fun e=>h2 (e.trans h.symm)
    rw[if_neg h2,if_neg h3]
  ·rw[if_neg h,ah]
   by_cases h2:k'=p.1
   ·have h3:k'≠k:=fun e=>h (e.symm.trans h2)
    rw[if_pos h2,if_neg h3,if_pos h2]
   ·rw[if_neg h2,if_neg h2];exact ih hn.2
theorem pM{l:List (κ×α)}{k:κ}{v:α}:(aL l k v).length=if k∈am l then l.length else l.length+1:=by
 have:=congrArg List.length (gL (l:=l) (k:=k) (v:=v))
 rw[am,List.length_map]at this
 rw[this]
 split<;>simp
theorem LO{l:List (κ×α)}{k:κ}:(dq l k).length≤l.length:=pB.length_le
end
def ky{κ:Type}[DecidableEq κ](enc:κ→Value){α:Type}(f:α→Value)(l:List (κ×α))(o:Obj):Prop:=Mp enc (mpv f l) o
section
variable {P:Program} {I:Ctx} {f:Ctl} {Q:Value→Mem→Prop} {h:Mem} {k:(Nat→jT)→Tr} {κ:Type} [DecidableEq κ] {α:Type}
theorem ky.nd{enc:κ→Value}{g:α→Value}{l:List (κ×α)}{o:Obj}(h:ky enc g l o):(am l).Nodup:=by
 obtain⟨es,ck,_,_,_,_,h4⟩:=h
 rw[mpv_keys]at h4
 exact h4
theorem ky.nil(enc:κ→Value)(g:α→Value):ky enc g [] (.map #[] 0):=Mp.nil enc
theorem dZ{mt kt et:TypeId}{enc:κ→Value}{g:α→Value}{sh:Sh}(hk:uq P kt enc)(ht:P.underlying mt=some (.map kt et)){z:Value}(hz:iC P et=some z){r:Nat}{l:List (κ×α)}{o:Obj}(hm:Has I h r o)(ho:ky enc g l o){x:κ}{ok:Bool}(lf:Nat→jT)
  (hv:(if ok then .tuple #[((ah l x).map g).getD z,.bool (ah l x).isSome]else((ah l x).map g).getD z)=sh.val lf)
  (hh:holds P f I Q (k lf) h):holds P f I Q (.rdn (vN (Instr.lookup mt (.map (some r)) (enc x) ok)) sh k) h:=by
 refine O6 hk ht hz hm ho lf ?_ hh
 rw[Hz,xJ]
 rw[←hv]
 simp
theorem uw(hQ:Aff Q){mt kt et:TypeId}{enc:κ→Value}{g:α→Value}(hk:uq P kt enc)(ht:P.underlying mt=some (.map kt et)){r:Nat}{l:List (κ×α)}{o:Obj}{hr:Mem}(hp:h.Perm ((r,o)::hr))(ho:ky enc g l o){x:κ}(v:α){vv:Value}(hvv:vv=g v)
  (hh: ∀o',ky enc g (aL l x v) o'→holds P f I Q (k fun _=>{}) ((r,o')::hr)):holds P f I Q (.gen (uN (Instr.mapUpdate mt (.map (some r)) (enc x) vv)) (.tup []) k) h:=by
 subst hvv
 refine Pc hQ hk ht hp ho fun o' ho'=>hh o' ?_
 rw[Ot]at ho'
 exact ho'
theorem C3(hQ:Aff Q){mt t2 ty kt et:TypeId}{cons:Array Bool}{enc:κ→Value}{g:α→Value}(hk:uq P kt enc)(ht:P.underlying mt=some (.map kt et)){r:Nat}{l:List (κ×α)}{o:Obj}{hr:Mem}(hp:h.Perm ((r,o)::hr))(ho:ky enc g l o){x:κ}
  (hh: ∀o',ky enc g (dq l x) o'→holds P f I Q (k fun _=>{}) ((r,o')::hr)):holds P f I Q (.nx (builtin .delete #[mt,t2] ty cons #[.map (some r),enc x]) (.tup []) k) h:=by
 refine OT hQ hk ht hp ho fun o' ho'=>hh o' ?_
 rw[Ow]at ho'
 exact ho'
theorem GT{mt ty kt et:TypeId}{cons:Array Bool}{enc:κ→Value}{g:α→Value}(ht:P.underlying mt=some (.map kt et)){r:Nat}{l:List (κ×α)}{o:Obj}(hm:Has I h r o)(ho:ky enc g l o)
  (hh:holds P f I Q (k fun _=>{i:=(l.length:Int)}) h):holds P f I Q (.rdn (builtin .len #[mt] ty cons #[.map (some r)]) (.one (.sc (.int .i64))) k) h:=by
 refine Pe ht hm ho ?_
 rw[Rc]
 exact hh
end
abbrev ptV(b:Nat):Value:= .pointer (some ⟨b,0,none⟩)
section
variable {κ:Type} [DecidableEq κ] {α:Type} {El:α→Nat→Mem→Prop}
def pQ(El:α→Nat→Mem→Prop):List (κ×α)→List (κ×Nat)→Mem→Prop
 |[],[],m=>m=[]
 |(k,x)::l,(k',b)::ps,m=>k'=k∧ ∃m1 m2,m=m1++m2∧El x b m1∧pQ El l ps m2
 |_,_,_=>False
theorem pQ.keys{κ α:Type}{El:α→Nat→Mem→Prop}: ∀{l:List (κ×α)} {ps:List (κ×Nat)} {m:Mem},pQ El l ps m→am ps=am l
 |[],[],_,_=>rfl
 |[],_::_,_,h=>h.elim
 |_::_,[],_,h=>h.elim
 |(k,x)::l,(k',b)::ps,m,⟨e,m1,m2,_,_,h⟩=>by
  show k'::am ps=k::am l
  rw[e,h.keys]
theorem pQ.get: ∀{l:List (κ×α)} {ps:List (κ×Nat)} {m:Mem} {k:κ} {x:α},pQ El l ps m→ah l k=some x→
  ∃b m1 mr,ah ps k=some b∧m.Perm (m1++mr)∧El x b m1∧ ∀x' m1',El x' b m1'→ ∃m',m'.Perm (m1'++mr)∧pQ El (aL l k x') ps m'
 |[],[],_,_,_,_,h=>by cases h
 |[],_::_,_,_,_,h,_=>h.elim
 |_::_,[],_,_,_,h,_=>h.elim
 |(k0,x0)::l,(k',b)::ps,m,k,x,⟨e,m1,m2,hm,he,h⟩,hx=>by
  subst e
  subst hm
  rw[ah]at hx
  by_cases hk:k=k'
  ·rw[if_pos hk]at hx
   injection hx with hx
   simp only at hx
   subst hx
   refine⟨b,m1,m2,by rw[ah,if_pos hk],List.Perm.refl _,he,fun x' m1' he'=>⟨m1'++m2,List.Perm.refl _,?_⟩⟩
   rw[aL,if_pos hk]
   exact⟨hk.symm,m1',m2,rfl,he',h⟩
  ·rw[if_neg hk]at hx
   obtain⟨b2,n1,nr,g1,g2,g3,g4⟩:=h.get hx
   refine⟨b2,n1,m1++nr,by rw[ah,if_neg hk];exact g1,?_,g3,fun x' m1' he'=>?_⟩
   ·refine(g2.append_left m1).trans ?_
    rw[←List.append_assoc,←List.append_assoc]
    exact List.perm_append_comm.append_right nr
   ·obtain⟨m',g5,g6⟩:=g4 x' m1' he'
    refine⟨m1++m',?_,?_⟩
    ·refine(g5.append_left m1).trans ?_
     rw[←List.append_assoc,←List.append_assoc]
     exact List.perm_append_comm.append_right nr
    ·rw[aL,if_neg hk]
     exact⟨rfl,m1,m',rfl,he,g6⟩
theorem pQ.none{l:List (κ×α)}{ps:List (κ×Nat)}{m:Mem}{k:κ}(h:pQ El l ps m)(hk:ah l k=none):ah ps k=none:=by
 rw[bW]at hk⊢
 rw[h.keys];exact hk
theorem pQ.isNone{l:List (κ×α)}{ps:List (κ×Nat)}{m:Mem}{k:κ}(h:pQ El l ps m):(ah ps k).isNone=(ah l k).isNone:=by
 cases hk:ah l k with
 |none=>rw[h.none hk];rfl
 |some x=>obtain⟨b,_,_,hb,_⟩:=h.get hk;rw[hb];rfl
theorem pQ.put: ∀{l:List (κ×α)} {ps:List (κ×Nat)} {m m1:Mem} {k:κ} {x:α} {b:Nat},pQ El l ps m→ah l k=Option.none→El x b m1→pQ El (aL l k x) (aL ps k b) (m++m1)
 |[],[],m,m1,k,x,b,h,hk,he=>by
  rw[show m=[]from h]
  exact⟨rfl,m1,[],by simp,he,rfl⟩
 |[],_::_,_,_,_,_,_,h,_,_=>h.elim
 |_::_,[],_,_,_,_,_,h,_,_=>h.elim
 |(k0,x0)::l,(k',b0)::ps,m,m1,k,x,b,⟨e,n1,n2,hm,he0,h⟩,hk,he=>by
  subst e
  subst hm
  rw[ah]at hk
  by_cases hkk:k=k'
  ·rw[if_pos hkk]at hk;cases hk
  ·rw[if_neg hkk]at hk
   rw[aL,if_neg hkk,aL,if_neg hkk]
   exact⟨rfl,n1,n2++m1,by rw[List.append_assoc],he0,h.put hk he⟩
theorem pQ.del: ∀{l:List (κ×α)} {ps:List (κ×Nat)} {m:Mem} {k:κ},pQ El l ps m→ ∃m1 m',m.Perm (m1++m')∧pQ El (dq l k) (dq ps k) m'
 |[],[],m,_,h=>⟨m,[],by simp,rfl⟩
 |[],_::_,_,_,h=>h.elim
 |_::_,[],_,_,h=>h.elim
 |(k0,x0)::l,(k',b0)::ps,m,k,⟨e,n1,n2,hm,he0,h⟩=>by
  subst e
  subst hm
  rw[dq,dq]
  by_cases hkk:k=k'
  ·rw[if_pos hkk,if_pos hkk]
   exact⟨n1,n2,List.Perm.refl _,h⟩
  ·rw[if_neg hkk,if_neg hkk]
   obtain⟨m1,m',h1,h2⟩:=h.del (k:=k)
   refine⟨m1,n1++m',?_,rfl,n1,m',rfl,he0,h2⟩
   refine(h1.append_left n1).trans ?_
   rw[←List.append_assoc,←List.append_assoc]
   exact List.perm_append_comm.append_right m'
end
def InC(m:Mem)(I:Ctx):Prop:= ∀x∈m,I x.1=some x.2
theorem InC.up{m:Mem}{I J:Ctx}(h:InC m I)(hs: ∀b o,I b=some o→J b=some o):InC m J:=fun x hx=>hs _ _ (h x hx)
theorem InC.sub{m m':Mem}{I:Ctx}(h:InC m I)(hs: ∀x∈m',x∈m):InC m' I:=fun x hx=>h x (hs x hx)
theorem InC.perm{m m':Mem}{I:Ctx}(h:InC m I)(hs:m.Perm m'):InC m' I:=fun x hx=>h x (hs.mem_iff.2 hx)
theorem InC.left{m m':Mem}{I:Ctx}(h:InC (m++m') I):InC m I:=fun x hx=>h x (List.mem_append_left _ hx)
theorem InC.right{m m':Mem}{I:Ctx}(h:InC (m++m') I):InC m' I:=fun x hx=>h x (List.mem_append_right _ hx)
theorem InC.has{m h:Mem}{I:Ctx}(hc:InC m I){b:Nat}{o:Obj}(hm:(b,o)∈m):Has I h b o:= .inr (hc _ hm)
theorem InC.cell{m h:Mem}{I:Ctx}(hc:InC m I){b off:Nat}{cs:Array Value}{t:TypeId}{fz:Nat×Nat}{v:Value}(hm:(b,.cells cs t fz)∈m)(hv:cs[off]? =some v):bh I h ⟨b,off,none⟩ v:=⟨rfl,cs,t,fz,hc.has hm,hv⟩
theorem u5{I:Ctx}{h m z:Mem}(hl:dJ I h)(hp:h.Perm (m++z)):InC z (plus I z):=fun x hx=>aF ((hl.perm (hp.trans List.perm_append_comm)).left) (.inl hx)
abbrev BI(A:Option Addr)(n c:Nat)(l:List UInt8)(m:Mem):Prop:=Own 5 1 A n c (bC l) m
theorem BI.rdb{I:Ctx}{h m:Mem}{A:Option Addr}{n c:Nat}{l:List UInt8}(ho:BI A n c l m)(hl:dJ I h)(hm: ∀x∈m,x∈h):RdB (plus I h) A n l:=
 ⟨by have:=ho.1;simpa using this,ho.some_of,(ho.rd hm).all hl⟩
theorem BI.len{A:Option Addr}{n c:Nat}{l:List UInt8}{m:Mem}(ho:BI A n c l m):l.length=n:=by have:=ho.1;simpa using this
abbrev wd(l:List UInt8)(v:Value)(h':Mem):Prop:= ∃A c,v= .slice A l.length c∧BI A l.length c l h'
theorem Ou{I:Ctx}{a:Addr}{n k c:Nat}(hk:k≤4)(hn:n<4294967296):
  ∀(q i:Nat) (u:Nat→Value) (h m hr:Mem),i+q=k→h.Perm (m++hr)→BI (some a) k c (List.replicate q 0++be i n) m→
  Wp Tryz.prog 113 r6 (rG n k (some a) k c i u) I h (cl_ (wd (be k n))):=by
 intro q
 induction q with
 |zero=>
  intro i u h m hr hiq hp ho
  have:i=k:=by omega
  subst this
  refine CW _ _ _ _ _ _ _ ?_
  refine b7 (by simp) ?_
  refine aY (h1:=m) (g:=hr) hp ⟨some a,c,by simp,?_⟩
  simpa using ho
 |succ q ih=>
  intro i u h m hr hiq hp ho
  refine CW _ _ _ _ _ _ _ ?_
  refine aX (by simp;omega) ?_
  rw[show IntKind.wrap .i64 (8*(i:Int))=((8*i:Nat):Int) by rw[cr (by omega)];omega]
  refine Qk (by omega) ?_
  rw[show IntKind.wrap .i64 ((IntKind.wrap .i64 ((k:Int) - 1)) - (i:Int))=(q:Int) by rw[cr (x:=(k:Int) - 1) (by omega),cr (by omega)];omega]
  refine aI a rfl (sz:=1) kE (by omega) (by omega) rfl ?_
  dsimp only
  rw[Int.toNat_natCast,Int.toNat_natCast,show min (8*i) IntKind.u32.bits=8*i from Nat.min_eq_left (by show 8*i≤32;omega),Fv]
  have hb:IntKind.wrap .u8 ((n/2^(8*i):Nat):Int)=((UInt8.ofNat (n/256^i)).toNat:Int):=by
   rw[pi,RG,Nat.pow_mul]
   rfl
  rw[hb]
  refine iH (q*1) (m:=m) (hr:=hr) (cl_.aff _) hp ho rfl kE (by simp[Value.cells];omega) (by simp[Value.cells]) ?_
  intro m' ho'
  refine aj fun _ hl=>?_
  rw[dT (by omega)]
  refine ih (i+1) _ _ m' hr (by omega) (List.Perm.refl _) ?_
  have hw:=Qy q (UInt8.ofNat (n/256^i)) (be i n)
  rw[Nat.mul_one]at ho'
  have ho2:Own 5 1 (some a) k c (wrL (bC (List.replicate (q+1) 0++be i n)) q [.int .u8 ((UInt8.ofNat (n/256^i)).toNat:Int)]) m':=ho'
  rw[hw]at ho2
  exact ho2
theorem IQ{I:Ctx}{n k:Nat}(hk:k≤4)(hn:n<4294967296):Fn Tryz.prog 113 #[.int .u32 (n:Int),.int .i64 (k:Int)] I [] (wd (be k n)):=by
 refine NE _ _ ?_
 refine JP pD (Nat.le_refl k) (by omega) (by omega) fun g hg hI ho=>?_
 refine aj fun _ hl=>?_
 refine Ou hk hn k 0 _ _ _ [] (by omega) (List.perm_append_comm (l₁:=[])) ?_
 rw[show(Builtin.zeroCells (Value.int IntKind.u8 0).cells k).toList=bC (List.replicate k 0)from EF k]at ho
 simpa[be]using ho
theorem Et{I:Ctx}{n:Nat}(hn:n<65536):Fn Tryz.prog 114 #[.int .u16 (n:Int)] I [] (wd (be 2 n)):=by
 refine HQ _ ?_
 rw[wA (by omega)]
 refine ak [] _ Ee (List.Perm.refl _) (fun hl=>IQ (k:=2) (by omega) (by omega)) ?_
 rintro v h1 ⟨A,c,rfl,ho⟩
 refine⟨fun _=>{A:=A,n:=2,c:=c},by simp[Sh.val,Sh1.val,Sc.val],?_⟩
 exact aY (h1:=h1) (g:=[]) (List.Perm.refl _) ⟨A,c,by simp,ho⟩
theorem fP{I:Ctx}{n:Nat}(hn:n<4294967296):Fn Tryz.prog 97 #[.int .u32 (n:Int)] I [] (wd (be 4 n)):=by
 refine Ir _ ?_
 refine ak [] _ Ee (List.Perm.refl _) (fun hl=>IQ (k:=4) (by omega) hn) ?_
 rintro v h1 ⟨A,c,rfl,ho⟩
 refine⟨fun _=>{A:=A,n:=4,c:=c},by simp[Sh.val,Sh1.val,Sc.val],?_⟩
 exact aY (h1:=h1) (g:=[]) (List.Perm.refl _) ⟨A,c,by simp,ho⟩
theorem RdB.at{I:Ctx}{A:Option Addr}{n:Nat}{l:List UInt8}(h:RdB I A n l){i:Nat}(hi:i<n): ∃a b,A=some a∧l[i]? =some b∧bh I [] (a.add i) (.int .u8 (b.toNat:Int)):=by
 have hl:=h.len
 obtain⟨a,rfl,hc⟩:=h.rd (fun he=>by have:=congrArg List.length he;simp at this;subst this;simp at hl;omega)
 have h1:l[i]? =some l[i]:=List.getElem?_eq_getElem (by omega)
 exact⟨a,l[i],rfl,h1,hc i _ (by simp[bC,h1])⟩
theorem RdB.cut{I:Ctx}{A:Option Addr}{n:Nat}{l:List UInt8}(h:RdB I A n l){i u m:Nat}(h1:i≤u)(h2:u≤n)(h3:n≤m):RdB I (HX A i m 1) (u - i) ((l.drop i).take (u - i)):=by
 have hl:=h.len
 refine⟨by simp;omega,fun hA=>?_,?_⟩
 ·unfold HX at hA
  split at hA
  ·have:=h.nil hA;omega
  ·cases A with
   |none=>have:=h.nil rfl;omega
   |some a=>cases hA
 ·have:=h.rd.cut (l:=i) (u:=u) (m:=m) (sz:=1) (by omega)
  rw[Nat.mul_one,Nat.mul_one]at this
  simpa[bC,List.map_take,List.map_drop]using this
def Hu(l:List UInt8)(i:Int)(k:Nat):Option Nat:=if 0≤i∧i+k≤l.length then some (val ((l.drop i.toNat).take k))else none
def Sp(ik:IntKind)(o:Option Nat):Value:= .tuple #[.int ik ((o.getD 0:Nat):Int),.bool o.isSome]
theorem Oo{I:Ctx}{A:Option Addr}{c k:Nat}{l:List UInt8}(hr:RdB I A k l)(hk:k≤4):
  ∀(q i:Nat) (u:Nat→Value) (h:Mem),i+q=k→
  Wp Tryz.prog 232 rH (r7 A k c k ((val (l.take i):Nat):Int) i u) I h (cl_ fun v h'=>v=Sp .u32 (some (val l))∧h'=[]):=by
 have hl:=hr.len
 intro q
 induction q with
 |zero=>
  intro i u h hiq
  refine Cg _ _ _ _ _ _ _ ?_
  refine b7 (by simp;omega) ?_
  rw[List.take_of_length_le (by omega)]
  exact aC ⟨rfl,rfl⟩
 |succ q ih=>
  intro i u h hiq
  obtain⟨a,b,rfl,hb,hc⟩:=hr.at (i:=i) (by omega)
  refine Cg _ _ _ _ _ _ _ ?_
  refine aX (by simp;omega) ?_
  refine aI a rfl (sz:=1) kE (by omega) (by omega) rfl ?_
  dsimp only
  rw[Int.toNat_natCast,Nat.mul_one]
  refine aZ kE (hc.sub Sub.self) ?_
  refine aj fun _ hl'=>?_
  have hv:=NJ (l.take i)
  rw[List.length_take]at hv
  have h256:256^(min i l.length)≤256^3:=Nat.pow_le_pow_right (by omega) (by omega)
  dsimp only
  rw[dT (by omega),QQ _ b (by omega),←Fx]
  have htk:l.take (i+1)=l.take i++[b]:=by rw[List.take_add_one,hb];rfl
  rw[←htk]
  exact ih (i+1) _ _ (by omega)
theorem IW{I:Ctx}{A:Option Addr}{n c k:Nat}{l:List UInt8}{i:Int}(hr:RdB I A n l)(hk:k≤4)(hn:n≤c)(hc:n≤maxLen)(hi:(Lit.int .i64 i).wf=true):
  Fn Tryz.prog 232 #[.slice A n c,.int .i64 i,.int .i64 (k:Int)] I [] (fun v h'=>v=Sp .u32 (Hu l i k)∧h'=[]):=by
 have hl:=hr.len
 have hi2: -9223372036854775808≤i∧i≤9223372036854775807:=by
  simp only[Lit.wf,IntKind.min,IntKind.max,IntKind.signed,IntKind.bits]at hi
  simp at hi
  omega
 have hc2:n≤9223372036854775807:=by unfold maxLen at hc;omega
 refine Mm _ _ _ _ _ ?_
 refine ay (fun h0=>?_) (fun h0=>?_)
 ·have h0:i<0:=by simpa using h0
  exact aC ⟨by unfold Hu;rw[if_neg (by omega)];rfl,rfl⟩
 have h0: ¬i<0:=by simpa using h0
 rw[cr (x:=(n:Int) - (k:Int)) (by omega)]
 refine ay (fun h1=>?_) (fun h1=>?_)
 ·have h1:i>(n:Int) - k:=by simpa using h1
  exact aC ⟨by unfold Hu;rw[if_neg (by omega)];rfl,rfl⟩
 have h1: ¬i>(n:Int) - k:=by simpa using h1
 obtain⟨j,rfl⟩: ∃j:Nat,i=j:=⟨i.toNat,by omega⟩
 rw[cr (x:=(j:Int)+(k:Int)) (by omega)]
 refine uK (e:=5) (sz:=1) j (j+k) c kE kE rfl (by show((j:Int)+(k:Int))=((j+k:Nat):Int);omega) rfl (by simp) (by omega) (by omega) (by omega) ?_
 dsimp only
 have hcut:=hr.cut (i:=j) (u:=j+k) (m:=c) (by omega) (by omega) hn
 rw[show j+k - j=k by omega]at hcut⊢
 refine aj fun _ hl'=>?_
 have hw:=Oo (c:=c - j) hcut hk k 0
 have hg:Hu l (j:Int) k=some (val ((l.drop j).take k)):=by
  unfold Hu
  rw[if_pos (by omega),Int.toNat_natCast]
 rw[hg]
 exact hw _ _ (by omega)
theorem Lu{I:Ctx}{A:Option Addr}{n c:Nat}{l:List UInt8}{i:Int}(hr:RdB I A n l)(hn:n≤c)(hc:n≤maxLen)(hi:(Lit.int .i64 i).wf=true):
  Fn Tryz.prog 229 #[.slice A n c,.int .i64 i] I [] (fun v h'=>v=Sp .u16 (Hu l i 2)∧h'=[]):=by
 refine Il _ _ _ _ ?_
 have hv: ∀x,Hu l i 2=some x→x<65536:=by
  intro x hx
  unfold Hu at hx
  split at hx
  ·injection hx with hx
   have:=NJ ((l.drop i.toNat).take 2)
   have h2:256^((l.drop i.toNat).take 2).length≤256^2:=Nat.pow_le_pow_right (by omega) (by simp;omega)
   omega
  ·cases hx
 refine aA (ag [{i:=((Hu l i 2).getD 0:Nat)},{b:=(Hu l i 2).isSome}]) Ek (fun hl=>IW (k:=2) (hr.up (Sub.self.up hl)) (by omega) hn hc hi) rfl ?_
 dsimp only[ag]
 refine aC ⟨?_,rfl⟩
 unfold Sp
 cases hg:Hu l i 2 with
 |none=>rfl
 |some x=>simp only[Option.getD_some,B1 (hv x hg)]
theorem Ka{I:Ctx}{A:Option Addr}{n c:Nat}{l:List UInt8}{i:Int}(hr:RdB I A n l)(hn:n≤c)(hc:n≤maxLen)(hi:(Lit.int .i64 i).wf=true):
  Fn Tryz.prog 228 #[.slice A n c,.int .i64 i] I [] (fun v h'=>v=Sp .u32 (Hu l i 4)∧h'=[]):=by
 refine Iv _ _ _ _ ?_
 refine aA (ag [{i:=((Hu l i 4).getD 0:Nat)},{b:=(Hu l i 4).isSome}]) Ek (fun hl=>IW (k:=4) (hr.up (Sub.self.up hl)) (by omega) hn hc hi) rfl ?_
 exact aC ⟨rfl,rfl⟩
theorem LL{I:Ctx}{n:Nat}(hn:n≤1000000000):Fn Tryz.prog 112 #[.slice none 0 0,.int .i64 (n:Int)] I [] (fun v h'=> ∃A c,v= .slice A 0 c∧BI A 0 c [] h'):=by
 refine xt _ _ _ _ ?_
 refine b7 (by simp) ?_
 have hw:IntKind.wrap .i64 ((n:Int) - (IntKind.wrap .i64 (((0:Nat):Int) - ((0:Nat):Int))))=(n:Int):=by
  rw[show(((0:Nat):Int) - ((0:Nat):Int))=0 from rfl,cr (x:=0) (by omega),cr (by omega)]
  omega
 rw[hw]
 refine ay (fun h0=>?_) (fun h0=>?_)
 ·have h0:(n:Int)>0:=by simpa using h0
  refine uK (e:=5) (sz:=1) 0 0 0 kE kE rfl rfl rfl (by simp) (by omega) (by omega) (by omega) ?_
  simp only[nB,Nat.sub_zero]
  refine Nh (n:=n) pD (by kernel_rfl:Tryz.prog.underlying 3=some (.int .i64)) (by omega) (by omega) (by omega) ?_
  intro g c o hg hI ho
  dsimp only
  have hcc:=ho.2.1
  refine uK (e:=5) (sz:=1) 0 0 c kE kE rfl rfl rfl (by simp) (by omega) (by omega) (by omega) ?_
  simp only[nB,Nat.sub_zero]
  have ho2:=ho.cut (i:=0) (by omega)
  rw[Nat.zero_mul,List.take_zero]at ho2
  exact aY (h1:=[(g,o)]) (g:=[]) (by simp) ⟨_,_,rfl,ho2⟩
 ·exact aC ⟨none,0,rfl,Own.nil _ _⟩
def elB(J:Ctx)(l:List UInt8)(cs:List Value):Prop:= ∃A c,cs=[.slice A l.length c]∧RdB J A l.length l
theorem elB.len(J:Ctx)(l:List UInt8)(cs:List Value)(h:elB J l cs):cs.length=1:=by
 obtain⟨A,c,rfl,_⟩:=h
 rfl
def ly(ls:List (List UInt8)):Nat:=(ls.map List.length).sum
theorem qo(ls:List (List UInt8))(l:List UInt8):ly (ls++[l])=ly ls+l.length:=by simp[ly]
theorem Em(ls:List (List UInt8))(i:Nat):ly (ls.take i)≤ly ls:=by
 have:ly ls=ly (ls.take i)+ly (ls.drop i):=by
  rw[ly,ly,ly,←List.sum_append,←List.map_append,List.take_append_drop]
 omega
theorem tC(ls:List (List UInt8)):ls.flatten.length=ly ls:=by simp[ly,List.length_flatten]
theorem Gb{I:Ctx}{A:Option Addr}{c:Nat}{ls:List (List UInt8)}{cs:List Value}(hrd:RdC I [] A cs)(hrow:nD (elB I) ls cs)(hb:ly ls≤1000000000)(hn:ls.length≤1000000000):
  ∀(q i:Nat) (u:Nat→Value) (h m hr:Mem) (A6:Option Addr) (c6:Nat),i+q=ls.length→h.Perm (m++hr)→BI A6 (ly (ls.take i)) c6 (ls.take i).flatten m→
  Wp Tryz.prog 96 eE (eu A ls.length c A6 (ly (ls.take i)) c6 i u) I h (cl_ (wd ls.flatten)):=by
 intro q
 induction q with
 |zero=>
  intro i u h m hr A6 c6 hiq hp ho
  rw[List.take_of_length_le (by omega)]at ho⊢
  refine kV _ _ _ _ _ _ _ _ ?_
  refine b7 (by simp;omega) ?_
  exact aY (h1:=m) (g:=hr) hp ⟨A6,c6,by rw[tC],by rw[tC];exact ho⟩
 |succ q ih=>
  intro i u h m hr A6 c6 hiq hp ho
  have hi:i<ls.length:=by omega
  obtain⟨a,c1,rfl,⟨A',c',rfl,hB⟩,hc⟩:=hrow.at (elB.len I) hrd (by omega) (List.getElem?_eq_getElem hi)
  have htk:ls.take (i+1)=ls.take i++[ls[i]]:=List.take_succ_eq_append_getElem hi
  have ht:=Em ls (i+1)
  rw[htk,qo]at ht
  refine kV _ _ _ _ _ _ _ _ ?_
  refine aX (by simp;omega) ?_
  refine aI a rfl (sz:=1) kE (by omega) (by omega) rfl ?_
  dsimp only
  rw[Int.toNat_natCast]
  refine dS kE (by have:=(hc 0 _ rfl).sub (h:=h) Sub.self;rwa[qR]at this) ?_
  dsimp only
  refine bP (cl_.aff _) pD kE (hB.rd.sub Sub.self) hB.nil (by simp) (bC_plain ls[i]) (m:=m) (hr:=hr) hp ho (by omega) (by omega) ?_
  intro A' c' m' ho'
  refine aj fun _ hl=>?_
  dsimp only
  rw[dT (by omega),←qo,←htk]
  refine ih (i+1) _ _ m' hr A' c' (by omega) (List.Perm.refl _) ?_
  rw[htk,qo,List.flatten_append]
  rw[←bC_append]at ho'
  rw[show[ls[i]].flatten=ls[i] by simp]
  exact ho'
theorem Gj{I:Ctx}{A:Option Addr}{c:Nat}{ls:List (List UInt8)}{cs:List Value}(hrd:RdC I [] A cs)(hrow:nD (elB I) ls cs)(hb:ly ls≤1000000000)(hn:ls.length≤1000000000):
  ∀(q i:Nat) (u:Nat→Value) (h:Mem),i+q=ls.length→
  Wp Tryz.prog 96 eN (eK A ls.length c (ly (ls.take i)) i u) I h (cl_ (wd ls.flatten)):=by
 intro q
 induction q with
 |zero=>
  intro i u h hiq
  rw[List.take_of_length_le (by omega)]
  refine kQ _ _ _ _ _ _ ?_
  refine b7 (by simp;omega) ?_
  refine ak [] _ wM (List.Perm.refl _) (fun hl=>LL hb) ?_
  rintro v h1 ⟨A6,c6,rfl,ho⟩
  refine⟨fun _=>{A:=A6,n:=0,c:=c6},rfl,?_⟩
  refine aj fun _ hl=>?_
  exact Gb hrd hrow hb hn ls.length 0 _ _ h1 h A6 c6 (by omega) (List.Perm.refl _) ho
 |succ q ih=>
  intro i u h hiq
  have hi:i<ls.length:=by omega
  obtain⟨a,c1,rfl,⟨A',c',rfl,hB⟩,hc⟩:=hrow.at (elB.len I) hrd (by omega) (List.getElem?_eq_getElem hi)
  have htk:ls.take (i+1)=ls.take i++[ls[i]]:=List.take_succ_eq_append_getElem hi
  have ht:=Em ls (i+1)
  rw[htk,qo]at ht
  refine kQ _ _ _ _ _ _ ?_
  refine aX (by simp;omega) ?_
  refine aI a rfl (sz:=1) kE (by omega) (by omega) rfl ?_
  dsimp only
  rw[Int.toNat_natCast]
  refine dS kE (by have:=(hc 0 _ rfl).sub (h:=h) Sub.self;rwa[qR]at this) ?_
  dsimp only
  have hw:IntKind.wrap .i64 (((ly (ls.take i):Nat):Int)+((ls[i].length:Nat):Int))=((ly (ls.take (i+1)):Nat):Int):=by
   rw[cr (by omega),htk,qo]
   omega
  rw[hw]
  refine b7 (by simp) ?_
  refine aj fun _ hl=>?_
  rw[dT (by omega)]
  exact ih (i+1) _ _ (by omega)
theorem nJ{I:Ctx}{A:Option Addr}{c:Nat}{ls:List (List UInt8)}{cs:List Value}(hrd:RdC I [] A cs)(hrow:nD (elB I) ls cs)(hb:ly ls≤1000000000)(hn:ls.length≤1000000000):
  Fn Tryz.prog 96 #[.slice A ls.length c] I [] (wd ls.flatten):=by
 refine vD _ _ _ ?_
 refine aj fun _ hl=>?_
 exact Gj hrd hrow hb hn ls.length 0 _ _ (by omega)
end Go.Proofs.YtadanegddceleaaGreatS
