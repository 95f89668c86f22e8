import Derived.Test.YtadanegddceleaaGreatqag
set_option linter.unusedSimpArgs false
set_option linter.unusedVariables false
set_option maxRecDepth 100000
namespace Go.Proofs.YtadanegddceleaaGreatS
section
set_option maxHeartbeats 4000000
noncomputable section
variable {I:Ctx} {h:Mem} {Q:Value→Mem→Prop} {rd:Option Nat} {ds:List Deferred}
def KF:Cfg:={sh:=shs,fsh:=bu,results:=[.tmp 2],hint:=fun _ _=>none,ord:=fun _=>none,pre:=fun _=>[],un:=fun _ _ _=>false}
theorem KJ(a0:Int)(hh:holds Tryz.prog 135 I (cl_ Q) (.ite (decide ((a0:Int)≥0)) (.done (.bool (decide ((a0:Int)<16)))) (.done (.bool false))) h):Fn Tryz.prog 135 #[.int .i64 a0] I h Q:=fT (cfg:=KF) Tryz.func135 rfl hh
theorem HM:af Tryz.prog 135:=cT Tryz.func135
def Lq:Cfg:={sh:=shs,fsh:=bu,results:=[.tmp 4],hint:=fun r i=>match r,i with|1,3=>some (true,dt)|_,_=>none,ord:=fun _=>none,pre:=fun _=>[],un:=fun _ _ _=>false}
theorem LD(a0 a1:Int)(hh:holds Tryz.prog 148 I (cl_ Q) (.rdn (D6 .shr 43 (.int .u32 a0) (.int .i64 (IntKind.wrap .i64 (31 - a1)))) dt fun l1=> .done (.int .i64 (IntKind.wrap .i64 (oh .and .u32 ((l1 0).i) 1)))) h):Fn Tryz.prog 148 #[.int .u32 a0,.int .i64 a1] I h Q:=fT (cfg:=Lq) Tryz.func148 rfl hh
theorem ri:af Tryz.prog 148:=cT Tryz.func148
def oI:Cfg:={sh:=shs,fsh:=bu,results:=[.tmp 4],hint:=fun _ _=>none,ord:=fun _=>none,pre:=fun _=>[],un:=fun _ _ _=>false}
theorem oM(a0 a1:Value)(hh:holds Tryz.prog 180 I (cl_ Q) (.call 183 [a0] ai fun l1=> .call 184 [.slice ((l1 0).A) ((l1 0).n) ((l1 0).c),a1] bS fun l2=> .done (.slice ((l1 0).A) ((l1 0).n) ((l1 0).c))) h):Fn Tryz.prog 180 #[a0,a1] I h Q:=fT (cfg:=oI) Tryz.func180 rfl hh
theorem nv:af Tryz.prog 180:=cT Tryz.func180
def ru:Cfg:={sh:=shs,fsh:=bu,results:=[.tmp 2],hint:=fun _ _=>none,ord:=fun _=>none,pre:=fun _=>[],un:=fun _ _ _=>false}
theorem r8(a0:Value)(hh:holds Tryz.prog 183 I (cl_ Q) (.call 186 [.slice none 0 0,a0] ai fun l1=> .done (.slice ((l1 0).A) ((l1 0).n) ((l1 0).c))) h):Fn Tryz.prog 183 #[a0] I h Q:=fT (cfg:=ru) Tryz.func183 rfl hh
theorem qk:af Tryz.prog 183:=cT Tryz.func183
theorem je:af Tryz.prog 184:=cT Tryz.func184
noncomputable def aq:Code:=(Tryz.f186.body).getD .skip
def dw:Cfg:={sh:=shs,fsh:=bu,results:=[.tmp 4],hint:=fun _ _=>none,ord:=fun _=>none,pre:=fun _=>[],un:=fun _ _ _=>false}
def ef:LI:=[.code (bd (sr (sl (sr aq)))),.inBlock 0,.code (sr (sr aq))]
def bQ(a1:Value)(y2:Nat)(A4:Option Addr)(n4 c4:Nat)(u:Nat→Value):List Value:=[(u 0),(u 1),.pointer (some ⟨y2,0,none⟩),undef,.slice A4 n4 c4,(u 5),a1,undef,(u 8),(u 9),(u 10),(u 11),(u 12)]
def io:LI:=[.code (ra (bd (sr (sl (sr aq))))),.beginRound,.code (rb (bd (sr (sl (sr aq)))))]
def cJ(y2:Nat)(A4:Option Addr)(n4 c4:Nat)(v7_0 v7_1:Int)(u:Nat→Value):List Value:=[(u 0),(u 1),.pointer (some ⟨y2,0,none⟩),undef,.slice A4 n4 c4,(u 5),(u 6),.agg #[.int .u32 v7_0,.int .i64 v7_1],(u 8),(u 9),(u 10),(u 11),(u 12)]
def im:LI:=[.inBlock 0,.code (sr (sr aq))]
def np(y2:Nat)(u:Nat→Value):=tl 13 u [(2,.pointer (some ⟨y2,0,none⟩)),(3,undef),(7,undef)]
def nX:LI:=[.beginRound,.code (rb (bd (sr (sl (sr aq)))))]
def oc(y2:Nat)(A4:Option Addr)(n4 c4:Nat)(v7_0 v7_1:Int)(y5:Nat)(u:Nat→Value):=tl 13 u [(2,.pointer (some ⟨y2,0,none⟩)),(3,undef),(4,.slice A4 n4 c4),(5,.pointer (some ⟨y5,0,none⟩)),(7,.agg #[.int .u32 v7_0,.int .i64 v7_1])]
def iz:LI:=[.code (sr (sr (sr aq)))]
def og(Ay4:Option Addr)(ny4 cy4:Nat)(u:Nat→Value):=tl 13 u [(3,undef),(4,.slice Ay4 ny4 cy4),(7,undef)]
def ns:LI:=[.code (rb (bd (sr (sl (sr aq)))))]
def ni(y2:Nat)(A4:Option Addr)(n4 c4:Nat)(v7_0 v7_1:Int)(y5:Nat)(u:Nat→Value):=tl 13 u [(2,.pointer (some ⟨y2,0,none⟩)),(3,undef),(4,.slice A4 n4 c4),(5,.pointer (some ⟨y5,0,none⟩)),(7,.agg #[.int .u32 v7_0,.int .i64 v7_1])]
def nq:LI:=[]
def nG(A4:Option Addr)(n4 c4:Nat)(v7_0 v7_1:Int)(u:Nat→Value):=tl 13 u [(3,undef),(4,.slice A4 n4 c4),(7,.agg #[.int .u32 v7_0,.int .i64 v7_1])]
theorem pJ(Aa0:Option Addr)(na0 ca0:Nat)(a1:Value)(hh:holds Tryz.prog 186 I (cl_ Q) (xB 141 (.slice Aa0 na0 ca0) fun l1=> .stopU ef (bQ a1 ((l1 0).n) none 0 0)) h):Fn Tryz.prog 186 #[.slice Aa0 na0 ca0,a1] I h Q:=fTU (cfg:=dw) Tryz.func186 rfl hh
theorem oJ:af Tryz.prog 186:=cT Tryz.func186
theorem nI(y2:Nat)(A4:Option Addr)(n4 c4:Nat)(v7_0 v7_1:Int)(u:Nat→Value)(hh:holds Tryz.prog {fn:=186,rd:=rd,ds:=ds} I Q (xA 45 fun l2=>uP 45 ⟨(l2 0).n,0,none⟩ (.agg #[.int .u32 v7_0,.int .i64 v7_1]) (.stopU nX (oc y2 A4 n4 c4 v7_0 v7_1 ((l2 0).n)))) h):Wp Tryz.prog {fn:=186,rd:=rd,ds:=ds} io (cJ y2 A4 n4 c4 v7_0 v7_1 u) I h Q:=lTU (cfg:=dw) Tryz.func186 hh
theorem n9(y2:Nat)(u:Nat→Value)(hh:holds Tryz.prog {fn:=186,rd:=rd,ds:=ds} I Q (rP 141 ⟨y2,0,none⟩ ai fun l3=> .stopU iz (og ((l3 0).A) ((l3 0).n) ((l3 0).c))) h):Wp Tryz.prog {fn:=186,rd:=rd,ds:=ds} im (np y2 u) I h Q:=lTU (cfg:=dw) Tryz.func186 hh
theorem nu(y2:Nat)(A4:Option Addr)(n4 c4:Nat)(v7_0 v7_1:Int)(y5:Nat)(u:Nat→Value)(hh:holds Tryz.prog {fn:=186,rd:=rd,ds:=ds} I Q (rP 141 ⟨y2,0,none⟩ ai fun l4=>rP 45 ⟨y5,0,none⟩ b8 fun l5=> .sem (Instr.buildSlice 141 1 #[(0,.agg #[.int .u32 ((l5 0).i),.int .i64 ((l5 1).i)])]) oK fun l6=> .nx (builtin .append #[141,141] 141 #[false,false] #[.slice ((l4 0).A) ((l4 0).n) ((l4 0).c),.slice (some ⟨(l6 0).n,0,none⟩) 1 1]) ai fun l7=>uP 141 ⟨y2,0,none⟩ (.slice ((l7 0).A) ((l7 0).n) ((l7 0).c)) (.stopU nq (nG A4 n4 c4 v7_0 v7_1))) h):Wp Tryz.prog {fn:=186,rd:=rd,ds:=ds} ns (ni y2 A4 n4 c4 v7_0 v7_1 y5 u) I h Q:=lTU (cfg:=dw) Tryz.func186 hh
def IB:Cfg:={sh:=shs,fsh:=bu,results:=[.tmp 4,.tmp 5],hint:=fun _ _=>none,ord:=fun _=>none,pre:=fun _=>[],un:=fun _ _ _=>false}
theorem Iv(Aa0:Option Addr)(na0 ca0:Nat)(a1:Int)(hh:holds Tryz.prog 228 I (cl_ Q) (.call 232 [.slice Aa0 na0 ca0,.int .i64 a1,.int .i64 4] (.tup [(.sc (.int .u32)),(.sc (.bool))]) fun l1=> .done (.tuple #[.int .u32 ((l1 0).i),.bool ((l1 1).b)])) h):Fn Tryz.prog 228 #[.slice Aa0 na0 ca0,.int .i64 a1] I h Q:=fT (cfg:=IB) Tryz.func228 rfl hh
theorem lB:af Tryz.prog 228:=cT Tryz.func228
def HD:Cfg:={sh:=shs,fsh:=bu,results:=[.tmp 4,.tmp 5],hint:=fun _ _=>none,ord:=fun _=>none,pre:=fun _=>[],un:=fun _ _ _=>false}
theorem Il(Aa0:Option Addr)(na0 ca0:Nat)(a1:Int)(hh:holds Tryz.prog 229 I (cl_ Q) (.call 232 [.slice Aa0 na0 ca0,.int .i64 a1,.int .i64 2] (.tup [(.sc (.int .u32)),(.sc (.bool))]) fun l1=> .done (.tuple #[.int .u16 (IntKind.wrap .u16 ((l1 0).i)),.bool ((l1 1).b)])) h):Fn Tryz.prog 229 #[.slice Aa0 na0 ca0,.int .i64 a1] I h Q:=fT (cfg:=HD) Tryz.func229 rfl hh
theorem FW:af Tryz.prog 229:=cT Tryz.func229
noncomputable def BY:Code:=(Tryz.f232.body).getD .skip
def Hi:Cfg:={sh:=shs,fsh:=bu,results:=[.tmp 6,.tmp 7],hint:=fun _ _=>none,ord:=fun _=>none,pre:=fun _=>[],un:=fun _ _ _=>false}
def rH:LI:=[.code (bd (bd (sr (sl (sr (sr BY)))))),.inLoop (bd (bd (sr (sl (sr (sr BY)))))),.inBlock 0,.code (sr (sr (sr BY)))]
def r7(Ay25:Option Addr)(ny25 cy25:Nat)(y26 x6 x27:Int)(u:Nat→Value):=tl 38 u [(3,undef),(4,undef),(5,undef),(6,.int .u32 x6),(8,undef),(25,.slice Ay25 ny25 cy25),(26,.int .i64 y26),(27,.int .i64 x27)]
theorem Mm(Aa0:Option Addr)(na0 ca0:Nat)(a1 a2:Int)(hh:holds Tryz.prog 232 I (cl_ Q) (.ite (decide ((a1:Int)<0)) (.done (.tuple #[.int .u32 0,.bool false])) (.ite (decide ((a1:Int)>(IntKind.wrap .i64 (((na0:Nat):Int) - a2)))) (.done (.tuple #[.int .u32 0,.bool false])) (.rd (Instr.sliceAt 85 (.slice Aa0 na0 ca0) (some (.int .i64 a1)) (some (.int .i64 (IntKind.wrap .i64 (a1+a2)))) none) ai fun l1=> .stopU rH (r7 ((l1 0).A) ((l1 0).n) ((l1 0).c) (((l1 0).n:Nat):Int) 0 0)))) h):Fn Tryz.prog 232 #[.slice Aa0 na0 ca0,.int .i64 a1,.int .i64 a2] I h Q:=fTU (cfg:=Hi) Tryz.func232 rfl hh
theorem Ek:af Tryz.prog 232:=cT Tryz.func232
theorem Cg(Ay25:Option Addr)(ny25 cy25:Nat)(y26 x6 x27:Int)(u:Nat→Value)(hh:holds Tryz.prog 232 I Q (.ite (decide ((x27:Int)<y26)) (iA 85 (.slice Ay25 ny25 cy25) (.int .i64 x27) fun l2=>rP 5 ((l2 0).a) Ks fun l3=> .stopU rH (r7 Ay25 ny25 cy25 y26 (oh .or .u32 (IntKind.wrap .u32 (x6*2^8)) (IntKind.wrap .u32 ((l3 0).i))) (IntKind.wrap .i64 (x27+1)))) (.done (.tuple #[.int .u32 x6,.bool true]))) h):Wp Tryz.prog 232 rH (r7 Ay25 ny25 cy25 y26 x6 x27 u) I h Q:=oTU (cfg:=Hi) Tryz.func232 hh
end
end
end Go.Proofs.YtadanegddceleaaGreatS
