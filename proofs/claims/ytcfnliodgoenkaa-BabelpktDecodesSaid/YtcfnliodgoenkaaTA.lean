import Derived.Test.YtcfnliodgoenkaaSU
import Derived.Test.YtcfnliodgoenkaaT
set_option linter.unusedVariables false
namespace Go.Proofs.YtcfnliodgoenkaaS
section
variable {I : Ctx} {f : FuncId} {Q : Value → Mem → Prop} {h : Mem} {k : (Nat → Leaf) → Tr}
theorem la0 {t : TypeId} {b off : Nat} {arr : Array Value} {t0 : TypeId} {fz : Nat × Nat} {x0 : Int} {x1 : Int} {x2 : Int} {x3 : Int} {x4 : Int} {x5 : Int} {x6 : Int} {x7 : Int} {x8 : Int} (hm : (b, .cells arr t0 fz) ∈ h) (hv : (arr.toList.drop off).take 9 = [.int .i64 x0, .int .u16 x1, .int .i64 x2, .int .i64 x3, .int .u32 x4, .int .i64 x5, .int .u64 x6, .int .u16 x7, .int .i64 x8]) (ht : okA Try.prog t 9 = true) (hk : holds Try.prog f I Q (k (getL [{ i := x0 }, { i := x1 }, { i := x2 }, { i := x3 }, { i := x4 }, { i := x5 }, { i := x6 }, { i := x7 }, { i := x8 }])) h) :
    holds Try.prog f I Q (.rd (Instr.loadAt t (.pointer (some ⟨b, off, none⟩))) (.one (.agg [.int .i64, .int .u16, .int .i64, .int .i64, .int .u32, .int .i64, .int .u64, .int .u16, .int .i64])) k) h := laG [.int .i64 x0, .int .u16 x1, .int .i64 x2, .int .i64 x3, .int .u32 x4, .int .i64 x5, .int .u64 x6, .int .u16 x7, .int .i64 x8] _ hm hv ht rfl hk
theorem lv0 {t : TypeId} {b off : Nat} {arr : Array Value} {t0 : TypeId} {fz : Nat × Nat} {x0 : Int} {x1 : Int} {x2 : Int} {x3 : Int} {x4 : Int} {x5 : Int} {x6 : Int} {x7 : Int} {x8 : Int} (hm : (b, .cells arr t0 fz) ∈ h) (hv : (arr.toList.drop off).take 9 = [.int .i64 x0, .int .u16 x1, .int .i64 x2, .int .i64 x3, .int .u32 x4, .int .i64 x5, .int .u64 x6, .int .u16 x7, .int .i64 x8]) (ht : okA Try.prog t 9 = true) (hk : holds Try.prog f I Q (k (getL [{ i := x0 }, { i := x1 }, { i := x2 }, { i := x3 }, { i := x4 }, { i := x5 }, { i := x6 }, { i := x7 }, { i := x8 }])) h) :
    holds Try.prog f I Q (.rd (loadVar t ⟨b, off, none⟩) (.one (.agg [.int .i64, .int .u16, .int .i64, .int .i64, .int .u32, .int .i64, .int .u64, .int .u16, .int .i64])) k) h := lvG [.int .i64 x0, .int .u16 x1, .int .i64 x2, .int .i64 x3, .int .u32 x4, .int .i64 x5, .int .u64 x6, .int .u16 x7, .int .i64 x8] _ hm hv ht rfl hk
theorem la1 {t : TypeId} {b off : Nat} {arr : Array Value} {t0 : TypeId} {fz : Nat × Nat} {x0 : Int} {x1 : Int} (hm : (b, .cells arr t0 fz) ∈ h) (hv : (arr.toList.drop off).take 2 = [.int .u32 x0, .int .i64 x1]) (ht : okA Try.prog t 2 = true) (hk : holds Try.prog f I Q (k (getL [{ i := x0 }, { i := x1 }])) h) :
    holds Try.prog f I Q (.rd (Instr.loadAt t (.pointer (some ⟨b, off, none⟩))) (.one (.agg [.int .u32, .int .i64])) k) h := laG [.int .u32 x0, .int .i64 x1] _ hm hv ht rfl hk
theorem lv1 {t : TypeId} {b off : Nat} {arr : Array Value} {t0 : TypeId} {fz : Nat × Nat} {x0 : Int} {x1 : Int} (hm : (b, .cells arr t0 fz) ∈ h) (hv : (arr.toList.drop off).take 2 = [.int .u32 x0, .int .i64 x1]) (ht : okA Try.prog t 2 = true) (hk : holds Try.prog f I Q (k (getL [{ i := x0 }, { i := x1 }])) h) :
    holds Try.prog f I Q (.rd (loadVar t ⟨b, off, none⟩) (.one (.agg [.int .u32, .int .i64])) k) h := lvG [.int .u32 x0, .int .i64 x1] _ hm hv ht rfl hk
end
end Go.Proofs.YtcfnliodgoenkaaS
