import Derived.Test.YtenlioajflbegaaDoorSU
import Derived.Test.YtenlioajflbegaaDoorT
set_option linter.unusedVariables false
namespace Go.Proofs.YtenlioajflbegaaDoorS
section
variable {I : Ctx} {f : FuncId} {Q : Value → Mem → Prop} {h : Mem} {k : (Nat → Leaf) → Tr}
theorem la0 {t : TypeId} {b off : Nat} {arr : Array Value} {t0 : TypeId} {fz : Nat × Nat} {x0 : Int} {x1 : Int} (hm : (b, .cells arr t0 fz) ∈ h) (hv : (arr.toList.drop off).take 2 = [.int .u32 x0, .int .i64 x1]) (ht : okA Tryd.prog t 2 = true) (hk : holds Tryd.prog f I Q (k (getL [{ i := x0 }, { i := x1 }])) h) :
    holds Tryd.prog f I Q (.rd (Instr.loadAt t (.pointer (some ⟨b, off, none⟩))) (.one (.agg [.int .u32, .int .i64])) k) h := laG [.int .u32 x0, .int .i64 x1] _ hm hv ht rfl hk
theorem lv0 {t : TypeId} {b off : Nat} {arr : Array Value} {t0 : TypeId} {fz : Nat × Nat} {x0 : Int} {x1 : Int} (hm : (b, .cells arr t0 fz) ∈ h) (hv : (arr.toList.drop off).take 2 = [.int .u32 x0, .int .i64 x1]) (ht : okA Tryd.prog t 2 = true) (hk : holds Tryd.prog f I Q (k (getL [{ i := x0 }, { i := x1 }])) h) :
    holds Tryd.prog f I Q (.rd (loadVar t ⟨b, off, none⟩) (.one (.agg [.int .u32, .int .i64])) k) h := lvG [.int .u32 x0, .int .i64 x1] _ hm hv ht rfl hk
theorem la1 {t : TypeId} {b off : Nat} {arr : Array Value} {t0 : TypeId} {fz : Nat × Nat} {x0 : ByteArray} {x1 : ByteArray} {v2 : Value} (hm : (b, .cells arr t0 fz) ∈ h) (hv : (arr.toList.drop off).take 3 = [.string x0, .string x1, v2]) (ht : okA Tryd.prog t 3 = true) (hk : holds Tryd.prog f I Q (k (getL [{ s := x0 }, { s := x1 }, { v := v2 }])) h) :
    holds Tryd.prog f I Q (.rd (Instr.loadAt t (.pointer (some ⟨b, off, none⟩))) (.one (.agg [.str, .str, .v])) k) h := laG [.string x0, .string x1, v2] _ hm hv ht rfl hk
theorem lv1 {t : TypeId} {b off : Nat} {arr : Array Value} {t0 : TypeId} {fz : Nat × Nat} {x0 : ByteArray} {x1 : ByteArray} {v2 : Value} (hm : (b, .cells arr t0 fz) ∈ h) (hv : (arr.toList.drop off).take 3 = [.string x0, .string x1, v2]) (ht : okA Tryd.prog t 3 = true) (hk : holds Tryd.prog f I Q (k (getL [{ s := x0 }, { s := x1 }, { v := v2 }])) h) :
    holds Tryd.prog f I Q (.rd (loadVar t ⟨b, off, none⟩) (.one (.agg [.str, .str, .v])) k) h := lvG [.string x0, .string x1, v2] _ hm hv ht rfl hk
end
end Go.Proofs.YtenlioajflbegaaDoorS
