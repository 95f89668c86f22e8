import Derived.Test.YthkfeonpnplemaaSK
set_option linter.unusedVariables false
namespace Go.Proofs.YthkfeonpnplemaaS
def shsT : List (Nat × Sh) := [(0, .tup []), (2, .one (.sc (.int .i64))), (3, .one (.sc (.int .i64))), (4, .one (.sc (.bool))), (5, .one (.sc (.int .u8))), (6, .one (.sc (.int .u8))), (7, .one (.agg [.int .i64, .int .i64, .bool, .int .u8])), (8, .one (.agg [.int .i64, .int .i64, .bool, .int .u8])), (9, .one (.sc (.str))), (10, .one (.sc (.str))), (11, .one (.sc (.str))), (12, .one (.sc (.int .u64))), (13, .one (.agg [.str, .int .u64])), (14, .one (.agg [.str, .int .u64])), (15, .one (.sc (.ptr))), (16, .one (.sc (.ptr))), (17, .one (.sc (.ptr))), (18, .one (.agg [.ptr])), (19, .one (.agg [.ptr])), (20, .one (.sc (.v))), (21, .one (.sc (.int .i32))), (22, .one (.sc (.sl))), (25, .one (.sc (.ptr))), (27, .one (.sc (.sl))), (28, .one (.agg [.int .i64, .int .i64, .int .i64, .sl])), (29, .one (.agg [.int .i64, .int .i64, .int .i64, .sl])), (30, .one (.agg [.int .i64, .int .i64, .int .i64, .int .i64, .int .i64, .sl])), (31, .one (.agg [.int .i64, .int .i64, .int .i64, .int .i64, .int .i64, .sl])), (35, .tup [.agg [.int .i64, .int .i64, .int .i64, .sl], (.sc (.bool))]), (38, .one (.sc (.sl))), (41, .one (.sc (.ptr))), (42, .one (.agg [.sl])), (43, .one (.agg [.sl])), (45, .one (.agg [.sl])), (46, .one (.agg [.sl])), (55, .one (.agg [.ptr, .ptr, .ptr, .str])), (56, .one (.agg [.ptr, .ptr, .ptr, .str])), (57, .one (.agg [])), (58, .one (.agg [])), (59, .one (.agg [])), (60, .one (.sc (.int .u32))), (61, .one (.sc (.int .u8))), (62, .one (.sc (.int .u8))), (64, .one (.sc (.ptr))), (65, .one (.sc (.int .i32))), (66, .one (.sc (.int .i32))), (67, .one (.agg [.int .u64, .int .u64, .int .u32, .int .u8, .int .u8, .int .u8, .int .u8, .v, .ptr, .int .i32, .int .i32])), (68, .one (.agg [.int .u64, .int .u64, .int .u32, .int .u8, .int .u8, .int .u8, .int .u8, .v, .ptr, .int .i32, .int .i32])), (69, .one (.sc (.v)))]
def shs (t : TypeId) : Sh := match shsT.find? (fun p => p.1 == t) with | some p => p.2 | none => .one (.sc .v)
def fshsT : List (Nat × Sh) := [(0, .tup []), (1, .tup []), (2, .tup []), (3, .one (.sc (.bool))), (4, .one (.sc (.bool))), (5, .one (.sc (.bool))), (6, .one (.sc (.bool))), (7, .one (.sc (.bool))), (8, .one (.sc (.bool))), (9, .one (.sc (.ptr))), (10, .tup []), (11, .one (.sc (.int .i64))), (12, .one (.sc (.int .i64))), (13, .tup [.agg [.int .i64, .int .i64, .int .i64, .sl], (.sc (.bool))]), (14, .tup [.agg [.int .i64, .int .i64, .int .i64, .sl], (.sc (.bool))]), (15, .one (.sc (.bool))), (16, .tup []), (17, .tup [.agg [.int .i64, .int .i64, .int .i64, .sl], (.sc (.bool))]), (18, .tup [.agg [.int .i64, .int .i64, .int .i64, .sl], (.sc (.bool))]), (19, .one (.sc (.bool))), (20, .one (.sc (.bool))), (21, .one (.sc (.int .i64))), (22, .one (.agg [.int .i64, .int .i64, .int .i64, .sl])), (23, .one (.sc (.sl))), (24, .one (.sc (.bool))), (25, .one (.sc (.sl))), (26, .one (.sc (.bool))), (27, .one (.sc (.sl))), (28, .one (.sc (.int .i64))), (29, .one (.sc (.str))), (30, .tup []), (31, .one (.sc (.str))), (32, .tup []), (33, .one (.sc (.str))), (34, .tup []), (35, .one (.sc (.str))), (36, .tup []), (37, .one (.sc (.str))), (38, .tup []), (39, .one (.sc (.str))), (40, .tup []), (41, .one (.sc (.int .i64))), (42, .one (.sc (.str))), (43, .tup []), (44, .one (.sc (.str)))]
def fshs (f : FuncId) : Sh := match fshsT.find? (fun p => p.1 == f) with | some p => p.2 | none => .tup []
theorem zb_int64 : zeroB Try.prog 2 = some (.int .i64 0) := by kernel_rfl
theorem zb_int : zeroB Try.prog 3 = some (.int .i64 0) := by kernel_rfl
theorem zb_t4 : zeroB Try.prog 4 = some (.bool false) := by kernel_rfl
theorem zb_uint8 : zeroB Try.prog 5 = some (.int .u8 0) := by kernel_rfl
theorem zb_BoundsErrorCode : zeroB Try.prog 6 = some (.int .u8 0) := by kernel_rfl
theorem zb_x : zeroB Try.prog 7 = some (.agg #[.int .i64 0, .int .i64 0, .bool false, .int .u8 0]) := by kernel_rfl
theorem zb_boundsError : zeroB Try.prog 8 = some (.agg #[.int .i64 0, .int .i64 0, .bool false, .int .u8 0]) := by kernel_rfl
theorem zb_t9 : zeroB Try.prog 9 = some (.string ⟨#[]⟩) := by kernel_rfl
theorem zb_errorString : zeroB Try.prog 10 = some (.string ⟨#[]⟩) := by kernel_rfl
theorem zb_plainError : zeroB Try.prog 11 = some (.string ⟨#[]⟩) := by kernel_rfl
theorem zb_uintptr : zeroB Try.prog 12 = some (.int .u64 0) := by kernel_rfl
theorem zb_msg : zeroB Try.prog 13 = some (.agg #[.string ⟨#[]⟩, .int .u64 0]) := by kernel_rfl
theorem zb_errorAddressString : zeroB Try.prog 14 = some (.agg #[.string ⟨#[]⟩, .int .u64 0]) := by kernel_rfl
theorem zb_TypeAssertionError : zeroB Try.prog 15 = some (.pointer none) := by kernel_rfl
theorem zb_PanicNilError : zeroB Try.prog 16 = some (.pointer none) := by kernel_rfl
theorem zb_Type : zeroB Try.prog 17 = some (.pointer none) := by kernel_rfl
theorem zb_typ : zeroB Try.prog 18 = some (.agg #[.pointer none]) := by kernel_rfl
theorem zb_unhashableTypeError : zeroB Try.prog 19 = some (.agg #[.pointer none]) := by kernel_rfl
theorem zb_int32 : zeroB Try.prog 21 = some (.int .i32 0) := by kernel_rfl
theorem zb_Op : zeroB Try.prog 22 = some (.slice none 0 0) := by kernel_rfl
theorem zb_Bag : zeroB Try.prog 25 = some (.pointer none) := by kernel_rfl
theorem zb_uint8_27 : zeroB Try.prog 27 = some (.slice none 0 0) := by kernel_rfl
theorem zb_Domain : zeroB Try.prog 28 = some (.agg #[.int .i64 0, .int .i64 0, .int .i64 0, .slice none 0 0]) := by kernel_rfl
theorem zb_Packet : zeroB Try.prog 29 = some (.agg #[.int .i64 0, .int .i64 0, .int .i64 0, .slice none 0 0]) := by kernel_rfl
theorem zb_Kind : zeroB Try.prog 30 = some (.agg #[.int .i64 0, .int .i64 0, .int .i64 0, .int .i64 0, .int .i64 0, .slice none 0 0]) := by kernel_rfl
theorem zb_Op_31 : zeroB Try.prog 31 = some (.agg #[.int .i64 0, .int .i64 0, .int .i64 0, .int .i64 0, .int .i64 0, .slice none 0 0]) := by kernel_rfl
theorem zb_Packet_38 : zeroB Try.prog 38 = some (.slice none 0 0) := by kernel_rfl
theorem zb_Bag_41 : zeroB Try.prog 41 = some (.pointer none) := by kernel_rfl
theorem zb_L : zeroB Try.prog 42 = some (.agg #[.slice none 0 0]) := by kernel_rfl
theorem zb_Bag_43 : zeroB Try.prog 43 = some (.agg #[.slice none 0 0]) := by kernel_rfl
theorem zb_l : zeroB Try.prog 45 = some (.agg #[.slice none 0 0]) := by kernel_rfl
theorem zb_Bag_46 : zeroB Try.prog 46 = some (.agg #[.slice none 0 0]) := by kernel_rfl
theorem zb_interface : zeroB Try.prog 55 = some (.agg #[.pointer none, .pointer none, .pointer none, .string ⟨#[]⟩]) := by kernel_rfl
theorem zb_TypeAssertionError_56 : zeroB Try.prog 56 = some (.agg #[.pointer none, .pointer none, .pointer none, .string ⟨#[]⟩]) := by kernel_rfl
theorem zb_PanicNilError_57 : zeroB Try.prog 57 = some (.agg #[]) := by kernel_rfl
theorem zb_t58 : zeroB Try.prog 58 = some (.agg #[]) := by kernel_rfl
theorem zb_PanicNilError_59 : zeroB Try.prog 59 = some (.agg #[]) := by kernel_rfl
theorem zb_uint32 : zeroB Try.prog 60 = some (.int .u32 0) := by kernel_rfl
theorem zb_TFlag : zeroB Try.prog 61 = some (.int .u8 0) := by kernel_rfl
theorem zb_Kind_62 : zeroB Try.prog 62 = some (.int .u8 0) := by kernel_rfl
theorem zb_uint8_64 : zeroB Try.prog 64 = some (.pointer none) := by kernel_rfl
theorem zb_NameOff : zeroB Try.prog 65 = some (.int .i32 0) := by kernel_rfl
theorem zb_TypeOff : zeroB Try.prog 66 = some (.int .i32 0) := by kernel_rfl
theorem zb_Size : zeroB Try.prog 67 = some (.agg #[.int .u64 0, .int .u64 0, .int .u32 0, .int .u8 0, .int .u8 0, .int .u8 0, .int .u8 0, .nilFunc, .pointer none, .int .i32 0, .int .i32 0]) := by kernel_rfl
theorem zb_Type_68 : zeroB Try.prog 68 = some (.agg #[.int .u64 0, .int .u64 0, .int .u32 0, .int .u8 0, .int .u8 0, .int .u8 0, .int .u8 0, .nilFunc, .pointer none, .int .i32 0, .int .i32 0]) := by kernel_rfl
theorem eb_Op : ElemB Try.prog 22 31 6 64 (.agg #[.int .i64 0, .int .i64 0, .int .i64 0, .int .i64 0, .int .i64 0, .slice none 0 0]) := ⟨by kernel_rfl, by kernel_rfl, rfl⟩
abbrev ts_Op : TypeId := 22
abbrev te_Op : TypeId := 31
theorem eb_uint8 : ElemB Try.prog 27 5 1 1 (.int .u8 0) := ⟨by kernel_rfl, by kernel_rfl, rfl⟩
abbrev ts_uint8 : TypeId := 27
abbrev te_uint8 : TypeId := 5
theorem eb_Packet : ElemB Try.prog 38 29 4 48 (.agg #[.int .i64 0, .int .i64 0, .int .i64 0, .slice none 0 0]) := ⟨by kernel_rfl, by kernel_rfl, rfl⟩
abbrev ts_Packet : TypeId := 38
abbrev te_Packet : TypeId := 29
end Go.Proofs.YthkfeonpnplemaaS
