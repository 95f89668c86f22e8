import Derived.Test.YtahllmihgpaaeaaSK
set_option linter.unusedVariables false
namespace Go.Proofs.YtahllmihgpaaeaaS
def shsT : List (Nat × Sh) := [(0, .tup []), (2, .one (.sc (.int .i64))), (3, .one (.sc (.int .i64))), (4, .one (.sc (.bool))), (5, .one (.sc (.int .u8))), (6, .one (.sc (.int .u8))), (7, .one (.agg [.int .i64, .int .i64, .bool, .int .u8])), (8, .one (.agg [.int .i64, .int .i64, .bool, .int .u8])), (9, .one (.sc (.str))), (10, .one (.sc (.str))), (11, .one (.sc (.str))), (12, .one (.sc (.int .u64))), (13, .one (.agg [.str, .int .u64])), (14, .one (.agg [.str, .int .u64])), (15, .one (.sc (.ptr))), (16, .one (.sc (.ptr))), (17, .one (.sc (.ptr))), (18, .one (.agg [.ptr])), (19, .one (.agg [.ptr])), (20, .one (.sc (.v))), (21, .one (.sc (.int .i32))), (22, .one (.sc (.sl))), (23, .one (.agg [.int .i64, .bool, .sl])), (24, .one (.agg [.int .i64, .bool, .sl])), (26, .one (.sc (.sl))), (27, .one (.sc (.int .i64))), (28, .tup [(.sc (.sl)), (.sc (.int .i64))]), (32, .tup [.agg [.int .i64, .bool, .sl], (.sc (.int .i64))]), (36, .one (.sc (.int .u32))), (37, .one (.agg [.int .u32, .int .i64])), (38, .one (.agg [.int .u32, .int .i64])), (39, .one (.sc (.int .u16))), (40, .one (.agg [.int .u32, .int .i64, .int .u16, .int .u32, .int .i64])), (41, .one (.agg [.int .u32, .int .i64, .int .u16, .int .u32, .int .i64])), (50, .tup [.agg [.int .u32, .int .i64, .int .u16, .int .u32, .int .i64], (.sc (.bool))]), (57, .tup [(.sc (.int .u32)), (.sc (.bool))]), (59, .tup [(.sc (.int .i64)), (.sc (.bool))]), (61, .one (.sc (.sl))), (64, .tup [(.sc (.int .u16)), (.sc (.bool))]), (67, .one (.sc (.int .u64))), (69, .one (.agg [.ptr, .ptr, .ptr, .str])), (70, .one (.agg [.ptr, .ptr, .ptr, .str])), (71, .one (.agg [])), (72, .one (.agg [])), (73, .one (.agg [])), (75, .one (.sc (.int .u8))), (76, .one (.sc (.int .u8))), (78, .one (.sc (.ptr))), (79, .one (.sc (.int .i32))), (80, .one (.sc (.int .i32))), (81, .one (.agg [.int .u64, .int .u64, .int .u32, .int .u8, .int .u8, .int .u8, .int .u8, .v, .ptr, .int .i32, .int .i32])), (82, .one (.agg [.int .u64, .int .u64, .int .u32, .int .u8, .int .u8, .int .u8, .int .u8, .v, .ptr, .int .i32, .int .i32])), (83, .one (.sc (.v)))]
def shs (t : TypeId) : Sh := match shsT.find? (fun p => p.1 == t) with | some p => p.2 | none => .one (.sc .v)
def fshsT : List (Nat × Sh) := [(0, .tup []), (1, .tup []), (2, .tup []), (3, .one (.sc (.bool))), (4, .one (.sc (.bool))), (5, .one (.sc (.bool))), (6, .one (.sc (.bool))), (7, .one (.sc (.bool))), (8, .one (.sc (.bool))), (9, .one (.sc (.bool))), (10, .one (.sc (.bool))), (11, .tup [(.sc (.sl)), (.sc (.int .i64))]), (12, .tup [(.sc (.sl)), (.sc (.int .i64))]), (13, .tup [.agg [.int .i64, .bool, .sl], (.sc (.int .i64))]), (14, .tup [.agg [.int .i64, .bool, .sl], (.sc (.int .i64))]), (15, .one (.sc (.bool))), (16, .one (.sc (.bool))), (17, .one (.sc (.bool))), (18, .one (.sc (.bool))), (19, .one (.sc (.sl))), (20, .one (.sc (.sl))), (21, .one (.sc (.sl))), (22, .one (.sc (.bool))), (23, .one (.sc (.sl))), (24, .one (.sc (.int .u32))), (25, .one (.sc (.bool))), (26, .tup [.agg [.int .i64, .bool, .sl], (.sc (.int .i64))]), (27, .tup [.agg [.int .u32, .int .i64, .int .u16, .int .u32, .int .i64], (.sc (.bool))]), (28, .one (.sc (.bool))), (29, .one (.sc (.int .i64))), (30, .one (.sc (.sl))), (31, .one (.sc (.sl))), (32, .one (.sc (.sl))), (33, .one (.sc (.int .u32))), (34, .one (.sc (.bool))), (35, .tup [.agg [.int .u32, .int .i64, .int .u16, .int .u32, .int .i64], (.sc (.bool))]), (36, .tup [(.sc (.int .u32)), (.sc (.bool))]), (37, .tup [(.sc (.int .i64)), (.sc (.bool))]), (38, .one (.sc (.sl))), (39, .one (.sc (.sl))), (40, .tup [(.sc (.int .u32)), (.sc (.bool))]), (41, .tup [(.sc (.int .u16)), (.sc (.bool))]), (42, .tup [(.sc (.int .i64)), (.sc (.bool))]), (43, .tup [(.sc (.int .u32)), (.sc (.bool))]), (44, .one (.sc (.int .i64))), (45, .one (.sc (.int .i64))), (46, .one (.sc (.str))), (47, .tup []), (48, .one (.sc (.str))), (49, .tup []), (50, .one (.sc (.str))), (51, .tup []), (52, .one (.sc (.str))), (53, .tup []), (54, .one (.sc (.str))), (55, .tup []), (56, .one (.sc (.str))), (57, .tup []), (58, .one (.sc (.int .i64))), (59, .one (.sc (.str))), (60, .tup []), (61, .one (.sc (.str)))]
def fshs (f : FuncId) : Sh := match fshsT.find? (fun p => p.1 == f) with | some p => p.2 | none => .tup []
theorem zb_int64 : zeroB Try.prog 2 = some (.int .i64 0) := by kernel_rfl
theorem zb_int : zeroB Try.prog 3 = some (.int .i64 0) := by kernel_rfl
theorem zb_t4 : zeroB Try.prog 4 = some (.bool false) := by kernel_rfl
theorem zb_uint8 : zeroB Try.prog 5 = some (.int .u8 0) := by kernel_rfl
theorem zb_BoundsErrorCode : zeroB Try.prog 6 = some (.int .u8 0) := by kernel_rfl
theorem zb_x : zeroB Try.prog 7 = some (.agg #[.int .i64 0, .int .i64 0, .bool false, .int .u8 0]) := by kernel_rfl
theorem zb_boundsError : zeroB Try.prog 8 = some (.agg #[.int .i64 0, .int .i64 0, .bool false, .int .u8 0]) := by kernel_rfl
theorem zb_t9 : zeroB Try.prog 9 = some (.string (ByteArray.mk #[])) := by kernel_rfl
theorem zb_errorString : zeroB Try.prog 10 = some (.string (ByteArray.mk #[])) := by kernel_rfl
theorem zb_plainError : zeroB Try.prog 11 = some (.string (ByteArray.mk #[])) := by kernel_rfl
theorem zb_uintptr : zeroB Try.prog 12 = some (.int .u64 0) := by kernel_rfl
theorem zb_msg : zeroB Try.prog 13 = some (.agg #[.string (ByteArray.mk #[]), .int .u64 0]) := by kernel_rfl
theorem zb_errorAddressString : zeroB Try.prog 14 = some (.agg #[.string (ByteArray.mk #[]), .int .u64 0]) := by kernel_rfl
theorem zb_TypeAssertionError : zeroB Try.prog 15 = some (.pointer none) := by kernel_rfl
theorem zb_PanicNilError : zeroB Try.prog 16 = some (.pointer none) := by kernel_rfl
theorem zb_Type : zeroB Try.prog 17 = some (.pointer none) := by kernel_rfl
theorem zb_typ : zeroB Try.prog 18 = some (.agg #[.pointer none]) := by kernel_rfl
theorem zb_unhashableTypeError : zeroB Try.prog 19 = some (.agg #[.pointer none]) := by kernel_rfl
theorem zb_int32 : zeroB Try.prog 21 = some (.int .i32 0) := by kernel_rfl
theorem zb_RipEntry : zeroB Try.prog 22 = some (.slice none 0 0) := by kernel_rfl
theorem zb_Command : zeroB Try.prog 23 = some (.agg #[.int .i64 0, .bool false, .slice none 0 0]) := by kernel_rfl
theorem zb_RipPacket : zeroB Try.prog 24 = some (.agg #[.int .i64 0, .bool false, .slice none 0 0]) := by kernel_rfl
theorem zb_uint8_26 : zeroB Try.prog 26 = some (.slice none 0 0) := by kernel_rfl
theorem zb_Errno : zeroB Try.prog 27 = some (.int .i64 0) := by kernel_rfl
theorem zb_uint32 : zeroB Try.prog 36 = some (.int .u32 0) := by kernel_rfl
theorem zb_Addr : zeroB Try.prog 37 = some (.agg #[.int .u32 0, .int .i64 0]) := by kernel_rfl
theorem zb_Prefix : zeroB Try.prog 38 = some (.agg #[.int .u32 0, .int .i64 0]) := by kernel_rfl
theorem zb_uint16 : zeroB Try.prog 39 = some (.int .u16 0) := by kernel_rfl
theorem zb_Prefix_40 : zeroB Try.prog 40 = some (.agg #[.int .u32 0, .int .i64 0, .int .u16 0, .int .u32 0, .int .i64 0]) := by kernel_rfl
theorem zb_RipEntry_41 : zeroB Try.prog 41 = some (.agg #[.int .u32 0, .int .i64 0, .int .u16 0, .int .u32 0, .int .i64 0]) := by kernel_rfl
theorem zb_uint8_61 : zeroB Try.prog 61 = some (.slice none 0 0) := by kernel_rfl
theorem zb_uint : zeroB Try.prog 67 = some (.int .u64 0) := by kernel_rfl
theorem zb_interface : zeroB Try.prog 69 = some (.agg #[.pointer none, .pointer none, .pointer none, .string (ByteArray.mk #[])]) := by kernel_rfl
theorem zb_TypeAssertionError_70 : zeroB Try.prog 70 = some (.agg #[.pointer none, .pointer none, .pointer none, .string (ByteArray.mk #[])]) := by kernel_rfl
theorem zb_PanicNilError_71 : zeroB Try.prog 71 = some (.agg #[]) := by kernel_rfl
theorem zb_t72 : zeroB Try.prog 72 = some (.agg #[]) := by kernel_rfl
theorem zb_PanicNilError_73 : zeroB Try.prog 73 = some (.agg #[]) := by kernel_rfl
theorem zb_TFlag : zeroB Try.prog 75 = some (.int .u8 0) := by kernel_rfl
theorem zb_Kind : zeroB Try.prog 76 = some (.int .u8 0) := by kernel_rfl
theorem zb_uint8_78 : zeroB Try.prog 78 = some (.pointer none) := by kernel_rfl
theorem zb_NameOff : zeroB Try.prog 79 = some (.int .i32 0) := by kernel_rfl
theorem zb_TypeOff : zeroB Try.prog 80 = some (.int .i32 0) := by kernel_rfl
theorem zb_Size : zeroB Try.prog 81 = some (.agg #[.int .u64 0, .int .u64 0, .int .u32 0, .int .u8 0, .int .u8 0, .int .u8 0, .int .u8 0, .nilFunc, .pointer none, .int .i32 0, .int .i32 0]) := by kernel_rfl
theorem zb_Type_82 : zeroB Try.prog 82 = some (.agg #[.int .u64 0, .int .u64 0, .int .u32 0, .int .u8 0, .int .u8 0, .int .u8 0, .int .u8 0, .nilFunc, .pointer none, .int .i32 0, .int .i32 0]) := by kernel_rfl
theorem eb_RipEntry : ElemB Try.prog 22 41 5 32 (.agg #[.int .u32 0, .int .i64 0, .int .u16 0, .int .u32 0, .int .i64 0]) := ⟨by kernel_rfl, by kernel_rfl, rfl⟩
abbrev ts_RipEntry : TypeId := 22
abbrev te_RipEntry : TypeId := 41
theorem eb_uint8 : ElemB Try.prog 26 5 1 1 (.int .u8 0) := ⟨by kernel_rfl, by kernel_rfl, rfl⟩
abbrev ts_uint8 : TypeId := 26
abbrev te_uint8 : TypeId := 5
theorem eb_uint8_61 : ElemB Try.prog 61 26 1 24 (.slice none 0 0) := ⟨by kernel_rfl, by kernel_rfl, rfl⟩
abbrev ts_uint8_61 : TypeId := 61
abbrev te_uint8_61 : TypeId := 26
end Go.Proofs.YtahllmihgpaaeaaS
