import Derived.Test.YtkdakglnhipmaaaSK
set_option linter.unusedVariables false
namespace Go.Proofs.YtkdakglnhipmaaaS
def shsT : List (Nat × Sh) := [(0, .tup []), (2, .one (.sc (.int .i64))), (3, .one (.sc (.int .i64))), (4, .one (.sc (.bool))), (5, .one (.sc (.int .u8))), (6, .one (.sc (.int .u8))), (7, .one (.agg [.int .i64, .int .i64, .bool, .int .u8])), (8, .one (.agg [.int .i64, .int .i64, .bool, .int .u8])), (9, .one (.sc (.str))), (10, .one (.sc (.str))), (11, .one (.sc (.str))), (12, .one (.sc (.int .u64))), (13, .one (.agg [.str, .int .u64])), (14, .one (.agg [.str, .int .u64])), (15, .one (.sc (.ptr))), (16, .one (.sc (.ptr))), (17, .one (.sc (.ptr))), (18, .one (.agg [.ptr])), (19, .one (.agg [.ptr])), (20, .one (.sc (.v))), (21, .one (.sc (.int .i32))), (22, .one (.sc (.int .u32))), (23, .one (.sc (.sl))), (24, .one (.agg [.int .i64, .bool, .int .u32, .int .u32, .sl])), (25, .one (.agg [.int .i64, .bool, .int .u32, .int .u32, .sl])), (27, .one (.sc (.sl))), (28, .one (.sc (.int .i64))), (29, .tup [(.sc (.sl)), (.sc (.int .i64))]), (33, .tup [.agg [.int .i64, .bool, .int .u32, .int .u32, .sl], (.sc (.int .i64))]), (37, .one (.agg [.int .u32, .int .i64])), (38, .one (.agg [.int .u32, .int .i64])), (39, .one (.agg [.int .i64, .int .i64, .int .i64])), (40, .one (.agg [.int .i64, .int .i64, .int .i64])), (41, .one (.sc (.int .u16))), (42, .one (.agg [.int .u32, .int .i64, .int .i64, .int .i64, .int .i64, .int .u16])), (43, .one (.agg [.int .u32, .int .i64, .int .i64, .int .i64, .int .i64, .int .u16])), (53, .tup [(.sc (.int .u32)), (.sc (.bool))]), (61, .one (.sc (.sl))), (65, .tup [(.sc (.int .u16)), (.sc (.bool))]), (68, .one (.sc (.int .u64))), (69, .one (.sc (.int .u64))), (71, .one (.agg [.ptr, .ptr, .ptr, .str])), (72, .one (.agg [.ptr, .ptr, .ptr, .str])), (73, .one (.agg [])), (74, .one (.agg [])), (75, .one (.agg [])), (77, .one (.sc (.int .u8))), (78, .one (.sc (.int .u8))), (80, .one (.sc (.ptr))), (81, .one (.sc (.int .i32))), (82, .one (.sc (.int .i32))), (83, .one (.agg [.int .u64, .int .u64, .int .u32, .int .u8, .int .u8, .int .u8, .int .u8, .v, .ptr, .int .i32, .int .i32])), (84, .one (.agg [.int .u64, .int .u64, .int .u32, .int .u8, .int .u8, .int .u8, .int .u8, .v, .ptr, .int .i32, .int .i32])), (85, .one (.sc (.v)))]
def shs (t : TypeId) : Sh := match shsT.find? (fun p => p.1 == t) with | some p => p.2 | none => .one (.sc .v)
def fshsT : List (Nat × Sh) := [(0, .tup []), (1, .tup []), (2, .tup []), (3, .one (.sc (.bool))), (4, .one (.sc (.bool))), (5, .one (.sc (.bool))), (6, .one (.sc (.bool))), (7, .one (.sc (.bool))), (8, .one (.sc (.bool))), (9, .one (.sc (.bool))), (10, .tup [(.sc (.sl)), (.sc (.int .i64))]), (11, .tup [(.sc (.sl)), (.sc (.int .i64))]), (12, .one (.sc (.bool))), (13, .tup [.agg [.int .i64, .bool, .int .u32, .int .u32, .sl], (.sc (.int .i64))]), (14, .tup [.agg [.int .i64, .bool, .int .u32, .int .u32, .sl], (.sc (.int .i64))]), (15, .one (.sc (.bool))), (16, .one (.sc (.bool))), (17, .one (.sc (.bool))), (18, .one (.sc (.sl))), (19, .one (.sc (.sl))), (20, .one (.sc (.sl))), (21, .one (.sc (.sl))), (22, .one (.sc (.bool))), (23, .one (.sc (.sl))), (24, .one (.sc (.int .u16))), (25, .one (.sc (.bool))), (26, .tup [(.sc (.int .u32)), (.sc (.bool))]), (27, .one (.agg [.int .u32, .int .i64, .int .i64, .int .i64, .int .i64, .int .u16])), (28, .tup [(.sc (.int .u32)), (.sc (.bool))]), (29, .one (.sc (.int .u32))), (30, .one (.sc (.bool))), (31, .one (.sc (.bool))), (32, .one (.sc (.int .i64))), (33, .one (.sc (.sl))), (34, .one (.sc (.sl))), (35, .one (.sc (.sl))), (36, .one (.sc (.sl))), (37, .one (.sc (.int .u16))), (38, .one (.sc (.bool))), (39, .one (.sc (.bool))), (40, .one (.sc (.sl))), (41, .tup [(.sc (.int .u32)), (.sc (.bool))]), (42, .tup [(.sc (.int .u16)), (.sc (.bool))]), (43, .one (.sc (.int .u32))), (44, .one (.sc (.int .u32))), (45, .one (.sc (.str))), (46, .tup []), (47, .one (.sc (.str))), (48, .tup []), (49, .one (.sc (.str))), (50, .tup []), (51, .one (.sc (.str))), (52, .tup []), (53, .one (.sc (.str))), (54, .tup []), (55, .one (.sc (.str))), (56, .tup []), (57, .one (.sc (.int .i64))), (58, .one (.sc (.str))), (59, .tup []), (60, .one (.sc (.str)))]
def fshs (f : FuncId) : Sh := match fshsT.find? (fun p => p.1 == f) with | some p => p.2 | none => .tup []
theorem zb_int64 : zeroB Try.prog 2 = some (.int .i64 0) := by kernel_rfl
theorem zb_int : zeroB Try.prog 3 = some (.int .i64 0) := by kernel_rfl
theorem zb_t4 : zeroB Try.prog 4 = some (.bool false) := by kernel_rfl
theorem zb_uint8 : zeroB Try.prog 5 = some (.int .u8 0) := by kernel_rfl
theorem zb_BoundsErrorCode : zeroB Try.prog 6 = some (.int .u8 0) := by kernel_rfl
theorem zb_x : zeroB Try.prog 7 = some (.agg #[.int .i64 0, .int .i64 0, .bool false, .int .u8 0]) := by kernel_rfl
theorem zb_boundsError : zeroB Try.prog 8 = some (.agg #[.int .i64 0, .int .i64 0, .bool false, .int .u8 0]) := by kernel_rfl
theorem zb_t9 : zeroB Try.prog 9 = some (.string (ByteArray.mk #[])) := by kernel_rfl
theorem zb_errorString : zeroB Try.prog 10 = some (.string (ByteArray.mk #[])) := by kernel_rfl
theorem zb_plainError : zeroB Try.prog 11 = some (.string (ByteArray.mk #[])) := by kernel_rfl
theorem zb_uintptr : zeroB Try.prog 12 = some (.int .u64 0) := by kernel_rfl
theorem zb_msg : zeroB Try.prog 13 = some (.agg #[.string (ByteArray.mk #[]), .int .u64 0]) := by kernel_rfl
theorem zb_errorAddressString : zeroB Try.prog 14 = some (.agg #[.string (ByteArray.mk #[]), .int .u64 0]) := by kernel_rfl
theorem zb_TypeAssertionError : zeroB Try.prog 15 = some (.pointer none) := by kernel_rfl
theorem zb_PanicNilError : zeroB Try.prog 16 = some (.pointer none) := by kernel_rfl
theorem zb_Type : zeroB Try.prog 17 = some (.pointer none) := by kernel_rfl
theorem zb_typ : zeroB Try.prog 18 = some (.agg #[.pointer none]) := by kernel_rfl
theorem zb_unhashableTypeError : zeroB Try.prog 19 = some (.agg #[.pointer none]) := by kernel_rfl
theorem zb_int32 : zeroB Try.prog 21 = some (.int .i32 0) := by kernel_rfl
theorem zb_uint32 : zeroB Try.prog 22 = some (.int .u32 0) := by kernel_rfl
theorem zb_DualEntry : zeroB Try.prog 23 = some (.slice none 0 0) := by kernel_rfl
theorem zb_Code : zeroB Try.prog 24 = some (.agg #[.int .i64 0, .bool false, .int .u32 0, .int .u32 0, .slice none 0 0]) := by kernel_rfl
theorem zb_DualPacket : zeroB Try.prog 25 = some (.agg #[.int .i64 0, .bool false, .int .u32 0, .int .u32 0, .slice none 0 0]) := by kernel_rfl
theorem zb_uint8_27 : zeroB Try.prog 27 = some (.slice none 0 0) := by kernel_rfl
theorem zb_Errno : zeroB Try.prog 28 = some (.int .i64 0) := by kernel_rfl
theorem zb_Addr : zeroB Try.prog 37 = some (.agg #[.int .u32 0, .int .i64 0]) := by kernel_rfl
theorem zb_Prefix : zeroB Try.prog 38 = some (.agg #[.int .u32 0, .int .i64 0]) := by kernel_rfl
theorem zb_Band : zeroB Try.prog 39 = some (.agg #[.int .i64 0, .int .i64 0, .int .i64 0]) := by kernel_rfl
theorem zb_Vector : zeroB Try.prog 40 = some (.agg #[.int .i64 0, .int .i64 0, .int .i64 0]) := by kernel_rfl
theorem zb_uint16 : zeroB Try.prog 41 = some (.int .u16 0) := by kernel_rfl
theorem zb_Prefix_42 : zeroB Try.prog 42 = some (.agg #[.int .u32 0, .int .i64 0, .int .i64 0, .int .i64 0, .int .i64 0, .int .u16 0]) := by kernel_rfl
theorem zb_DualEntry_43 : zeroB Try.prog 43 = some (.agg #[.int .u32 0, .int .i64 0, .int .i64 0, .int .i64 0, .int .i64 0, .int .u16 0]) := by kernel_rfl
theorem zb_uint8_61 : zeroB Try.prog 61 = some (.slice none 0 0) := by kernel_rfl
theorem zb_uint64 : zeroB Try.prog 68 = some (.int .u64 0) := by kernel_rfl
theorem zb_uint : zeroB Try.prog 69 = some (.int .u64 0) := by kernel_rfl
theorem zb_interface : zeroB Try.prog 71 = some (.agg #[.pointer none, .pointer none, .pointer none, .string (ByteArray.mk #[])]) := by kernel_rfl
theorem zb_TypeAssertionError_72 : zeroB Try.prog 72 = some (.agg #[.pointer none, .pointer none, .pointer none, .string (ByteArray.mk #[])]) := by kernel_rfl
theorem zb_PanicNilError_73 : zeroB Try.prog 73 = some (.agg #[]) := by kernel_rfl
theorem zb_t74 : zeroB Try.prog 74 = some (.agg #[]) := by kernel_rfl
theorem zb_PanicNilError_75 : zeroB Try.prog 75 = some (.agg #[]) := by kernel_rfl
theorem zb_TFlag : zeroB Try.prog 77 = some (.int .u8 0) := by kernel_rfl
theorem zb_Kind : zeroB Try.prog 78 = some (.int .u8 0) := by kernel_rfl
theorem zb_uint8_80 : zeroB Try.prog 80 = some (.pointer none) := by kernel_rfl
theorem zb_NameOff : zeroB Try.prog 81 = some (.int .i32 0) := by kernel_rfl
theorem zb_TypeOff : zeroB Try.prog 82 = some (.int .i32 0) := by kernel_rfl
theorem zb_Size : zeroB Try.prog 83 = some (.agg #[.int .u64 0, .int .u64 0, .int .u32 0, .int .u8 0, .int .u8 0, .int .u8 0, .int .u8 0, .nilFunc, .pointer none, .int .i32 0, .int .i32 0]) := by kernel_rfl
theorem zb_Type_84 : zeroB Try.prog 84 = some (.agg #[.int .u64 0, .int .u64 0, .int .u32 0, .int .u8 0, .int .u8 0, .int .u8 0, .int .u8 0, .nilFunc, .pointer none, .int .i32 0, .int .i32 0]) := by kernel_rfl
theorem eb_DualEntry : ElemB Try.prog 23 43 6 48 (.agg #[.int .u32 0, .int .i64 0, .int .i64 0, .int .i64 0, .int .i64 0, .int .u16 0]) := ⟨by kernel_rfl, by kernel_rfl, rfl⟩
abbrev ts_DualEntry : TypeId := 23
abbrev te_DualEntry : TypeId := 43
theorem eb_uint8 : ElemB Try.prog 27 5 1 1 (.int .u8 0) := ⟨by kernel_rfl, by kernel_rfl, rfl⟩
abbrev ts_uint8 : TypeId := 27
abbrev te_uint8 : TypeId := 5
theorem eb_uint8_61 : ElemB Try.prog 61 27 1 24 (.slice none 0 0) := ⟨by kernel_rfl, by kernel_rfl, rfl⟩
abbrev ts_uint8_61 : TypeId := 61
abbrev te_uint8_61 : TypeId := 27
end Go.Proofs.YtkdakglnhipmaaaS
