import Derived.Test.YtcfnliodgoenkaaSK
set_option linter.unusedVariables false
namespace Go.Proofs.YtcfnliodgoenkaaS
def shsT : List (Nat × Sh) := [(0, .tup []), (2, .one (.sc (.int .i64))), (3, .one (.sc (.int .i64))), (4, .one (.sc (.bool))), (5, .one (.sc (.int .u8))), (6, .one (.sc (.int .u8))), (7, .one (.agg [.int .i64, .int .i64, .bool, .int .u8])), (8, .one (.agg [.int .i64, .int .i64, .bool, .int .u8])), (9, .one (.sc (.str))), (10, .one (.sc (.str))), (11, .one (.sc (.str))), (12, .one (.sc (.int .u64))), (13, .one (.agg [.str, .int .u64])), (14, .one (.agg [.str, .int .u64])), (15, .one (.sc (.ptr))), (16, .one (.sc (.ptr))), (17, .one (.sc (.ptr))), (18, .one (.agg [.ptr])), (19, .one (.agg [.ptr])), (20, .one (.sc (.v))), (21, .one (.sc (.int .i32))), (22, .one (.sc (.sl))), (23, .one (.sc (.int .u32))), (25, .one (.sc (.sl))), (26, .one (.sc (.int .i64))), (27, .tup [(.sc (.sl)), (.sc (.int .i64))]), (32, .one (.sc (.int .u16))), (33, .one (.agg [.int .u32, .int .i64])), (34, .one (.agg [.int .u32, .int .i64])), (35, .one (.sc (.int .u64))), (36, .one (.agg [.int .i64, .int .u16, .int .i64, .int .i64, .int .u32, .int .i64, .int .u64, .int .u16, .int .i64])), (37, .one (.agg [.int .i64, .int .u16, .int .i64, .int .i64, .int .u32, .int .i64, .int .u64, .int .u16, .int .i64])), (39, .tup [(.sc (.sl)), (.sc (.int .i64))]), (48, .one (.agg [.sl, .int .u64, .bool, .int .u32])), (49, .one (.agg [.sl, .int .u64, .bool, .int .u32])), (60, .one (.agg [.sl, .int .u64, .bool, .int .u32, .sl])), (61, .one (.agg [.sl, .int .u64, .bool, .int .u32, .sl])), (63, .one (.sc (.ptr))), (64, .one (.agg [.int .u64, .bool, .int .u32, .sl])), (65, .one (.agg [.int .u64, .bool, .int .u32, .sl])), (69, .one (.sc (.ptr))), (73, .one (.sc (.sl))), (76, .tup [(.sc (.int .u16)), (.sc (.bool))]), (78, .one (.sc (.ptr))), (79, .tup [(.sc (.int .u32)), (.sc (.bool))]), (82, .one (.sc (.int .u64))), (84, .tup [.agg [.int .u32, .int .i64], (.sc (.bool))]), (87, .one (.agg [.int .u8, .int .u8, .int .u8, .int .u8])), (89, .one (.agg [.ptr, .ptr, .ptr, .str])), (90, .one (.agg [.ptr, .ptr, .ptr, .str])), (91, .one (.agg [])), (92, .one (.agg [])), (93, .one (.agg [])), (95, .one (.sc (.int .u8))), (96, .one (.sc (.int .u8))), (98, .one (.sc (.ptr))), (99, .one (.sc (.int .i32))), (100, .one (.sc (.int .i32))), (101, .one (.agg [.int .u64, .int .u64, .int .u32, .int .u8, .int .u8, .int .u8, .int .u8, .v, .ptr, .int .i32, .int .i32])), (102, .one (.agg [.int .u64, .int .u64, .int .u32, .int .u8, .int .u8, .int .u8, .int .u8, .v, .ptr, .int .i32, .int .i32])), (103, .one (.sc (.ptr)))]
def shs (t : TypeId) : Sh := match shsT.find? (fun p => p.1 == t) with | some p => p.2 | none => .one (.sc .v)
def fshsT : List (Nat × Sh) := [(0, .tup []), (1, .tup []), (2, .tup []), (3, .one (.sc (.bool))), (4, .one (.sc (.bool))), (5, .one (.sc (.bool))), (6, .one (.sc (.bool))), (7, .one (.sc (.bool))), (8, .one (.sc (.bool))), (9, .one (.sc (.bool))), (10, .one (.sc (.bool))), (11, .one (.sc (.bool))), (12, .tup [(.sc (.sl)), (.sc (.int .i64))]), (13, .tup [(.sc (.sl)), (.sc (.int .i64))]), (14, .one (.sc (.int .i64))), (15, .one (.sc (.int .i64))), (16, .tup [(.sc (.sl)), (.sc (.int .i64))]), (17, .tup [(.sc (.sl)), (.sc (.int .i64))]), (18, .one (.sc (.bool))), (19, .one (.sc (.bool))), (20, .one (.sc (.bool))), (21, .one (.sc (.bool))), (22, .tup []), (23, .one (.sc (.sl))), (24, .one (.sc (.sl))), (25, .one (.sc (.bool))), (26, .one (.sc (.sl))), (27, .one (.sc (.sl))), (28, .one (.sc (.sl))), (29, .one (.sc (.sl))), (30, .one (.sc (.sl))), (31, .one (.sc (.sl))), (32, .one (.sc (.sl))), (33, .one (.sc (.int .i64))), (34, .one (.sc (.bool))), (35, .one (.sc (.int .i64))), (36, .one (.sc (.bool))), (37, .one (.agg [.int .i64, .int .u16, .int .i64, .int .i64, .int .u32, .int .i64, .int .u64, .int .u16, .int .i64])), (38, .one (.sc (.bool))), (39, .one (.sc (.int .i64))), (40, .one (.sc (.sl))), (41, .one (.sc (.sl))), (42, .tup []), (43, .one (.sc (.sl))), (44, .one (.sc (.sl))), (45, .one (.sc (.sl))), (46, .one (.sc (.bool))), (47, .one (.sc (.int .i64))), (48, .one (.sc (.sl))), (49, .one (.sc (.sl))), (50, .tup [(.sc (.int .u16)), (.sc (.bool))]), (51, .one (.sc (.bool))), (52, .one (.sc (.bool))), (53, .one (.sc (.bool))), (54, .tup [(.sc (.int .u32)), (.sc (.bool))]), (55, .one (.sc (.bool))), (56, .one (.sc (.bool))), (57, .one (.sc (.bool))), (58, .one (.sc (.int .u32))), (59, .one (.sc (.int .i64))), (60, .one (.sc (.int .u32))), (61, .tup [(.sc (.int .u32)), (.sc (.bool))]), (62, .one (.sc (.int .u64))), (63, .tup [.agg [.int .u32, .int .i64], (.sc (.bool))]), (64, .one (.sc (.int .u64))), (65, .tup [.agg [.int .u32, .int .i64], (.sc (.bool))]), (66, .tup [(.sc (.int .u32)), (.sc (.bool))]), (67, .one (.sc (.str))), (68, .tup []), (69, .one (.sc (.str))), (70, .tup []), (71, .one (.sc (.str))), (72, .tup []), (73, .one (.sc (.str))), (74, .tup []), (75, .one (.sc (.str))), (76, .tup []), (77, .one (.sc (.str))), (78, .tup []), (79, .one (.sc (.int .i64))), (80, .one (.sc (.str))), (81, .tup []), (82, .one (.sc (.str)))]
def fshs (f : FuncId) : Sh := match fshsT.find? (fun p => p.1 == f) with | some p => p.2 | none => .tup []
theorem zb_int64 : zeroB Try.prog 2 = some (.int .i64 0) := by kernel_rfl
theorem zb_int : zeroB Try.prog 3 = some (.int .i64 0) := by kernel_rfl
theorem zb_t4 : zeroB Try.prog 4 = some (.bool false) := by kernel_rfl
theorem zb_uint8 : zeroB Try.prog 5 = some (.int .u8 0) := by kernel_rfl
theorem zb_BoundsErrorCode : zeroB Try.prog 6 = some (.int .u8 0) := by kernel_rfl
theorem zb_x : zeroB Try.prog 7 = some (.agg #[.int .i64 0, .int .i64 0, .bool false, .int .u8 0]) := by kernel_rfl
theorem zb_boundsError : zeroB Try.prog 8 = some (.agg #[.int .i64 0, .int .i64 0, .bool false, .int .u8 0]) := by kernel_rfl
theorem zb_t9 : zeroB Try.prog 9 = some (.string (ByteArray.mk #[])) := by kernel_rfl
theorem zb_errorString : zeroB Try.prog 10 = some (.string (ByteArray.mk #[])) := by kernel_rfl
theorem zb_plainError : zeroB Try.prog 11 = some (.string (ByteArray.mk #[])) := by kernel_rfl
theorem zb_uintptr : zeroB Try.prog 12 = some (.int .u64 0) := by kernel_rfl
theorem zb_msg : zeroB Try.prog 13 = some (.agg #[.string (ByteArray.mk #[]), .int .u64 0]) := by kernel_rfl
theorem zb_errorAddressString : zeroB Try.prog 14 = some (.agg #[.string (ByteArray.mk #[]), .int .u64 0]) := by kernel_rfl
theorem zb_TypeAssertionError : zeroB Try.prog 15 = some (.pointer none) := by kernel_rfl
theorem zb_PanicNilError : zeroB Try.prog 16 = some (.pointer none) := by kernel_rfl
theorem zb_Type : zeroB Try.prog 17 = some (.pointer none) := by kernel_rfl
theorem zb_typ : zeroB Try.prog 18 = some (.agg #[.pointer none]) := by kernel_rfl
theorem zb_unhashableTypeError : zeroB Try.prog 19 = some (.agg #[.pointer none]) := by kernel_rfl
theorem zb_int32 : zeroB Try.prog 21 = some (.int .i32 0) := by kernel_rfl
theorem zb_BabelTlv : zeroB Try.prog 22 = some (.slice none 0 0) := by kernel_rfl
theorem zb_uint32 : zeroB Try.prog 23 = some (.int .u32 0) := by kernel_rfl
theorem zb_uint8_25 : zeroB Try.prog 25 = some (.slice none 0 0) := by kernel_rfl
theorem zb_Errno : zeroB Try.prog 26 = some (.int .i64 0) := by kernel_rfl
theorem zb_uint16 : zeroB Try.prog 32 = some (.int .u16 0) := by kernel_rfl
theorem zb_Addr : zeroB Try.prog 33 = some (.agg #[.int .u32 0, .int .i64 0]) := by kernel_rfl
theorem zb_Prefix : zeroB Try.prog 34 = some (.agg #[.int .u32 0, .int .i64 0]) := by kernel_rfl
theorem zb_uint64 : zeroB Try.prog 35 = some (.int .u64 0) := by kernel_rfl
theorem zb_Kind : zeroB Try.prog 36 = some (.agg #[.int .i64 0, .int .u16 0, .int .i64 0, .int .i64 0, .int .u32 0, .int .i64 0, .int .u64 0, .int .u16 0, .int .i64 0]) := by kernel_rfl
theorem zb_BabelTlv_37 : zeroB Try.prog 37 = some (.agg #[.int .i64 0, .int .u16 0, .int .i64 0, .int .i64 0, .int .u32 0, .int .i64 0, .int .u64 0, .int .u16 0, .int .i64 0]) := by kernel_rfl
theorem zb_b : zeroB Try.prog 48 = some (.agg #[.slice none 0 0, .int .u64 0, .bool false, .int .u32 0]) := by kernel_rfl
theorem zb_writer : zeroB Try.prog 49 = some (.agg #[.slice none 0 0, .int .u64 0, .bool false, .int .u32 0]) := by kernel_rfl
theorem zb_writer_60 : zeroB Try.prog 60 = some (.agg #[.slice none 0 0, .int .u64 0, .bool false, .int .u32 0, .slice none 0 0]) := by kernel_rfl
theorem zb_reader : zeroB Try.prog 61 = some (.agg #[.slice none 0 0, .int .u64 0, .bool false, .int .u32 0, .slice none 0 0]) := by kernel_rfl
theorem zb_Reader : zeroB Try.prog 63 = some (.pointer none) := by kernel_rfl
theorem zb_Router : zeroB Try.prog 64 = some (.agg #[.int .u64 0, .bool false, .int .u32 0, .slice none 0 0]) := by kernel_rfl
theorem zb_Reader_65 : zeroB Try.prog 65 = some (.agg #[.int .u64 0, .bool false, .int .u32 0, .slice none 0 0]) := by kernel_rfl
theorem zb_writer_69 : zeroB Try.prog 69 = some (.pointer none) := by kernel_rfl
theorem zb_uint8_73 : zeroB Try.prog 73 = some (.slice none 0 0) := by kernel_rfl
theorem zb_reader_78 : zeroB Try.prog 78 = some (.pointer none) := by kernel_rfl
theorem zb_uint : zeroB Try.prog 82 = some (.int .u64 0) := by kernel_rfl
theorem zb_4_uint8 : zeroB Try.prog 87 = some (.agg #[.int .u8 0, .int .u8 0, .int .u8 0, .int .u8 0]) := by kernel_rfl
theorem zb_interface : zeroB Try.prog 89 = some (.agg #[.pointer none, .pointer none, .pointer none, .string (ByteArray.mk #[])]) := by kernel_rfl
theorem zb_TypeAssertionError_90 : zeroB Try.prog 90 = some (.agg #[.pointer none, .pointer none, .pointer none, .string (ByteArray.mk #[])]) := by kernel_rfl
theorem zb_PanicNilError_91 : zeroB Try.prog 91 = some (.agg #[]) := by kernel_rfl
theorem zb_t92 : zeroB Try.prog 92 = some (.agg #[]) := by kernel_rfl
theorem zb_PanicNilError_93 : zeroB Try.prog 93 = some (.agg #[]) := by kernel_rfl
theorem zb_TFlag : zeroB Try.prog 95 = some (.int .u8 0) := by kernel_rfl
theorem zb_Kind_96 : zeroB Try.prog 96 = some (.int .u8 0) := by kernel_rfl
theorem zb_uint8_98 : zeroB Try.prog 98 = some (.pointer none) := by kernel_rfl
theorem zb_NameOff : zeroB Try.prog 99 = some (.int .i32 0) := by kernel_rfl
theorem zb_TypeOff : zeroB Try.prog 100 = some (.int .i32 0) := by kernel_rfl
theorem zb_Size : zeroB Try.prog 101 = some (.agg #[.int .u64 0, .int .u64 0, .int .u32 0, .int .u8 0, .int .u8 0, .int .u8 0, .int .u8 0, .nilFunc, .pointer none, .int .i32 0, .int .i32 0]) := by kernel_rfl
theorem zb_Type_102 : zeroB Try.prog 102 = some (.agg #[.int .u64 0, .int .u64 0, .int .u32 0, .int .u8 0, .int .u8 0, .int .u8 0, .int .u8 0, .nilFunc, .pointer none, .int .i32 0, .int .i32 0]) := by kernel_rfl
theorem zb_t103 : zeroB Try.prog 103 = some (.pointer none) := by kernel_rfl
theorem eb_BabelTlv : ElemB Try.prog 22 37 9 72 (.agg #[.int .i64 0, .int .u16 0, .int .i64 0, .int .i64 0, .int .u32 0, .int .i64 0, .int .u64 0, .int .u16 0, .int .i64 0]) := ⟨by kernel_rfl, by kernel_rfl, rfl⟩
abbrev ts_BabelTlv : TypeId := 22
abbrev te_BabelTlv : TypeId := 37
theorem eb_uint8 : ElemB Try.prog 25 5 1 1 (.int .u8 0) := ⟨by kernel_rfl, by kernel_rfl, rfl⟩
abbrev ts_uint8 : TypeId := 25
abbrev te_uint8 : TypeId := 5
theorem eb_uint8_73 : ElemB Try.prog 73 25 1 24 (.slice none 0 0) := ⟨by kernel_rfl, by kernel_rfl, rfl⟩
abbrev ts_uint8_73 : TypeId := 73
abbrev te_uint8_73 : TypeId := 25
end Go.Proofs.YtcfnliodgoenkaaS
