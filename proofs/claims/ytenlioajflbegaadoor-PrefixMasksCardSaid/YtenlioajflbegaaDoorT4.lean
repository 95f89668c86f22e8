import Derived.Test.YtenlioajflbegaaDoorT0
set_option linter.unusedVariables false
namespace Go.Proofs.YtenlioajflbegaaDoorS
/-! ### internal_strconv_formatBits: function 59 of Go -/
abbrev F_internal_strconv_formatBits : FuncId := 59
noncomputable def c_internal_strconv_formatBits : Code := (Tryd.f59.body).getD .skip
noncomputable def g_internal_strconv_formatBits : Cfg := { sh := shs, fsh := fshs, results := [.tmp 10, .tmp 11], hint := fun r i => match r, i with | 14, 2 => some (true, .one (.sc (.int .u64))) | 20, 2 => some (true, .one (.sc (.int .u64))) | 30, 2 => some (true, .one (.sc (.str))) | _, _ => none, ord := fun _ => none, pre := fun _ => [], un := fun _ _ _ => false }
noncomputable def k_internal_strconv_formatBits_1 : List Item := [.code (bd (bd (sl (sr (sr (sr (ct (sr (sl (sr (sr (sr (sr (sr c_internal_strconv_formatBits)))))))))))))), .inLoop (bd (bd (sl (sr (sr (sr (ct (sr (sl (sr (sr (sr (sr (sr c_internal_strconv_formatBits)))))))))))))), .inBlock 0, .code (sr (sr (sr (sr (ct (sr (sl (sr (sr (sr (sr (sr c_internal_strconv_formatBits)))))))))))), .code (sr (sr (sr (sr (sr (sr c_internal_strconv_formatBits))))))]
noncomputable def t_internal_strconv_formatBits_1 (Aa0 : Option Addr) (na0 : Nat) (ca0 : Nat) (a2 : Int) (a3 : Bool) (a4 : Bool) (y12 : Nat) (y14 : Int) (x1 : Int) (x13 : Int) (u : Nat → Value) : List Value := [.slice Aa0 na0 ca0, .int .u64 x1, (u 2), .bool a3, .bool a4, undef, undef, undef, undef, undef, .slice none 0 0, .string (ByteArray.mk #[]), .pointer (some ⟨y12, 0, none⟩), .int .i64 x13, .int .u64 y14, .int .u64 (IntKind.wrap .u64 a2), .int .u64 (IntKind.wrap .u64 ((IntKind.wrap .u64 a2) - 1)), (u 17), (u 18), (u 19), (u 20), (u 21), (u 22), (u 23), (u 24), (u 25), (u 26), (u 27), (u 28), (u 29), (u 30), (u 31), (u 32), (u 33), (u 34), (u 35), (u 36), (u 37), (u 38), (u 39), (u 40), (u 41), (u 42), (u 43), (u 44), (u 45), (u 46), (u 47), (u 48), (u 49), (u 50), (u 51), (u 52), (u 53), (u 54), (u 55), (u 56), (u 57), (u 58), (u 59), (u 60), (u 61), (u 62), (u 63), (u 64), (u 65), (u 66), (u 67), (u 68), (u 69), (u 70), (u 71), (u 72), (u 73), (u 74), (u 75), (u 76), (u 77), (u 78), (u 79), (u 80), (u 81), (u 82), (u 83), (u 84), (u 85), (u 86), (u 87), (u 88), (u 89), (u 90), (u 91), (u 92), (u 93), (u 94), (u 95), (u 96), (u 97), (u 98), (u 99), (u 100), (u 101)]
noncomputable def k_internal_strconv_formatBits_2 : List Item := [.code (bd (bd (sl (sr (ce (sr (sl (sr (sr (sr (sr (sr c_internal_strconv_formatBits)))))))))))), .inLoop (bd (bd (sl (sr (ce (sr (sl (sr (sr (sr (sr (sr c_internal_strconv_formatBits)))))))))))), .inBlock 2, .code (sr (sr (ce (sr (sl (sr (sr (sr (sr (sr c_internal_strconv_formatBits)))))))))), .code (sr (sr (sr (sr (sr (sr c_internal_strconv_formatBits))))))]
noncomputable def t_internal_strconv_formatBits_2 (Aa0 : Option Addr) (na0 : Nat) (ca0 : Nat) (a2 : Int) (a3 : Bool) (a4 : Bool) (y12 : Nat) (x1 : Int) (x13 : Int) (u : Nat → Value) : List Value := [.slice Aa0 na0 ca0, .int .u64 x1, (u 2), .bool a3, .bool a4, undef, undef, undef, undef, undef, .slice none 0 0, .string (ByteArray.mk #[]), .pointer (some ⟨y12, 0, none⟩), .int .i64 x13, (u 14), (u 15), (u 16), .int .u64 (IntKind.wrap .u64 a2), (u 18), (u 19), (u 20), (u 21), (u 22), (u 23), (u 24), (u 25), (u 26), (u 27), (u 28), (u 29), (u 30), (u 31), (u 32), (u 33), (u 34), (u 35), (u 36), (u 37), (u 38), (u 39), (u 40), (u 41), (u 42), (u 43), (u 44), (u 45), (u 46), (u 47), (u 48), (u 49), (u 50), (u 51), (u 52), (u 53), (u 54), (u 55), (u 56), (u 57), (u 58), (u 59), (u 60), (u 61), (u 62), (u 63), (u 64), (u 65), (u 66), (u 67), (u 68), (u 69), (u 70), (u 71), (u 72), (u 73), (u 74), (u 75), (u 76), (u 77), (u 78), (u 79), (u 80), (u 81), (u 82), (u 83), (u 84), (u 85), (u 86), (u 87), (u 88), (u 89), (u 90), (u 91), (u 92), (u 93), (u 94), (u 95), (u 96), (u 97), (u 98), (u 99), (u 100), (u 101)]
set_option maxRecDepth 100000 in
set_option maxHeartbeats 4000000 in
theorem r_internal_strconv_formatBits (Aa0 : Option Addr) (na0 : Nat) (ca0 : Nat) (a1 : Int) (a2 : Int) (a3 : Bool) (a4 : Bool) {I : Ctx} {h : Mem} {Q : Value → Mem → Prop}
  (hh : holds Tryd.prog 59 I (cl_ Q)
   (.ite (decide ((a2 : Int) < 2))
    (.stuck)
    (.ite ((a2 : Int) == 10)
     (.stuck)
     (.ite (decide ((a2 : Int) > 36))
      (.stuck)
      (.sem (Instr.alloc 92 true (.tuple #[])) shBlk fun l1 =>
       (.ite (a3)
        (.call 71 [.int .i64 a2] (.one (.sc (.bool))) fun l2 => -- internal_strconv_isPowerOfTwo
         (.ite ((l2 0).b)
          (.call 72 [.int .u64 (IntKind.wrap .u64 a2)] (.one (.sc (.int .i64))) fun l3 => -- math_bits_TrailingZeros
           (.stop k_internal_strconv_formatBits_1 (t_internal_strconv_formatBits_1 Aa0 na0 ca0 a2 a3 a4 ((l1 0).n) (IntKind.wrap .u64 ((l3 0).i)) (IntKind.wrap .u64 (0 - a1)) 65 (jl [(2, .int .i64 a2), (17, undef), (18, undef), (19, .int .i64 a2), (20, .bool (decide ((a2 : Int) < 2))), (21, .bool false), (22, .int .i64 a2), (23, .bool ((a2 : Int) == 10)), (24, .bool ((a2 : Int) == 10)), (25, .bool false), (26, .int .i64 a2), (27, .bool (decide ((a2 : Int) > 36))), (28, .bool (decide ((a2 : Int) > 36))), (29, undef), (30, .bool a3), (31, .int .u64 a1), (32, .int .u64 (IntKind.wrap .u64 (0 - a1))), (33, .int .i64 a2), (34, .bool ((l2 0).b)), (35, .int .i64 a2), (36, .int .u64 (IntKind.wrap .u64 a2)), (37, .int .i64 ((l3 0).i)), (38, .int .u64 (IntKind.wrap .u64 ((l3 0).i))), (39, .int .i64 a2), (40, .int .u64 (IntKind.wrap .u64 a2)), (41, .int .i64 a2), (42, .int .u64 (IntKind.wrap .u64 a2)), (43, .int .u64 (IntKind.wrap .u64 ((IntKind.wrap .u64 a2) - 1))), (44, undef), (45, undef), (46, undef), (47, undef), (48, undef), (49, undef), (50, undef), (51, undef), (52, undef), (53, undef), (54, undef), (55, undef), (56, undef), (57, undef), (58, undef), (59, undef), (60, undef), (61, undef), (62, undef), (63, undef), (64, undef), (65, undef), (66, undef), (67, undef), (68, undef), (69, undef), (70, undef), (71, undef), (72, undef), (73, undef), (74, undef), (75, undef), (76, undef), (77, undef), (78, undef), (79, undef), (80, undef), (81, undef), (82, undef), (83, undef), (84, undef), (85, undef), (86, undef), (87, undef), (88, undef), (89, undef), (90, undef), (91, undef), (92, undef), (93, undef), (94, undef), (95, undef), (96, undef), (97, undef), (98, undef), (99, undef), (100, undef), (101, undef)]))))
          (.stop k_internal_strconv_formatBits_2 (t_internal_strconv_formatBits_2 Aa0 na0 ca0 a2 a3 a4 ((l1 0).n) (IntKind.wrap .u64 (0 - a1)) 65 (jl [(2, .int .i64 a2), (14, undef), (15, undef), (16, undef), (18, undef), (19, .int .i64 a2), (20, .bool (decide ((a2 : Int) < 2))), (21, .bool false), (22, .int .i64 a2), (23, .bool ((a2 : Int) == 10)), (24, .bool ((a2 : Int) == 10)), (25, .bool false), (26, .int .i64 a2), (27, .bool (decide ((a2 : Int) > 36))), (28, .bool (decide ((a2 : Int) > 36))), (29, undef), (30, .bool a3), (31, .int .u64 a1), (32, .int .u64 (IntKind.wrap .u64 (0 - a1))), (33, .int .i64 a2), (34, .bool ((l2 0).b)), (35, undef), (36, undef), (37, undef), (38, undef), (39, undef), (40, undef), (41, undef), (42, undef), (43, undef), (44, undef), (45, undef), (46, undef), (47, undef), (48, undef), (49, undef), (50, undef), (51, undef), (52, undef), (53, undef), (54, undef), (55, undef), (56, undef), (57, undef), (58, undef), (59, undef), (60, undef), (61, undef), (62, undef), (63, undef), (64, .int .i64 a2), (65, .int .u64 (IntKind.wrap .u64 a2)), (66, undef), (67, undef), (68, undef), (69, undef), (70, undef), (71, undef), (72, undef), (73, undef), (74, undef), (75, undef), (76, undef), (77, undef), (78, undef), (79, undef), (80, undef), (81, undef), (82, undef), (83, undef), (84, undef), (85, undef), (86, undef), (87, undef), (88, undef), (89, undef), (90, undef), (91, undef), (92, undef), (93, undef), (94, undef), (95, undef), (96, undef), (97, undef), (98, undef), (99, undef), (100, undef), (101, undef)])))))
        (.call 71 [.int .i64 a2] (.one (.sc (.bool))) fun l4 => -- internal_strconv_isPowerOfTwo
         (.ite ((l4 0).b)
          (.call 72 [.int .u64 (IntKind.wrap .u64 a2)] (.one (.sc (.int .i64))) fun l5 => -- math_bits_TrailingZeros
           (.stop k_internal_strconv_formatBits_1 (t_internal_strconv_formatBits_1 Aa0 na0 ca0 a2 a3 a4 ((l1 0).n) (IntKind.wrap .u64 ((l5 0).i)) a1 65 (jl [(2, .int .i64 a2), (17, undef), (18, undef), (19, .int .i64 a2), (20, .bool (decide ((a2 : Int) < 2))), (21, .bool false), (22, .int .i64 a2), (23, .bool ((a2 : Int) == 10)), (24, .bool ((a2 : Int) == 10)), (25, .bool false), (26, .int .i64 a2), (27, .bool (decide ((a2 : Int) > 36))), (28, .bool (decide ((a2 : Int) > 36))), (29, undef), (30, .bool a3), (31, undef), (32, undef), (33, .int .i64 a2), (34, .bool ((l4 0).b)), (35, .int .i64 a2), (36, .int .u64 (IntKind.wrap .u64 a2)), (37, .int .i64 ((l5 0).i)), (38, .int .u64 (IntKind.wrap .u64 ((l5 0).i))), (39, .int .i64 a2), (40, .int .u64 (IntKind.wrap .u64 a2)), (41, .int .i64 a2), (42, .int .u64 (IntKind.wrap .u64 a2)), (43, .int .u64 (IntKind.wrap .u64 ((IntKind.wrap .u64 a2) - 1))), (44, undef), (45, undef), (46, undef), (47, undef), (48, undef), (49, undef), (50, undef), (51, undef), (52, undef), (53, undef), (54, undef), (55, undef), (56, undef), (57, undef), (58, undef), (59, undef), (60, undef), (61, undef), (62, undef), (63, undef), (64, undef), (65, undef), (66, undef), (67, undef), (68, undef), (69, undef), (70, undef), (71, undef), (72, undef), (73, undef), (74, undef), (75, undef), (76, undef), (77, undef), (78, undef), (79, undef), (80, undef), (81, undef), (82, undef), (83, undef), (84, undef), (85, undef), (86, undef), (87, undef), (88, undef), (89, undef), (90, undef), (91, undef), (92, undef), (93, undef), (94, undef), (95, undef), (96, undef), (97, undef), (98, undef), (99, undef), (100, undef), (101, undef)]))))
          (.stop k_internal_strconv_formatBits_2 (t_internal_strconv_formatBits_2 Aa0 na0 ca0 a2 a3 a4 ((l1 0).n) a1 65 (jl [(2, .int .i64 a2), (14, undef), (15, undef), (16, undef), (18, undef), (19, .int .i64 a2), (20, .bool (decide ((a2 : Int) < 2))), (21, .bool false), (22, .int .i64 a2), (23, .bool ((a2 : Int) == 10)), (24, .bool ((a2 : Int) == 10)), (25, .bool false), (26, .int .i64 a2), (27, .bool (decide ((a2 : Int) > 36))), (28, .bool (decide ((a2 : Int) > 36))), (29, undef), (30, .bool a3), (31, undef), (32, undef), (33, .int .i64 a2), (34, .bool ((l4 0).b)), (35, undef), (36, undef), (37, undef), (38, undef), (39, undef), (40, undef), (41, undef), (42, undef), (43, undef), (44, undef), (45, undef), (46, undef), (47, undef), (48, undef), (49, undef), (50, undef), (51, undef), (52, undef), (53, undef), (54, undef), (55, undef), (56, undef), (57, undef), (58, undef), (59, undef), (60, undef), (61, undef), (62, undef), (63, undef), (64, .int .i64 a2), (65, .int .u64 (IntKind.wrap .u64 a2)), (66, undef), (67, undef), (68, undef), (69, undef), (70, undef), (71, undef), (72, undef), (73, undef), (74, undef), (75, undef), (76, undef), (77, undef), (78, undef), (79, undef), (80, undef), (81, undef), (82, undef), (83, undef), (84, undef), (85, undef), (86, undef), (87, undef), (88, undef), (89, undef), (90, undef), (91, undef), (92, undef), (93, undef), (94, undef), (95, undef), (96, undef), (97, undef), (98, undef), (99, undef), (100, undef), (101, undef)])))))))))) h) : Fn Tryd.prog 59 #[.slice Aa0 na0 ca0, .int .u64 a1, .int .i64 a2, .bool a3, .bool a4] I h Q :=
  Wp.fn (args := [.slice Aa0 na0 ca0, .int .u64 a1, .int .i64 a2, .bool a3, .bool a4]) Tryd.func59 rfl (by kernel_rfl) (of_tree (cfg := g_internal_strconv_formatBits) 1000 (by kernel_rfl) Tryd.func59 rfl Tryd.checked.mixed hh)
theorem ca_internal_strconv_formatBits : callable Tryd.prog 59 := ⟨_, Tryd.func59, by kernel_rfl, by kernel_rfl⟩
set_option maxRecDepth 100000 in
set_option maxHeartbeats 4000000 in
theorem r_internal_strconv_formatBits_1 (Aa0 : Option Addr) (na0 : Nat) (ca0 : Nat) (a2 : Int) (a3 : Bool) (a4 : Bool) (y12 : Nat) (y14 : Int) (x1 : Int) (x13 : Int) (u : Nat → Value) {I : Ctx} {h : Mem} {Q : Value → Mem → Prop}
  (hh : holds Tryd.prog 59 I Q
   (.ite (decide ((x1 : Int) ≥ (IntKind.wrap .u64 a2)))
    (.rd (Instr.index 9 (.string (ByteArray.mk #[48, 49, 50, 51, 52, 53, 54, 55, 56, 57, 97, 98, 99, 100, 101, 102, 103, 104, 105, 106, 107, 108, 109, 110, 111, 112, 113, 114, 115, 116, 117, 118, 119, 120, 121, 122])) (.int .u64 (bitop .and .u64 x1 (IntKind.wrap .u64 ((IntKind.wrap .u64 a2) - 1))))) (.one (.sc (.int .u8))) fun l6 =>
     (.rd (Instr.indexAt 92 (.pointer (some ⟨y12, 0, none⟩)) (.int .i64 (IntKind.wrap .i64 (x13 - 1)))) (.one (.sc (.padr))) fun l7 =>
      (.unit (Instr.storeAt 5 (.pointer (some ((l7 0).a))) (.int .u8 ((l6 0).i)))
       (.rdn (binN .shr 53 (.int .u64 x1) (.int .u64 y14)) (.one (.sc (.int .u64))) fun l8 =>
        (.stop k_internal_strconv_formatBits_1 (t_internal_strconv_formatBits_1 Aa0 na0 ca0 a2 a3 a4 y12 y14 ((l8 0).i) (IntKind.wrap .i64 (x13 - 1)) (jl [(2, (u 2)), (17, (u 17)), (18, (u 18)), (19, (u 19)), (20, (u 20)), (21, (u 21)), (22, (u 22)), (23, (u 23)), (24, (u 24)), (25, (u 25)), (26, (u 26)), (27, (u 27)), (28, (u 28)), (29, (u 29)), (30, (u 30)), (31, (u 31)), (32, (u 32)), (33, (u 33)), (34, (u 34)), (35, (u 35)), (36, (u 36)), (37, (u 37)), (38, (u 38)), (39, (u 39)), (40, (u 40)), (41, (u 41)), (42, (u 42)), (43, (u 43)), (44, .int .u64 x1), (45, .int .u64 (IntKind.wrap .u64 a2)), (46, .bool (decide ((x1 : Int) ≥ (IntKind.wrap .u64 a2)))), (47, .int .i64 x13), (48, .int .i64 (IntKind.wrap .i64 (x13 - 1))), (49, .int .i64 (IntKind.wrap .i64 (x13 - 1))), (50, .int .u64 x1), (51, .int .u64 (IntKind.wrap .u64 ((IntKind.wrap .u64 a2) - 1))), (52, .int .u64 (bitop .and .u64 x1 (IntKind.wrap .u64 ((IntKind.wrap .u64 a2) - 1)))), (53, .int .u8 ((l6 0).i)), (54, .pointer (some ((l7 0).a))), (55, .int .u64 x1), (56, .int .u64 y14), (57, .int .u64 ((l8 0).i)), (58, (u 58)), (59, (u 59)), (60, (u 60)), (61, (u 61)), (62, (u 62)), (63, (u 63)), (64, (u 64)), (65, (u 65)), (66, (u 66)), (67, (u 67)), (68, (u 68)), (69, (u 69)), (70, (u 70)), (71, (u 71)), (72, (u 72)), (73, (u 73)), (74, (u 74)), (75, (u 75)), (76, (u 76)), (77, (u 77)), (78, (u 78)), (79, (u 79)), (80, (u 80)), (81, (u 81)), (82, (u 82)), (83, (u 83)), (84, (u 84)), (85, (u 85)), (86, (u 86)), (87, (u 87)), (88, (u 88)), (89, (u 89)), (90, (u 90)), (91, (u 91)), (92, (u 92)), (93, (u 93)), (94, (u 94)), (95, (u 95)), (96, (u 96)), (97, (u 97)), (98, (u 98)), (99, (u 99)), (100, (u 100)), (101, (u 101))])))))))
    (.rd (Instr.index 9 (.string (ByteArray.mk #[48, 49, 50, 51, 52, 53, 54, 55, 56, 57, 97, 98, 99, 100, 101, 102, 103, 104, 105, 106, 107, 108, 109, 110, 111, 112, 113, 114, 115, 116, 117, 118, 119, 120, 121, 122])) (.int .u64 x1)) (.one (.sc (.int .u8))) fun l9 =>
     (.rd (Instr.indexAt 92 (.pointer (some ⟨y12, 0, none⟩)) (.int .i64 (IntKind.wrap .i64 (x13 - 1)))) (.one (.sc (.padr))) fun l10 =>
      (.unit (Instr.storeAt 5 (.pointer (some ((l10 0).a))) (.int .u8 ((l9 0).i)))
       (.ite (a3)
        (.rd (Instr.indexAt 92 (.pointer (some ⟨y12, 0, none⟩)) (.int .i64 (IntKind.wrap .i64 ((IntKind.wrap .i64 (x13 - 1)) - 1)))) (.one (.sc (.padr))) fun l11 =>
         (.unit (Instr.storeAt 5 (.pointer (some ((l11 0).a))) (.int .u8 45))
          (.ite (a4)
           (.rd (Instr.sliceAt 92 (.pointer (some ⟨y12, 0, none⟩)) (some (.int .i64 (IntKind.wrap .i64 ((IntKind.wrap .i64 (x13 - 1)) - 1)))) none none) (.one (.sc (.sl))) fun l12 =>
            (.nx (builtin .append #[59, 59] 59 #[false, false] #[.slice Aa0 na0 ca0, .slice ((l12 0).A) ((l12 0).n) ((l12 0).c)]) (.one (.sc (.sl))) fun l13 =>
             (.done (.tuple #[.slice ((l13 0).A) ((l13 0).n) ((l13 0).c), .string (ByteArray.mk #[])]))))
           (.rd (Instr.sliceAt 92 (.pointer (some ⟨y12, 0, none⟩)) (some (.int .i64 (IntKind.wrap .i64 ((IntKind.wrap .i64 (x13 - 1)) - 1)))) none none) (.one (.sc (.sl))) fun l14 =>
            (.rdn (convN 59 9 (.slice ((l14 0).A) ((l14 0).n) ((l14 0).c))) (.one (.sc (.str))) fun l15 =>
             (.done (.tuple #[.slice none 0 0, .string ((l15 0).s)])))))))
        (.ite (a4)
         (.rd (Instr.sliceAt 92 (.pointer (some ⟨y12, 0, none⟩)) (some (.int .i64 (IntKind.wrap .i64 (x13 - 1)))) none none) (.one (.sc (.sl))) fun l16 =>
          (.nx (builtin .append #[59, 59] 59 #[false, false] #[.slice Aa0 na0 ca0, .slice ((l16 0).A) ((l16 0).n) ((l16 0).c)]) (.one (.sc (.sl))) fun l17 =>
           (.done (.tuple #[.slice ((l17 0).A) ((l17 0).n) ((l17 0).c), .string (ByteArray.mk #[])]))))
         (.rd (Instr.sliceAt 92 (.pointer (some ⟨y12, 0, none⟩)) (some (.int .i64 (IntKind.wrap .i64 (x13 - 1)))) none none) (.one (.sc (.sl))) fun l18 =>
          (.rdn (convN 59 9 (.slice ((l18 0).A) ((l18 0).n) ((l18 0).c))) (.one (.sc (.str))) fun l19 =>
           (.done (.tuple #[.slice none 0 0, .string ((l19 0).s)])))))))))) h) : Wp Tryd.prog 59 k_internal_strconv_formatBits_1 (t_internal_strconv_formatBits_1 Aa0 na0 ca0 a2 a3 a4 y12 y14 x1 x13 u) I h Q :=
  of_tree (cfg := g_internal_strconv_formatBits) 1000 (by kernel_rfl) Tryd.func59 rfl Tryd.checked.mixed hh
set_option maxRecDepth 100000 in
set_option maxHeartbeats 4000000 in
theorem r_internal_strconv_formatBits_2 (Aa0 : Option Addr) (na0 : Nat) (ca0 : Nat) (a2 : Int) (a3 : Bool) (a4 : Bool) (y12 : Nat) (x1 : Int) (x13 : Int) (u : Nat → Value) {I : Ctx} {h : Mem} {Q : Value → Mem → Prop}
  (hh : holds Tryd.prog 59 I Q
   (.ite (decide ((x1 : Int) ≥ (IntKind.wrap .u64 a2)))
    (.rdn (binN .quo 53 (.int .u64 x1) (.int .u64 (IntKind.wrap .u64 a2))) (.one (.sc (.int .u64))) fun l20 =>
     (.rd (Instr.index 9 (.string (ByteArray.mk #[48, 49, 50, 51, 52, 53, 54, 55, 56, 57, 97, 98, 99, 100, 101, 102, 103, 104, 105, 106, 107, 108, 109, 110, 111, 112, 113, 114, 115, 116, 117, 118, 119, 120, 121, 122])) (.int .u64 (IntKind.wrap .u64 (x1 - (IntKind.wrap .u64 (((l20 0).i) * (IntKind.wrap .u64 a2))))))) (.one (.sc (.int .u8))) fun l21 =>
      (.rd (Instr.indexAt 92 (.pointer (some ⟨y12, 0, none⟩)) (.int .i64 (IntKind.wrap .i64 (x13 - 1)))) (.one (.sc (.padr))) fun l22 =>
       (.unit (Instr.storeAt 5 (.pointer (some ((l22 0).a))) (.int .u8 ((l21 0).i)))
        (.stop k_internal_strconv_formatBits_2 (t_internal_strconv_formatBits_2 Aa0 na0 ca0 a2 a3 a4 y12 ((l20 0).i) (IntKind.wrap .i64 (x13 - 1)) (jl [(2, (u 2)), (14, (u 14)), (15, (u 15)), (16, (u 16)), (18, .int .u64 ((l20 0).i)), (19, (u 19)), (20, (u 20)), (21, (u 21)), (22, (u 22)), (23, (u 23)), (24, (u 24)), (25, (u 25)), (26, (u 26)), (27, (u 27)), (28, (u 28)), (29, (u 29)), (30, (u 30)), (31, (u 31)), (32, (u 32)), (33, (u 33)), (34, (u 34)), (35, (u 35)), (36, (u 36)), (37, (u 37)), (38, (u 38)), (39, (u 39)), (40, (u 40)), (41, (u 41)), (42, (u 42)), (43, (u 43)), (44, (u 44)), (45, (u 45)), (46, (u 46)), (47, (u 47)), (48, (u 48)), (49, (u 49)), (50, (u 50)), (51, (u 51)), (52, (u 52)), (53, (u 53)), (54, (u 54)), (55, (u 55)), (56, (u 56)), (57, (u 57)), (58, (u 58)), (59, (u 59)), (60, (u 60)), (61, (u 61)), (62, (u 62)), (63, (u 63)), (64, (u 64)), (65, (u 65)), (66, .int .u64 x1), (67, .int .u64 (IntKind.wrap .u64 a2)), (68, .bool (decide ((x1 : Int) ≥ (IntKind.wrap .u64 a2)))), (69, .int .i64 x13), (70, .int .i64 (IntKind.wrap .i64 (x13 - 1))), (71, .int .u64 x1), (72, .int .u64 (IntKind.wrap .u64 a2)), (73, .int .u64 ((l20 0).i)), (74, .int .i64 (IntKind.wrap .i64 (x13 - 1))), (75, .int .u64 x1), (76, .int .u64 ((l20 0).i)), (77, .int .u64 (IntKind.wrap .u64 a2)), (78, .int .u64 (IntKind.wrap .u64 (((l20 0).i) * (IntKind.wrap .u64 a2)))), (79, .int .u64 (IntKind.wrap .u64 (x1 - (IntKind.wrap .u64 (((l20 0).i) * (IntKind.wrap .u64 a2)))))), (80, .int .u8 ((l21 0).i)), (81, .pointer (some ((l22 0).a))), (82, .int .u64 ((l20 0).i)), (83, (u 83)), (84, (u 84)), (85, (u 85)), (86, (u 86)), (87, (u 87)), (88, (u 88)), (89, (u 89)), (90, (u 90)), (91, (u 91)), (92, (u 92)), (93, (u 93)), (94, (u 94)), (95, (u 95)), (96, (u 96)), (97, (u 97)), (98, (u 98)), (99, (u 99)), (100, (u 100)), (101, (u 101))])))))))
    (.rd (Instr.index 9 (.string (ByteArray.mk #[48, 49, 50, 51, 52, 53, 54, 55, 56, 57, 97, 98, 99, 100, 101, 102, 103, 104, 105, 106, 107, 108, 109, 110, 111, 112, 113, 114, 115, 116, 117, 118, 119, 120, 121, 122])) (.int .u64 x1)) (.one (.sc (.int .u8))) fun l23 =>
     (.rd (Instr.indexAt 92 (.pointer (some ⟨y12, 0, none⟩)) (.int .i64 (IntKind.wrap .i64 (x13 - 1)))) (.one (.sc (.padr))) fun l24 =>
      (.unit (Instr.storeAt 5 (.pointer (some ((l24 0).a))) (.int .u8 ((l23 0).i)))
       (.ite (a3)
        (.rd (Instr.indexAt 92 (.pointer (some ⟨y12, 0, none⟩)) (.int .i64 (IntKind.wrap .i64 ((IntKind.wrap .i64 (x13 - 1)) - 1)))) (.one (.sc (.padr))) fun l25 =>
         (.unit (Instr.storeAt 5 (.pointer (some ((l25 0).a))) (.int .u8 45))
          (.ite (a4)
           (.rd (Instr.sliceAt 92 (.pointer (some ⟨y12, 0, none⟩)) (some (.int .i64 (IntKind.wrap .i64 ((IntKind.wrap .i64 (x13 - 1)) - 1)))) none none) (.one (.sc (.sl))) fun l26 =>
            (.nx (builtin .append #[59, 59] 59 #[false, false] #[.slice Aa0 na0 ca0, .slice ((l26 0).A) ((l26 0).n) ((l26 0).c)]) (.one (.sc (.sl))) fun l27 =>
             (.done (.tuple #[.slice ((l27 0).A) ((l27 0).n) ((l27 0).c), .string (ByteArray.mk #[])]))))
           (.rd (Instr.sliceAt 92 (.pointer (some ⟨y12, 0, none⟩)) (some (.int .i64 (IntKind.wrap .i64 ((IntKind.wrap .i64 (x13 - 1)) - 1)))) none none) (.one (.sc (.sl))) fun l28 =>
            (.rdn (convN 59 9 (.slice ((l28 0).A) ((l28 0).n) ((l28 0).c))) (.one (.sc (.str))) fun l29 =>
             (.done (.tuple #[.slice none 0 0, .string ((l29 0).s)])))))))
        (.ite (a4)
         (.rd (Instr.sliceAt 92 (.pointer (some ⟨y12, 0, none⟩)) (some (.int .i64 (IntKind.wrap .i64 (x13 - 1)))) none none) (.one (.sc (.sl))) fun l30 =>
          (.nx (builtin .append #[59, 59] 59 #[false, false] #[.slice Aa0 na0 ca0, .slice ((l30 0).A) ((l30 0).n) ((l30 0).c)]) (.one (.sc (.sl))) fun l31 =>
           (.done (.tuple #[.slice ((l31 0).A) ((l31 0).n) ((l31 0).c), .string (ByteArray.mk #[])]))))
         (.rd (Instr.sliceAt 92 (.pointer (some ⟨y12, 0, none⟩)) (some (.int .i64 (IntKind.wrap .i64 (x13 - 1)))) none none) (.one (.sc (.sl))) fun l32 =>
          (.rdn (convN 59 9 (.slice ((l32 0).A) ((l32 0).n) ((l32 0).c))) (.one (.sc (.str))) fun l33 =>
           (.done (.tuple #[.slice none 0 0, .string ((l33 0).s)])))))))))) h) : Wp Tryd.prog 59 k_internal_strconv_formatBits_2 (t_internal_strconv_formatBits_2 Aa0 na0 ca0 a2 a3 a4 y12 x1 x13 u) I h Q :=
  of_tree (cfg := g_internal_strconv_formatBits) 1000 (by kernel_rfl) Tryd.func59 rfl Tryd.checked.mixed hh
/-! ### internal_stringslite_IndexByte: function 62 of Go -/
abbrev F_internal_stringslite_IndexByte : FuncId := 62
noncomputable def c_internal_stringslite_IndexByte : Code := (Tryd.f62.body).getD .skip
noncomputable def g_internal_stringslite_IndexByte : Cfg := { sh := shs, fsh := fshs, results := [.tmp 4], hint := fun r i => match r, i with | 1, 2 => some (false, .one (.sc (.int .i64))) | _, _ => none, ord := fun _ => none, pre := fun _ => [], un := fun _ _ _ => false }
set_option maxRecDepth 100000 in
set_option maxHeartbeats 4000000 in
theorem r_internal_stringslite_IndexByte (a0 : ByteArray) (a1 : Int) {I : Ctx} {h : Mem} {Q : Value → Mem → Prop}
  (hh : holds Tryd.prog 62 I (cl_ Q)
   (.nx (callFunc 73 #[.string a0, .int .u8 a1]) (.one (.sc (.int .i64))) fun l1 =>
    (.done (.int .i64 ((l1 0).i)))) h) : Fn Tryd.prog 62 #[.string a0, .int .u8 a1] I h Q :=
  Wp.fn (args := [.string a0, .int .u8 a1]) Tryd.func62 rfl (by kernel_rfl) (of_tree (cfg := g_internal_stringslite_IndexByte) 1000 (by kernel_rfl) Tryd.func62 rfl Tryd.checked.mixed hh)
theorem ca_internal_stringslite_IndexByte : callable Tryd.prog 62 := ⟨_, Tryd.func62, by kernel_rfl, by kernel_rfl⟩
/-! ### internal_bytealg_Cutover: function 64 of Go -/
abbrev F_internal_bytealg_Cutover : FuncId := 64
noncomputable def c_internal_bytealg_Cutover : Code := (Tryd.f64.body).getD .skip
noncomputable def g_internal_bytealg_Cutover : Cfg := { sh := shs, fsh := fshs, results := [.tmp 2], hint := fun _ _ => none, ord := fun _ => none, pre := fun _ => [], un := fun _ _ _ => false }
set_option maxRecDepth 100000 in
set_option maxHeartbeats 4000000 in
theorem r_internal_bytealg_Cutover (a0 : Int) {I : Ctx} {h : Mem} {Q : Value → Mem → Prop}
  (hh : holds Tryd.prog 64 I (cl_ Q)
   (.done (.int .i64 (IntKind.wrap .i64 (Int.tdiv (IntKind.wrap .i64 (a0 + 16)) 8)))) h) : Fn Tryd.prog 64 #[.int .i64 a0] I h Q :=
  Wp.fn (args := [.int .i64 a0]) Tryd.func64 rfl (by kernel_rfl) (of_tree (cfg := g_internal_bytealg_Cutover) 1000 (by kernel_rfl) Tryd.func64 rfl Tryd.checked.mixed hh)
theorem ca_internal_bytealg_Cutover : callable Tryd.prog 64 := ⟨_, Tryd.func64, by kernel_rfl, by kernel_rfl⟩
/-! ### internal_bytealg_IndexRabinKarp_string: function 65 of Go -/
abbrev F_internal_bytealg_IndexRabinKarp_string : FuncId := 65
noncomputable def c_internal_bytealg_IndexRabinKarp_string : Code := (Tryd.f65.body).getD .skip
noncomputable def g_internal_bytealg_IndexRabinKarp_string : Cfg := { sh := shs, fsh := fshs, results := [.tmp 4], hint := fun _ _ => none, ord := fun _ => none, pre := fun _ => [], un := fun _ _ _ => false }
noncomputable def k_internal_bytealg_IndexRabinKarp_string_1 : List Item := [.code (bd (bd (sr (sl (sr (sr (sr (sr c_internal_bytealg_IndexRabinKarp_string)))))))), .inLoop (bd (bd (sr (sl (sr (sr (sr (sr c_internal_bytealg_IndexRabinKarp_string)))))))), .inBlock 0, .code (sr (sr (sr (sr (sr c_internal_bytealg_IndexRabinKarp_string)))))]
noncomputable def t_internal_bytealg_IndexRabinKarp_string_1 (a0 : ByteArray) (a1 : ByteArray) (y5 : Int) (y6 : Int) (x8 : Int) (x9 : Int) (u : Nat → Value) : List Value := [.string a0, .string a1, undef, undef, (u 4), .int .u32 y5, .int .u32 y6, .int .i64 ((a1.size : Nat) : Int), .int .u32 x8, .int .i64 x9, (u 10), (u 11), (u 12), (u 13), (u 14), (u 15), (u 16), (u 17), (u 18), (u 19), (u 20), (u 21), (u 22), (u 23), (u 24), (u 25), (u 26), (u 27), (u 28), (u 29), (u 30), (u 31), (u 32), (u 33), (u 34), (u 35), (u 36), (u 37), (u 38), (u 39), (u 40), (u 41), (u 42), (u 43), (u 44), (u 45), (u 46), (u 47), (u 48), (u 49), (u 50), (u 51), (u 52), (u 53), (u 54), (u 55), (u 56), (u 57), (u 58), (u 59), (u 60), (u 61), (u 62), (u 63), (u 64), (u 65), (u 66), (u 67), (u 68), (u 69), (u 70), (u 71), (u 72), (u 73), (u 74), (u 75), (u 76), (u 77), (u 78), (u 79), (u 80)]
noncomputable def k_internal_bytealg_IndexRabinKarp_string_2 : List Item := [.code (bd (bd (sr (sl (sr (sr (sr (sr (sr (sr c_internal_bytealg_IndexRabinKarp_string)))))))))), .inLoop (bd (bd (sr (sl (sr (sr (sr (sr (sr (sr c_internal_bytealg_IndexRabinKarp_string)))))))))), .inBlock 2, .code (sr (sr (sr (sr (sr (sr (sr c_internal_bytealg_IndexRabinKarp_string)))))))]
noncomputable def t_internal_bytealg_IndexRabinKarp_string_2 (a0 : ByteArray) (a1 : ByteArray) (y5 : Int) (y6 : Int) (x8 : Int) (x10 : Int) (u : Nat → Value) : List Value := [.string a0, .string a1, undef, undef, (u 4), .int .u32 y5, .int .u32 y6, .int .i64 ((a1.size : Nat) : Int), .int .u32 x8, (u 9), .int .i64 x10, (u 11), (u 12), (u 13), (u 14), (u 15), (u 16), (u 17), (u 18), (u 19), (u 20), (u 21), (u 22), (u 23), (u 24), (u 25), (u 26), (u 27), (u 28), (u 29), (u 30), (u 31), (u 32), (u 33), (u 34), (u 35), (u 36), (u 37), (u 38), (u 39), (u 40), (u 41), (u 42), (u 43), (u 44), (u 45), (u 46), (u 47), (u 48), (u 49), (u 50), (u 51), (u 52), (u 53), (u 54), (u 55), (u 56), (u 57), (u 58), (u 59), (u 60), (u 61), (u 62), (u 63), (u 64), (u 65), (u 66), (u 67), (u 68), (u 69), (u 70), (u 71), (u 72), (u 73), (u 74), (u 75), (u 76), (u 77), (u 78), (u 79), (u 80)]
set_option maxRecDepth 100000 in
set_option maxHeartbeats 4000000 in
theorem r_internal_bytealg_IndexRabinKarp_string (a0 : ByteArray) (a1 : ByteArray) {I : Ctx} {h : Mem} {Q : Value → Mem → Prop}
  (hh : holds Tryd.prog 65 I (cl_ Q)
   (.call 74 [.string a1] (.tup [(.sc (.int .u32)), (.sc (.int .u32))]) fun l1 => -- internal_bytealg_hashStr_string
    (.stop k_internal_bytealg_IndexRabinKarp_string_1 (t_internal_bytealg_IndexRabinKarp_string_1 a0 a1 ((l1 0).i) ((l1 1).i) 0 0 (jl [(4, .int .i64 0), (10, undef), (11, .tuple #[.int .u32 ((l1 0).i), .int .u32 ((l1 1).i)]), (12, .string a1), (13, .tuple #[.int .u32 ((l1 0).i), .int .u32 ((l1 1).i)]), (14, .int .u32 ((l1 0).i)), (15, .int .u32 ((l1 1).i)), (16, .string a1), (17, .int .i64 ((a1.size : Nat) : Int)), (18, undef), (19, undef), (20, undef), (21, undef), (22, undef), (23, undef), (24, undef), (25, undef), (26, undef), (27, undef), (28, undef), (29, undef), (30, undef), (31, undef), (32, undef), (33, undef), (34, undef), (35, undef), (36, undef), (37, undef), (38, undef), (39, undef), (40, undef), (41, undef), (42, undef), (43, undef), (44, undef), (45, undef), (46, undef), (47, undef), (48, undef), (49, undef), (50, undef), (51, undef), (52, undef), (53, undef), (54, undef), (55, undef), (56, undef), (57, undef), (58, undef), (59, undef), (60, undef), (61, undef), (62, undef), (63, undef), (64, undef), (65, undef), (66, undef), (67, undef), (68, undef), (69, undef), (70, undef), (71, undef), (72, undef), (73, undef), (74, undef), (75, undef), (76, undef), (77, undef), (78, undef), (79, undef), (80, undef)])))) h) : Fn Tryd.prog 65 #[.string a0, .string a1] I h Q :=
  Wp.fn (args := [.string a0, .string a1]) Tryd.func65 rfl (by kernel_rfl) (of_tree (cfg := g_internal_bytealg_IndexRabinKarp_string) 1000 (by kernel_rfl) Tryd.func65 rfl Tryd.checked.mixed hh)
theorem ca_internal_bytealg_IndexRabinKarp_string : callable Tryd.prog 65 := ⟨_, Tryd.func65, by kernel_rfl, by kernel_rfl⟩
set_option maxRecDepth 100000 in
set_option maxHeartbeats 4000000 in
theorem r_internal_bytealg_IndexRabinKarp_string_1 (a0 : ByteArray) (a1 : ByteArray) (y5 : Int) (y6 : Int) (x8 : Int) (x9 : Int) (u : Nat → Value) {I : Ctx} {h : Mem} {Q : Value → Mem → Prop}
  (hh : holds Tryd.prog 65 I Q
   (.ite (decide ((x9 : Int) < ((a1.size : Nat) : Int)))
    (.rd (Instr.index 9 (.string a0) (.int .i64 x9)) (.one (.sc (.int .u8))) fun l2 =>
     (.stop k_internal_bytealg_IndexRabinKarp_string_1 (t_internal_bytealg_IndexRabinKarp_string_1 a0 a1 y5 y6 (IntKind.wrap .u32 ((IntKind.wrap .u32 (x8 * 16777619)) + (IntKind.wrap .u32 ((l2 0).i)))) (IntKind.wrap .i64 (x9 + 1)) (jl [(4, (u 4)), (10, (u 10)), (11, (u 11)), (12, (u 12)), (13, (u 13)), (14, (u 14)), (15, (u 15)), (16, (u 16)), (17, (u 17)), (18, .int .i64 x9), (19, .int .i64 ((a1.size : Nat) : Int)), (20, .bool (decide ((x9 : Int) < ((a1.size : Nat) : Int)))), (21, .int .i64 x9), (22, .int .i64 (IntKind.wrap .i64 (x9 + 1))), (23, .int .u32 x8), (24, .int .u32 (IntKind.wrap .u32 (x8 * 16777619))), (25, .string a0), (26, .int .i64 x9), (27, .int .u8 ((l2 0).i)), (28, .int .u32 (IntKind.wrap .u32 ((l2 0).i))), (29, .int .u32 (IntKind.wrap .u32 ((IntKind.wrap .u32 (x8 * 16777619)) + (IntKind.wrap .u32 ((l2 0).i))))), (30, (u 30)), (31, (u 31)), (32, (u 32)), (33, (u 33)), (34, (u 34)), (35, (u 35)), (36, (u 36)), (37, (u 37)), (38, (u 38)), (39, (u 39)), (40, (u 40)), (41, (u 41)), (42, (u 42)), (43, (u 43)), (44, (u 44)), (45, (u 45)), (46, (u 46)), (47, (u 47)), (48, (u 48)), (49, (u 49)), (50, (u 50)), (51, (u 51)), (52, (u 52)), (53, (u 53)), (54, (u 54)), (55, (u 55)), (56, (u 56)), (57, (u 57)), (58, (u 58)), (59, (u 59)), (60, (u 60)), (61, (u 61)), (62, (u 62)), (63, (u 63)), (64, (u 64)), (65, (u 65)), (66, (u 66)), (67, (u 67)), (68, (u 68)), (69, (u 69)), (70, (u 70)), (71, (u 71)), (72, (u 72)), (73, (u 73)), (74, (u 74)), (75, (u 75)), (76, (u 76)), (77, (u 77)), (78, (u 78)), (79, (u 79)), (80, (u 80))]))))
    (.ite ((x8 : Int) == y5)
     (.rd (Instr.sliceAt 9 (.string a0) none (some (.int .i64 ((a1.size : Nat) : Int))) none) (.one (.sc (.str))) fun l3 =>
      (.ite (((l3 0).s).toList == a1.toList)
       (.done (.int .i64 0))
       (.stop k_internal_bytealg_IndexRabinKarp_string_2 (t_internal_bytealg_IndexRabinKarp_string_2 a0 a1 y5 y6 x8 ((a1.size : Nat) : Int) (jl [(4, (u 4)), (9, .int .i64 x9), (11, (u 11)), (12, (u 12)), (13, (u 13)), (14, (u 14)), (15, (u 15)), (16, (u 16)), (17, (u 17)), (18, .int .i64 x9), (19, .int .i64 ((a1.size : Nat) : Int)), (20, .bool (decide ((x9 : Int) < ((a1.size : Nat) : Int)))), (21, (u 21)), (22, (u 22)), (23, (u 23)), (24, (u 24)), (25, (u 25)), (26, (u 26)), (27, (u 27)), (28, (u 28)), (29, (u 29)), (30, .int .u32 x8), (31, .int .u32 y5), (32, .bool ((x8 : Int) == y5)), (33, .bool true), (34, .string a0), (35, .int .i64 ((a1.size : Nat) : Int)), (36, .string ((l3 0).s)), (37, .string a1), (38, .bool (((l3 0).s).toList == a1.toList)), (39, .bool (((l3 0).s).toList == a1.toList)), (40, .int .i64 ((a1.size : Nat) : Int)), (41, (u 41)), (42, (u 42)), (43, (u 43)), (44, (u 44)), (45, (u 45)), (46, (u 46)), (47, (u 47)), (48, (u 48)), (49, (u 49)), (50, (u 50)), (51, (u 51)), (52, (u 52)), (53, (u 53)), (54, (u 54)), (55, (u 55)), (56, (u 56)), (57, (u 57)), (58, (u 58)), (59, (u 59)), (60, (u 60)), (61, (u 61)), (62, (u 62)), (63, (u 63)), (64, (u 64)), (65, (u 65)), (66, (u 66)), (67, (u 67)), (68, (u 68)), (69, (u 69)), (70, (u 70)), (71, (u 71)), (72, (u 72)), (73, (u 73)), (74, (u 74)), (75, (u 75)), (76, (u 76)), (77, (u 77)), (78, (u 78)), (79, (u 79)), (80, (u 80))])))))
     (.stop k_internal_bytealg_IndexRabinKarp_string_2 (t_internal_bytealg_IndexRabinKarp_string_2 a0 a1 y5 y6 x8 ((a1.size : Nat) : Int) (jl [(4, (u 4)), (9, .int .i64 x9), (11, (u 11)), (12, (u 12)), (13, (u 13)), (14, (u 14)), (15, (u 15)), (16, (u 16)), (17, (u 17)), (18, .int .i64 x9), (19, .int .i64 ((a1.size : Nat) : Int)), (20, .bool (decide ((x9 : Int) < ((a1.size : Nat) : Int)))), (21, (u 21)), (22, (u 22)), (23, (u 23)), (24, (u 24)), (25, (u 25)), (26, (u 26)), (27, (u 27)), (28, (u 28)), (29, (u 29)), (30, .int .u32 x8), (31, .int .u32 y5), (32, .bool ((x8 : Int) == y5)), (33, .bool false), (34, undef), (35, undef), (36, undef), (37, undef), (38, undef), (39, .bool false), (40, .int .i64 ((a1.size : Nat) : Int)), (41, (u 41)), (42, (u 42)), (43, (u 43)), (44, (u 44)), (45, (u 45)), (46, (u 46)), (47, (u 47)), (48, (u 48)), (49, (u 49)), (50, (u 50)), (51, (u 51)), (52, (u 52)), (53, (u 53)), (54, (u 54)), (55, (u 55)), (56, (u 56)), (57, (u 57)), (58, (u 58)), (59, (u 59)), (60, (u 60)), (61, (u 61)), (62, (u 62)), (63, (u 63)), (64, (u 64)), (65, (u 65)), (66, (u 66)), (67, (u 67)), (68, (u 68)), (69, (u 69)), (70, (u 70)), (71, (u 71)), (72, (u 72)), (73, (u 73)), (74, (u 74)), (75, (u 75)), (76, (u 76)), (77, (u 77)), (78, (u 78)), (79, (u 79)), (80, (u 80))]))))) h) : Wp Tryd.prog 65 k_internal_bytealg_IndexRabinKarp_string_1 (t_internal_bytealg_IndexRabinKarp_string_1 a0 a1 y5 y6 x8 x9 u) I h Q :=
  of_tree (cfg := g_internal_bytealg_IndexRabinKarp_string) 1000 (by kernel_rfl) Tryd.func65 rfl Tryd.checked.mixed hh
set_option maxRecDepth 100000 in
set_option maxHeartbeats 4000000 in
theorem r_internal_bytealg_IndexRabinKarp_string_2 (a0 : ByteArray) (a1 : ByteArray) (y5 : Int) (y6 : Int) (x8 : Int) (x10 : Int) (u : Nat → Value) {I : Ctx} {h : Mem} {Q : Value → Mem → Prop}
  (hh : holds Tryd.prog 65 I Q
   (.ite (decide ((x10 : Int) < ((a0.size : Nat) : Int)))
    (.rd (Instr.index 9 (.string a0) (.int .i64 x10)) (.one (.sc (.int .u8))) fun l4 =>
     (.rd (Instr.index 9 (.string a0) (.int .i64 (IntKind.wrap .i64 (x10 - ((a1.size : Nat) : Int))))) (.one (.sc (.int .u8))) fun l5 =>
      (.ite ((IntKind.wrap .u32 ((IntKind.wrap .u32 ((IntKind.wrap .u32 (x8 * 16777619)) + (IntKind.wrap .u32 ((l4 0).i)))) - (IntKind.wrap .u32 (y6 * (IntKind.wrap .u32 ((l5 0).i))))) : Int) == y5)
       (.rd (Instr.sliceAt 9 (.string a0) (some (.int .i64 (IntKind.wrap .i64 ((IntKind.wrap .i64 (x10 + 1)) - ((a1.size : Nat) : Int))))) (some (.int .i64 (IntKind.wrap .i64 (x10 + 1)))) none) (.one (.sc (.str))) fun l6 =>
        (.ite (((l6 0).s).toList == a1.toList)
         (.done (.int .i64 (IntKind.wrap .i64 ((IntKind.wrap .i64 (x10 + 1)) - ((a1.size : Nat) : Int)))))
         (.stop k_internal_bytealg_IndexRabinKarp_string_2 (t_internal_bytealg_IndexRabinKarp_string_2 a0 a1 y5 y6 (IntKind.wrap .u32 ((IntKind.wrap .u32 ((IntKind.wrap .u32 (x8 * 16777619)) + (IntKind.wrap .u32 ((l4 0).i)))) - (IntKind.wrap .u32 (y6 * (IntKind.wrap .u32 ((l5 0).i)))))) (IntKind.wrap .i64 (x10 + 1)) (jl [(4, (u 4)), (9, (u 9)), (11, (u 11)), (12, (u 12)), (13, (u 13)), (14, (u 14)), (15, (u 15)), (16, (u 16)), (17, (u 17)), (18, (u 18)), (19, (u 19)), (20, (u 20)), (21, (u 21)), (22, (u 22)), (23, (u 23)), (24, (u 24)), (25, (u 25)), (26, (u 26)), (27, (u 27)), (28, (u 28)), (29, (u 29)), (30, (u 30)), (31, (u 31)), (32, (u 32)), (33, (u 33)), (34, (u 34)), (35, (u 35)), (36, (u 36)), (37, (u 37)), (38, (u 38)), (39, (u 39)), (40, (u 40)), (41, .int .i64 x10), (42, .string a0), (43, .int .i64 ((a0.size : Nat) : Int)), (44, .bool (decide ((x10 : Int) < ((a0.size : Nat) : Int)))), (45, .int .u32 x8), (46, .int .u32 (IntKind.wrap .u32 (x8 * 16777619))), (47, .int .u32 (IntKind.wrap .u32 (x8 * 16777619))), (48, .string a0), (49, .int .i64 x10), (50, .int .u8 ((l4 0).i)), (51, .int .u32 (IntKind.wrap .u32 ((l4 0).i))), (52, .int .u32 (IntKind.wrap .u32 ((IntKind.wrap .u32 (x8 * 16777619)) + (IntKind.wrap .u32 ((l4 0).i))))), (53, .int .u32 (IntKind.wrap .u32 ((IntKind.wrap .u32 (x8 * 16777619)) + (IntKind.wrap .u32 ((l4 0).i))))), (54, .int .u32 y6), (55, .string a0), (56, .int .i64 x10), (57, .int .i64 ((a1.size : Nat) : Int)), (58, .int .i64 (IntKind.wrap .i64 (x10 - ((a1.size : Nat) : Int)))), (59, .int .u8 ((l5 0).i)), (60, .int .u32 (IntKind.wrap .u32 ((l5 0).i))), (61, .int .u32 (IntKind.wrap .u32 (y6 * (IntKind.wrap .u32 ((l5 0).i))))), (62, .int .u32 (IntKind.wrap .u32 ((IntKind.wrap .u32 ((IntKind.wrap .u32 (x8 * 16777619)) + (IntKind.wrap .u32 ((l4 0).i)))) - (IntKind.wrap .u32 (y6 * (IntKind.wrap .u32 ((l5 0).i))))))), (63, .int .i64 x10), (64, .int .i64 (IntKind.wrap .i64 (x10 + 1))), (65, .int .u32 (IntKind.wrap .u32 ((IntKind.wrap .u32 ((IntKind.wrap .u32 (x8 * 16777619)) + (IntKind.wrap .u32 ((l4 0).i)))) - (IntKind.wrap .u32 (y6 * (IntKind.wrap .u32 ((l5 0).i))))))), (66, .int .u32 y5), (67, .bool ((IntKind.wrap .u32 ((IntKind.wrap .u32 ((IntKind.wrap .u32 (x8 * 16777619)) + (IntKind.wrap .u32 ((l4 0).i)))) - (IntKind.wrap .u32 (y6 * (IntKind.wrap .u32 ((l5 0).i))))) : Int) == y5)), (68, .bool true), (69, .string a0), (70, .int .i64 (IntKind.wrap .i64 (x10 + 1))), (71, .int .i64 ((a1.size : Nat) : Int)), (72, .int .i64 (IntKind.wrap .i64 ((IntKind.wrap .i64 (x10 + 1)) - ((a1.size : Nat) : Int)))), (73, .int .i64 (IntKind.wrap .i64 (x10 + 1))), (74, .string ((l6 0).s)), (75, .string a1), (76, .bool (((l6 0).s).toList == a1.toList)), (77, .bool (((l6 0).s).toList == a1.toList)), (78, (u 78)), (79, (u 79)), (80, (u 80))])))))
       (.stop k_internal_bytealg_IndexRabinKarp_string_2 (t_internal_bytealg_IndexRabinKarp_string_2 a0 a1 y5 y6 (IntKind.wrap .u32 ((IntKind.wrap .u32 ((IntKind.wrap .u32 (x8 * 16777619)) + (IntKind.wrap .u32 ((l4 0).i)))) - (IntKind.wrap .u32 (y6 * (IntKind.wrap .u32 ((l5 0).i)))))) (IntKind.wrap .i64 (x10 + 1)) (jl [(4, (u 4)), (9, (u 9)), (11, (u 11)), (12, (u 12)), (13, (u 13)), (14, (u 14)), (15, (u 15)), (16, (u 16)), (17, (u 17)), (18, (u 18)), (19, (u 19)), (20, (u 20)), (21, (u 21)), (22, (u 22)), (23, (u 23)), (24, (u 24)), (25, (u 25)), (26, (u 26)), (27, (u 27)), (28, (u 28)), (29, (u 29)), (30, (u 30)), (31, (u 31)), (32, (u 32)), (33, (u 33)), (34, (u 34)), (35, (u 35)), (36, (u 36)), (37, (u 37)), (38, (u 38)), (39, (u 39)), (40, (u 40)), (41, .int .i64 x10), (42, .string a0), (43, .int .i64 ((a0.size : Nat) : Int)), (44, .bool (decide ((x10 : Int) < ((a0.size : Nat) : Int)))), (45, .int .u32 x8), (46, .int .u32 (IntKind.wrap .u32 (x8 * 16777619))), (47, .int .u32 (IntKind.wrap .u32 (x8 * 16777619))), (48, .string a0), (49, .int .i64 x10), (50, .int .u8 ((l4 0).i)), (51, .int .u32 (IntKind.wrap .u32 ((l4 0).i))), (52, .int .u32 (IntKind.wrap .u32 ((IntKind.wrap .u32 (x8 * 16777619)) + (IntKind.wrap .u32 ((l4 0).i))))), (53, .int .u32 (IntKind.wrap .u32 ((IntKind.wrap .u32 (x8 * 16777619)) + (IntKind.wrap .u32 ((l4 0).i))))), (54, .int .u32 y6), (55, .string a0), (56, .int .i64 x10), (57, .int .i64 ((a1.size : Nat) : Int)), (58, .int .i64 (IntKind.wrap .i64 (x10 - ((a1.size : Nat) : Int)))), (59, .int .u8 ((l5 0).i)), (60, .int .u32 (IntKind.wrap .u32 ((l5 0).i))), (61, .int .u32 (IntKind.wrap .u32 (y6 * (IntKind.wrap .u32 ((l5 0).i))))), (62, .int .u32 (IntKind.wrap .u32 ((IntKind.wrap .u32 ((IntKind.wrap .u32 (x8 * 16777619)) + (IntKind.wrap .u32 ((l4 0).i)))) - (IntKind.wrap .u32 (y6 * (IntKind.wrap .u32 ((l5 0).i))))))), (63, .int .i64 x10), (64, .int .i64 (IntKind.wrap .i64 (x10 + 1))), (65, .int .u32 (IntKind.wrap .u32 ((IntKind.wrap .u32 ((IntKind.wrap .u32 (x8 * 16777619)) + (IntKind.wrap .u32 ((l4 0).i)))) - (IntKind.wrap .u32 (y6 * (IntKind.wrap .u32 ((l5 0).i))))))), (66, .int .u32 y5), (67, .bool ((IntKind.wrap .u32 ((IntKind.wrap .u32 ((IntKind.wrap .u32 (x8 * 16777619)) + (IntKind.wrap .u32 ((l4 0).i)))) - (IntKind.wrap .u32 (y6 * (IntKind.wrap .u32 ((l5 0).i))))) : Int) == y5)), (68, .bool false), (69, undef), (70, undef), (71, undef), (72, undef), (73, undef), (74, undef), (75, undef), (76, undef), (77, .bool false), (78, (u 78)), (79, (u 79)), (80, (u 80))]))))))
    (.done (.int .i64 (-1)))) h) : Wp Tryd.prog 65 k_internal_bytealg_IndexRabinKarp_string_2 (t_internal_bytealg_IndexRabinKarp_string_2 a0 a1 y5 y6 x8 x10 u) I h Q :=
  of_tree (cfg := g_internal_bytealg_IndexRabinKarp_string) 1000 (by kernel_rfl) Tryd.func65 rfl Tryd.checked.mixed hh
/-! ### internal_stringslite_Clone: function 66 of Go -/
abbrev F_internal_stringslite_Clone : FuncId := 66
noncomputable def c_internal_stringslite_Clone : Code := (Tryd.f66.body).getD .skip
noncomputable def g_internal_stringslite_Clone : Cfg := { sh := shs, fsh := fshs, results := [.tmp 2], hint := fun _ _ => none, ord := fun _ => none, pre := fun _ => [], un := fun _ _ _ => false }
set_option maxRecDepth 100000 in
set_option maxHeartbeats 4000000 in
theorem r_internal_stringslite_Clone (a0 : ByteArray) {I : Ctx} {h : Mem} {Q : Value → Mem → Prop}
  (hh : holds Tryd.prog 66 I (cl_ Q)
   (.ite ((((a0.size : Nat) : Int) : Int) == 0)
    (.done (.string (ByteArray.mk #[])))
    (.sem (Instr.makeSlice 59 (.int .i64 ((a0.size : Nat) : Int)) (.int .i64 ((a0.size : Nat) : Int))) (.one (.sc (.sl))) fun l1 =>
     (.nx (builtin .copy #[59, 9] 3 #[false, false] #[.slice ((l1 0).A) ((l1 0).n) ((l1 0).c), .string a0]) (.one (.sc (.int .i64))) fun l2 =>
      (.rd (Instr.indexAt 59 (.slice ((l1 0).A) ((l1 0).n) ((l1 0).c)) (.int .i64 0)) (.one (.sc (.padr))) fun l3 =>
       (.nx (builtin .unsafeString #[68, 3] 9 #[false, false] #[.pointer (some ((l3 0).a)), .int .i64 (((l1 0).n : Nat) : Int)]) (.one (.sc (.str))) fun l4 =>
        (.done (.string ((l4 0).s)))))))) h) : Fn Tryd.prog 66 #[.string a0] I h Q :=
  Wp.fn (args := [.string a0]) Tryd.func66 rfl (by kernel_rfl) (of_tree (cfg := g_internal_stringslite_Clone) 1000 (by kernel_rfl) Tryd.func66 rfl Tryd.checked.mixed hh)
theorem ca_internal_stringslite_Clone : callable Tryd.prog 66 := ⟨_, Tryd.func66, by kernel_rfl, by kernel_rfl⟩
/-! ### errors_New: function 67 of Go -/
abbrev F_errors_New : FuncId := 67
noncomputable def c_errors_New : Code := (Tryd.f67.body).getD .skip
noncomputable def g_errors_New : Cfg := { sh := shs, fsh := fshs, results := [.tmp 2], hint := fun _ _ => none, ord := fun _ => none, pre := fun _ => [], un := fun _ _ _ => false }
set_option maxRecDepth 100000 in
set_option maxHeartbeats 4000000 in
theorem r_errors_New (a0 : ByteArray) {I : Ctx} {h : Mem} {Q : Value → Mem → Prop}
  (hh : holds Tryd.prog 67 I (cl_ Q)
   (.sem (Instr.box 99 (.agg #[.string a0])) shBlk fun l1 =>
    (.done (.iface 97 (.pointer (some ⟨(l1 0).n, 0, none⟩))))) h) : Fn Tryd.prog 67 #[.string a0] I h Q :=
  Wp.fn (args := [.string a0]) Tryd.func67 rfl (by kernel_rfl) (of_tree (cfg := g_errors_New) 1000 (by kernel_rfl) Tryd.func67 rfl Tryd.checked.mixed hh)
theorem ca_errors_New : callable Tryd.prog 67 := ⟨_, Tryd.func67, by kernel_rfl, by kernel_rfl⟩
/-! ### internal_strconv_log10Pow2: function 68 of Go -/
abbrev F_internal_strconv_log10Pow2 : FuncId := 68
noncomputable def c_internal_strconv_log10Pow2 : Code := (Tryd.f68.body).getD .skip
noncomputable def g_internal_strconv_log10Pow2 : Cfg := { sh := shs, fsh := fshs, results := [.tmp 2], hint := fun _ _ => none, ord := fun _ => none, pre := fun _ => [], un := fun _ _ _ => false }
set_option maxRecDepth 100000 in
set_option maxHeartbeats 4000000 in
theorem r_internal_strconv_log10Pow2 (a0 : Int) {I : Ctx} {h : Mem} {Q : Value → Mem → Prop}
  (hh : holds Tryd.prog 68 I (cl_ Q)
   (.done (.int .i64 (Int.fdiv (IntKind.wrap .i64 (a0 * 78913)) (2 ^ 18)))) h) : Fn Tryd.prog 68 #[.int .i64 a0] I h Q :=
  Wp.fn (args := [.int .i64 a0]) Tryd.func68 rfl (by kernel_rfl) (of_tree (cfg := g_internal_strconv_log10Pow2) 1000 (by kernel_rfl) Tryd.func68 rfl Tryd.checked.mixed hh)
theorem ca_internal_strconv_log10Pow2 : callable Tryd.prog 68 := ⟨_, Tryd.func68, by kernel_rfl, by kernel_rfl⟩
/-! ### math_bits_Len64: function 69 of Go -/
abbrev F_math_bits_Len64 : FuncId := 69
noncomputable def c_math_bits_Len64 : Code := (Tryd.f69.body).getD .skip
noncomputable def g_math_bits_Len64 : Cfg := { sh := shs, fsh := fshs, results := [.tmp 2], hint := fun _ _ => none, ord := fun _ => none, pre := fun _ => [], un := fun _ _ _ => false }
set_option maxRecDepth 100000 in
set_option maxHeartbeats 4000000 in
theorem r_math_bits_Len64 (a0 : Int) {I : Ctx} {h : Mem} {Q : Value → Mem → Prop}
  (hh : holds Tryd.prog 69 I (cl_ Q)
   (.ite (decide ((a0 : Int) ≥ 4294967296))
    (.ite (decide ((Int.fdiv a0 (2 ^ 32) : Int) ≥ 65536))
     (.ite (decide ((Int.fdiv (Int.fdiv a0 (2 ^ 32)) (2 ^ 16) : Int) ≥ 256))
      (.rd (Instr.index 9 (.string (ByteArray.mk #[0, 1, 2, 2, 3, 3, 3, 3, 4, 4, 4, 4, 4, 4, 4, 4, 5, 5, 5, 5, 5, 5, 5, 5, 5, 5, 5, 5, 5, 5, 5, 5, 6, 6, 6, 6, 6, 6, 6, 6, 6, 6, 6, 6, 6, 6, 6, 6, 6, 6, 6, 6, 6, 6, 6, 6, 6, 6, 6, 6, 6, 6, 6, 6, 7, 7, 7, 7, 7, 7, 7, 7, 7, 7, 7, 7, 7, 7, 7, 7, 7, 7, 7, 7, 7, 7, 7, 7, 7, 7, 7, 7, 7, 7, 7, 7, 7, 7, 7, 7, 7, 7, 7, 7, 7, 7, 7, 7, 7, 7, 7, 7, 7, 7, 7, 7, 7, 7, 7, 7, 7, 7, 7, 7, 7, 7, 7, 7, 8, 8, 8, 8, 8, 8, 8, 8, 8, 8, 8, 8, 8, 8, 8, 8, 8, 8, 8, 8, 8, 8, 8, 8, 8, 8, 8, 8, 8, 8, 8, 8, 8, 8, 8, 8, 8, 8, 8, 8, 8, 8, 8, 8, 8, 8, 8, 8, 8, 8, 8, 8, 8, 8, 8, 8, 8, 8, 8, 8, 8, 8, 8, 8, 8, 8, 8, 8, 8, 8, 8, 8, 8, 8, 8, 8, 8, 8, 8, 8, 8, 8, 8, 8, 8, 8, 8, 8, 8, 8, 8, 8, 8, 8, 8, 8, 8, 8, 8, 8, 8, 8, 8, 8, 8, 8, 8, 8, 8, 8, 8, 8, 8, 8, 8, 8, 8, 8, 8, 8, 8, 8, 8, 8, 8, 8, 8, 8])) (.int .u8 (IntKind.wrap .u8 (Int.fdiv (Int.fdiv (Int.fdiv a0 (2 ^ 32)) (2 ^ 16)) (2 ^ 8))))) (.one (.sc (.int .u8))) fun l1 =>
       (.done (.int .i64 (IntKind.wrap .i64 ((IntKind.wrap .i64 ((IntKind.wrap .i64 (32 + 16)) + 8)) + (IntKind.wrap .i64 ((l1 0).i)))))))
      (.rd (Instr.index 9 (.string (ByteArray.mk #[0, 1, 2, 2, 3, 3, 3, 3, 4, 4, 4, 4, 4, 4, 4, 4, 5, 5, 5, 5, 5, 5, 5, 5, 5, 5, 5, 5, 5, 5, 5, 5, 6, 6, 6, 6, 6, 6, 6, 6, 6, 6, 6, 6, 6, 6, 6, 6, 6, 6, 6, 6, 6, 6, 6, 6, 6, 6, 6, 6, 6, 6, 6, 6, 7, 7, 7, 7, 7, 7, 7, 7, 7, 7, 7, 7, 7, 7, 7, 7, 7, 7, 7, 7, 7, 7, 7, 7, 7, 7, 7, 7, 7, 7, 7, 7, 7, 7, 7, 7, 7, 7, 7, 7, 7, 7, 7, 7, 7, 7, 7, 7, 7, 7, 7, 7, 7, 7, 7, 7, 7, 7, 7, 7, 7, 7, 7, 7, 8, 8, 8, 8, 8, 8, 8, 8, 8, 8, 8, 8, 8, 8, 8, 8, 8, 8, 8, 8, 8, 8, 8, 8, 8, 8, 8, 8, 8, 8, 8, 8, 8, 8, 8, 8, 8, 8, 8, 8, 8, 8, 8, 8, 8, 8, 8, 8, 8, 8, 8, 8, 8, 8, 8, 8, 8, 8, 8, 8, 8, 8, 8, 8, 8, 8, 8, 8, 8, 8, 8, 8, 8, 8, 8, 8, 8, 8, 8, 8, 8, 8, 8, 8, 8, 8, 8, 8, 8, 8, 8, 8, 8, 8, 8, 8, 8, 8, 8, 8, 8, 8, 8, 8, 8, 8, 8, 8, 8, 8, 8, 8, 8, 8, 8, 8, 8, 8, 8, 8, 8, 8, 8, 8, 8, 8, 8, 8])) (.int .u8 (IntKind.wrap .u8 (Int.fdiv (Int.fdiv a0 (2 ^ 32)) (2 ^ 16))))) (.one (.sc (.int .u8))) fun l2 =>
       (.done (.int .i64 (IntKind.wrap .i64 ((IntKind.wrap .i64 (32 + 16)) + (IntKind.wrap .i64 ((l2 0).i))))))))
     (.ite (decide ((Int.fdiv a0 (2 ^ 32) : Int) ≥ 256))
      (.rd (Instr.index 9 (.string (ByteArray.mk #[0, 1, 2, 2, 3, 3, 3, 3, 4, 4, 4, 4, 4, 4, 4, 4, 5, 5, 5, 5, 5, 5, 5, 5, 5, 5, 5, 5, 5, 5, 5, 5, 6, 6, 6, 6, 6, 6, 6, 6, 6, 6, 6, 6, 6, 6, 6, 6, 6, 6, 6, 6, 6, 6, 6, 6, 6, 6, 6, 6, 6, 6, 6, 6, 7, 7, 7, 7, 7, 7, 7, 7, 7, 7, 7, 7, 7, 7, 7, 7, 7, 7, 7, 7, 7, 7, 7, 7, 7, 7, 7, 7, 7, 7, 7, 7, 7, 7, 7, 7, 7, 7, 7, 7, 7, 7, 7, 7, 7, 7, 7, 7, 7, 7, 7, 7, 7, 7, 7, 7, 7, 7, 7, 7, 7, 7, 7, 7, 8, 8, 8, 8, 8, 8, 8, 8, 8, 8, 8, 8, 8, 8, 8, 8, 8, 8, 8, 8, 8, 8, 8, 8, 8, 8, 8, 8, 8, 8, 8, 8, 8, 8, 8, 8, 8, 8, 8, 8, 8, 8, 8, 8, 8, 8, 8, 8, 8, 8, 8, 8, 8, 8, 8, 8, 8, 8, 8, 8, 8, 8, 8, 8, 8, 8, 8, 8, 8, 8, 8, 8, 8, 8, 8, 8, 8, 8, 8, 8, 8, 8, 8, 8, 8, 8, 8, 8, 8, 8, 8, 8, 8, 8, 8, 8, 8, 8, 8, 8, 8, 8, 8, 8, 8, 8, 8, 8, 8, 8, 8, 8, 8, 8, 8, 8, 8, 8, 8, 8, 8, 8, 8, 8, 8, 8, 8, 8])) (.int .u8 (IntKind.wrap .u8 (Int.fdiv (Int.fdiv a0 (2 ^ 32)) (2 ^ 8))))) (.one (.sc (.int .u8))) fun l3 =>
       (.done (.int .i64 (IntKind.wrap .i64 ((IntKind.wrap .i64 (32 + 8)) + (IntKind.wrap .i64 ((l3 0).i)))))))
      (.rd (Instr.index 9 (.string (ByteArray.mk #[0, 1, 2, 2, 3, 3, 3, 3, 4, 4, 4, 4, 4, 4, 4, 4, 5, 5, 5, 5, 5, 5, 5, 5, 5, 5, 5, 5, 5, 5, 5, 5, 6, 6, 6, 6, 6, 6, 6, 6, 6, 6, 6, 6, 6, 6, 6, 6, 6, 6, 6, 6, 6, 6, 6, 6, 6, 6, 6, 6, 6, 6, 6, 6, 7, 7, 7, 7, 7, 7, 7, 7, 7, 7, 7, 7, 7, 7, 7, 7, 7, 7, 7, 7, 7, 7, 7, 7, 7, 7, 7, 7, 7, 7, 7, 7, 7, 7, 7, 7, 7, 7, 7, 7, 7, 7, 7, 7, 7, 7, 7, 7, 7, 7, 7, 7, 7, 7, 7, 7, 7, 7, 7, 7, 7, 7, 7, 7, 8, 8, 8, 8, 8, 8, 8, 8, 8, 8, 8, 8, 8, 8, 8, 8, 8, 8, 8, 8, 8, 8, 8, 8, 8, 8, 8, 8, 8, 8, 8, 8, 8, 8, 8, 8, 8, 8, 8, 8, 8, 8, 8, 8, 8, 8, 8, 8, 8, 8, 8, 8, 8, 8, 8, 8, 8, 8, 8, 8, 8, 8, 8, 8, 8, 8, 8, 8, 8, 8, 8, 8, 8, 8, 8, 8, 8, 8, 8, 8, 8, 8, 8, 8, 8, 8, 8, 8, 8, 8, 8, 8, 8, 8, 8, 8, 8, 8, 8, 8, 8, 8, 8, 8, 8, 8, 8, 8, 8, 8, 8, 8, 8, 8, 8, 8, 8, 8, 8, 8, 8, 8, 8, 8, 8, 8, 8, 8])) (.int .u8 (IntKind.wrap .u8 (Int.fdiv a0 (2 ^ 32))))) (.one (.sc (.int .u8))) fun l4 =>
       (.done (.int .i64 (IntKind.wrap .i64 (32 + (IntKind.wrap .i64 ((l4 0).i)))))))))
    (.ite (decide ((a0 : Int) ≥ 65536))
     (.ite (decide ((Int.fdiv a0 (2 ^ 16) : Int) ≥ 256))
      (.rd (Instr.index 9 (.string (ByteArray.mk #[0, 1, 2, 2, 3, 3, 3, 3, 4, 4, 4, 4, 4, 4, 4, 4, 5, 5, 5, 5, 5, 5, 5, 5, 5, 5, 5, 5, 5, 5, 5, 5, 6, 6, 6, 6, 6, 6, 6, 6, 6, 6, 6, 6, 6, 6, 6, 6, 6, 6, 6, 6, 6, 6, 6, 6, 6, 6, 6, 6, 6, 6, 6, 6, 7, 7, 7, 7, 7, 7, 7, 7, 7, 7, 7, 7, 7, 7, 7, 7, 7, 7, 7, 7, 7, 7, 7, 7, 7, 7, 7, 7, 7, 7, 7, 7, 7, 7, 7, 7, 7, 7, 7, 7, 7, 7, 7, 7, 7, 7, 7, 7, 7, 7, 7, 7, 7, 7, 7, 7, 7, 7, 7, 7, 7, 7, 7, 7, 8, 8, 8, 8, 8, 8, 8, 8, 8, 8, 8, 8, 8, 8, 8, 8, 8, 8, 8, 8, 8, 8, 8, 8, 8, 8, 8, 8, 8, 8, 8, 8, 8, 8, 8, 8, 8, 8, 8, 8, 8, 8, 8, 8, 8, 8, 8, 8, 8, 8, 8, 8, 8, 8, 8, 8, 8, 8, 8, 8, 8, 8, 8, 8, 8, 8, 8, 8, 8, 8, 8, 8, 8, 8, 8, 8, 8, 8, 8, 8, 8, 8, 8, 8, 8, 8, 8, 8, 8, 8, 8, 8, 8, 8, 8, 8, 8, 8, 8, 8, 8, 8, 8, 8, 8, 8, 8, 8, 8, 8, 8, 8, 8, 8, 8, 8, 8, 8, 8, 8, 8, 8, 8, 8, 8, 8, 8, 8])) (.int .u8 (IntKind.wrap .u8 (Int.fdiv (Int.fdiv a0 (2 ^ 16)) (2 ^ 8))))) (.one (.sc (.int .u8))) fun l5 =>
       (.done (.int .i64 (IntKind.wrap .i64 ((IntKind.wrap .i64 ((IntKind.wrap .i64 (0 + 16)) + 8)) + (IntKind.wrap .i64 ((l5 0).i)))))))
      (.rd (Instr.index 9 (.string (ByteArray.mk #[0, 1, 2, 2, 3, 3, 3, 3, 4, 4, 4, 4, 4, 4, 4, 4, 5, 5, 5, 5, 5, 5, 5, 5, 5, 5, 5, 5, 5, 5, 5, 5, 6, 6, 6, 6, 6, 6, 6, 6, 6, 6, 6, 6, 6, 6, 6, 6, 6, 6, 6, 6, 6, 6, 6, 6, 6, 6, 6, 6, 6, 6, 6, 6, 7, 7, 7, 7, 7, 7, 7, 7, 7, 7, 7, 7, 7, 7, 7, 7, 7, 7, 7, 7, 7, 7, 7, 7, 7, 7, 7, 7, 7, 7, 7, 7, 7, 7, 7, 7, 7, 7, 7, 7, 7, 7, 7, 7, 7, 7, 7, 7, 7, 7, 7, 7, 7, 7, 7, 7, 7, 7, 7, 7, 7, 7, 7, 7, 8, 8, 8, 8, 8, 8, 8, 8, 8, 8, 8, 8, 8, 8, 8, 8, 8, 8, 8, 8, 8, 8, 8, 8, 8, 8, 8, 8, 8, 8, 8, 8, 8, 8, 8, 8, 8, 8, 8, 8, 8, 8, 8, 8, 8, 8, 8, 8, 8, 8, 8, 8, 8, 8, 8, 8, 8, 8, 8, 8, 8, 8, 8, 8, 8, 8, 8, 8, 8, 8, 8, 8, 8, 8, 8, 8, 8, 8, 8, 8, 8, 8, 8, 8, 8, 8, 8, 8, 8, 8, 8, 8, 8, 8, 8, 8, 8, 8, 8, 8, 8, 8, 8, 8, 8, 8, 8, 8, 8, 8, 8, 8, 8, 8, 8, 8, 8, 8, 8, 8, 8, 8, 8, 8, 8, 8, 8, 8])) (.int .u8 (IntKind.wrap .u8 (Int.fdiv a0 (2 ^ 16))))) (.one (.sc (.int .u8))) fun l6 =>
       (.done (.int .i64 (IntKind.wrap .i64 ((IntKind.wrap .i64 (0 + 16)) + (IntKind.wrap .i64 ((l6 0).i))))))))
     (.ite (decide ((a0 : Int) ≥ 256))
      (.rd (Instr.index 9 (.string (ByteArray.mk #[0, 1, 2, 2, 3, 3, 3, 3, 4, 4, 4, 4, 4, 4, 4, 4, 5, 5, 5, 5, 5, 5, 5, 5, 5, 5, 5, 5, 5, 5, 5, 5, 6, 6, 6, 6, 6, 6, 6, 6, 6, 6, 6, 6, 6, 6, 6, 6, 6, 6, 6, 6, 6, 6, 6, 6, 6, 6, 6, 6, 6, 6, 6, 6, 7, 7, 7, 7, 7, 7, 7, 7, 7, 7, 7, 7, 7, 7, 7, 7, 7, 7, 7, 7, 7, 7, 7, 7, 7, 7, 7, 7, 7, 7, 7, 7, 7, 7, 7, 7, 7, 7, 7, 7, 7, 7, 7, 7, 7, 7, 7, 7, 7, 7, 7, 7, 7, 7, 7, 7, 7, 7, 7, 7, 7, 7, 7, 7, 8, 8, 8, 8, 8, 8, 8, 8, 8, 8, 8, 8, 8, 8, 8, 8, 8, 8, 8, 8, 8, 8, 8, 8, 8, 8, 8, 8, 8, 8, 8, 8, 8, 8, 8, 8, 8, 8, 8, 8, 8, 8, 8, 8, 8, 8, 8, 8, 8, 8, 8, 8, 8, 8, 8, 8, 8, 8, 8, 8, 8, 8, 8, 8, 8, 8, 8, 8, 8, 8, 8, 8, 8, 8, 8, 8, 8, 8, 8, 8, 8, 8, 8, 8, 8, 8, 8, 8, 8, 8, 8, 8, 8, 8, 8, 8, 8, 8, 8, 8, 8, 8, 8, 8, 8, 8, 8, 8, 8, 8, 8, 8, 8, 8, 8, 8, 8, 8, 8, 8, 8, 8, 8, 8, 8, 8, 8, 8])) (.int .u8 (IntKind.wrap .u8 (Int.fdiv a0 (2 ^ 8))))) (.one (.sc (.int .u8))) fun l7 =>
       (.done (.int .i64 (IntKind.wrap .i64 ((IntKind.wrap .i64 (0 + 8)) + (IntKind.wrap .i64 ((l7 0).i)))))))
      (.rd (Instr.index 9 (.string (ByteArray.mk #[0, 1, 2, 2, 3, 3, 3, 3, 4, 4, 4, 4, 4, 4, 4, 4, 5, 5, 5, 5, 5, 5, 5, 5, 5, 5, 5, 5, 5, 5, 5, 5, 6, 6, 6, 6, 6, 6, 6, 6, 6, 6, 6, 6, 6, 6, 6, 6, 6, 6, 6, 6, 6, 6, 6, 6, 6, 6, 6, 6, 6, 6, 6, 6, 7, 7, 7, 7, 7, 7, 7, 7, 7, 7, 7, 7, 7, 7, 7, 7, 7, 7, 7, 7, 7, 7, 7, 7, 7, 7, 7, 7, 7, 7, 7, 7, 7, 7, 7, 7, 7, 7, 7, 7, 7, 7, 7, 7, 7, 7, 7, 7, 7, 7, 7, 7, 7, 7, 7, 7, 7, 7, 7, 7, 7, 7, 7, 7, 8, 8, 8, 8, 8, 8, 8, 8, 8, 8, 8, 8, 8, 8, 8, 8, 8, 8, 8, 8, 8, 8, 8, 8, 8, 8, 8, 8, 8, 8, 8, 8, 8, 8, 8, 8, 8, 8, 8, 8, 8, 8, 8, 8, 8, 8, 8, 8, 8, 8, 8, 8, 8, 8, 8, 8, 8, 8, 8, 8, 8, 8, 8, 8, 8, 8, 8, 8, 8, 8, 8, 8, 8, 8, 8, 8, 8, 8, 8, 8, 8, 8, 8, 8, 8, 8, 8, 8, 8, 8, 8, 8, 8, 8, 8, 8, 8, 8, 8, 8, 8, 8, 8, 8, 8, 8, 8, 8, 8, 8, 8, 8, 8, 8, 8, 8, 8, 8, 8, 8, 8, 8, 8, 8, 8, 8, 8, 8])) (.int .u8 (IntKind.wrap .u8 a0))) (.one (.sc (.int .u8))) fun l8 =>
       (.done (.int .i64 (IntKind.wrap .i64 (0 + (IntKind.wrap .i64 ((l8 0).i)))))))))) h) : Fn Tryd.prog 69 #[.int .u64 a0] I h Q :=
  Wp.fn (args := [.int .u64 a0]) Tryd.func69 rfl (by kernel_rfl) (of_tree (cfg := g_math_bits_Len64) 1000 (by kernel_rfl) Tryd.func69 rfl Tryd.checked.mixed hh)
theorem ca_math_bits_Len64 : callable Tryd.prog 69 := ⟨_, Tryd.func69, by kernel_rfl, by kernel_rfl⟩
/-! ### internal_strconv_bool2_int: function 70 of Go -/
abbrev F_internal_strconv_bool2_int : FuncId := 70
noncomputable def c_internal_strconv_bool2_int : Code := (Tryd.f70.body).getD .skip
noncomputable def g_internal_strconv_bool2_int : Cfg := { sh := shs, fsh := fshs, results := [.tmp 2], hint := fun _ _ => none, ord := fun _ => none, pre := fun _ => [], un := fun _ _ _ => false }
set_option maxRecDepth 100000 in
set_option maxHeartbeats 4000000 in
theorem r_internal_strconv_bool2_int (a0 : Bool) {I : Ctx} {h : Mem} {Q : Value → Mem → Prop}
  (hh : holds Tryd.prog 70 I (cl_ Q)
   (.ite (a0)
    (.done (.int .i64 1))
    (.done (.int .i64 0))) h) : Fn Tryd.prog 70 #[.bool a0] I h Q :=
  Wp.fn (args := [.bool a0]) Tryd.func70 rfl (by kernel_rfl) (of_tree (cfg := g_internal_strconv_bool2_int) 1000 (by kernel_rfl) Tryd.func70 rfl Tryd.checked.mixed hh)
theorem ca_internal_strconv_bool2_int : callable Tryd.prog 70 := ⟨_, Tryd.func70, by kernel_rfl, by kernel_rfl⟩
/-! ### internal_strconv_isPowerOfTwo: function 71 of Go -/
abbrev F_internal_strconv_isPowerOfTwo : FuncId := 71
noncomputable def c_internal_strconv_isPowerOfTwo : Code := (Tryd.f71.body).getD .skip
noncomputable def g_internal_strconv_isPowerOfTwo : Cfg := { sh := shs, fsh := fshs, results := [.tmp 2], hint := fun _ _ => none, ord := fun _ => none, pre := fun _ => [], un := fun _ _ _ => false }
set_option maxRecDepth 100000 in
set_option maxHeartbeats 4000000 in
theorem r_internal_strconv_isPowerOfTwo (a0 : Int) {I : Ctx} {h : Mem} {Q : Value → Mem → Prop}
  (hh : holds Tryd.prog 71 I (cl_ Q)
   (.done (.bool ((bitop .and .i64 a0 (IntKind.wrap .i64 (a0 - 1)) : Int) == 0))) h) : Fn Tryd.prog 71 #[.int .i64 a0] I h Q :=
  Wp.fn (args := [.int .i64 a0]) Tryd.func71 rfl (by kernel_rfl) (of_tree (cfg := g_internal_strconv_isPowerOfTwo) 1000 (by kernel_rfl) Tryd.func71 rfl Tryd.checked.mixed hh)
theorem ca_internal_strconv_isPowerOfTwo : callable Tryd.prog 71 := ⟨_, Tryd.func71, by kernel_rfl, by kernel_rfl⟩
/-! ### math_bits_TrailingZeros: function 72 of Go -/
abbrev F_math_bits_TrailingZeros : FuncId := 72
noncomputable def c_math_bits_TrailingZeros : Code := (Tryd.f72.body).getD .skip
noncomputable def g_math_bits_TrailingZeros : Cfg := { sh := shs, fsh := fshs, results := [.tmp 2], hint := fun _ _ => none, ord := fun _ => none, pre := fun _ => [], un := fun _ _ _ => false }
set_option maxRecDepth 100000 in
set_option maxHeartbeats 4000000 in
theorem r_math_bits_TrailingZeros (a0 : Int) {I : Ctx} {h : Mem} {Q : Value → Mem → Prop}
  (hh : holds Tryd.prog 72 I (cl_ Q)
   (.ite (false)
    (.call 75 [.int .u32 (IntKind.wrap .u32 a0)] (.one (.sc (.int .i64))) fun l1 => -- math_bits_TrailingZeros32
     (.done (.int .i64 ((l1 0).i))))
    (.call 76 [.int .u64 a0] (.one (.sc (.int .i64))) fun l2 => -- math_bits_TrailingZeros64
     (.done (.int .i64 ((l2 0).i))))) h) : Fn Tryd.prog 72 #[.int .u64 a0] I h Q :=
  Wp.fn (args := [.int .u64 a0]) Tryd.func72 rfl (by kernel_rfl) (of_tree (cfg := g_math_bits_TrailingZeros) 1000 (by kernel_rfl) Tryd.func72 rfl Tryd.checked.mixed hh)
theorem ca_math_bits_TrailingZeros : callable Tryd.prog 72 := ⟨_, Tryd.func72, by kernel_rfl, by kernel_rfl⟩
/-! ### internal_bytealg_hashStr_string: function 74 of Go -/
abbrev F_internal_bytealg_hashStr_string : FuncId := 74
noncomputable def c_internal_bytealg_hashStr_string : Code := (Tryd.f74.body).getD .skip
noncomputable def g_internal_bytealg_hashStr_string : Cfg := { sh := shs, fsh := fshs, results := [.tmp 2, .tmp 3], hint := fun _ _ => none, ord := fun _ => none, pre := fun _ => [], un := fun _ _ _ => false }
noncomputable def k_internal_bytealg_hashStr_string_1 : List Item := [.code (bd (bd (sr (sl (sr (sr c_internal_bytealg_hashStr_string)))))), .inLoop (bd (bd (sr (sl (sr (sr c_internal_bytealg_hashStr_string)))))), .inBlock 0, .code (sr (sr (sr c_internal_bytealg_hashStr_string)))]
noncomputable def t_internal_bytealg_hashStr_string_1 (a0 : ByteArray) (x4 : Int) (x5 : Int) (u : Nat → Value) : List Value := [.string a0, undef, (u 2), (u 3), .int .u32 x4, .int .i64 x5, (u 6), (u 7), (u 8), (u 9), (u 10), (u 11), (u 12), (u 13), (u 14), (u 15), (u 16), (u 17), (u 18), (u 19), (u 20), (u 21), (u 22), (u 23), (u 24), (u 25), (u 26), (u 27), (u 28), (u 29), (u 30), (u 31), (u 32), (u 33), (u 34), (u 35), (u 36), (u 37), (u 38)]
noncomputable def k_internal_bytealg_hashStr_string_2 : List Item := [.code (bd (bd (sr (sl (sr (sr (sr (sr c_internal_bytealg_hashStr_string)))))))), .inLoop (bd (bd (sr (sl (sr (sr (sr (sr c_internal_bytealg_hashStr_string)))))))), .inBlock 2, .code (sr (sr (sr (sr (sr c_internal_bytealg_hashStr_string)))))]
noncomputable def t_internal_bytealg_hashStr_string_2 (x4 : Int) (x6 : Int) (x7 : Int) (x8 : Int) (u : Nat → Value) : List Value := [(u 0), undef, (u 2), (u 3), .int .u32 x4, (u 5), .int .u32 x6, .int .u32 x7, .int .i64 x8, (u 9), (u 10), (u 11), (u 12), (u 13), (u 14), (u 15), (u 16), (u 17), (u 18), (u 19), (u 20), (u 21), (u 22), (u 23), (u 24), (u 25), (u 26), (u 27), (u 28), (u 29), (u 30), (u 31), (u 32), (u 33), (u 34), (u 35), (u 36), (u 37), (u 38)]
set_option maxRecDepth 100000 in
set_option maxHeartbeats 4000000 in
theorem r_internal_bytealg_hashStr_string (a0 : ByteArray) {I : Ctx} {h : Mem} {Q : Value → Mem → Prop}
  (hh : holds Tryd.prog 74 I (cl_ Q)
   (.stop k_internal_bytealg_hashStr_string_1 (t_internal_bytealg_hashStr_string_1 a0 0 0 (jl [(2, .int .u32 0), (3, .int .u32 0), (6, undef), (7, undef), (8, undef), (9, undef), (10, undef), (11, undef), (12, undef), (13, undef), (14, undef), (15, undef), (16, undef), (17, undef), (18, undef), (19, undef), (20, undef), (21, undef), (22, undef), (23, undef), (24, undef), (25, undef), (26, undef), (27, undef), (28, undef), (29, undef), (30, undef), (31, undef), (32, undef), (33, undef), (34, undef), (35, undef), (36, undef), (37, undef), (38, undef)]))) h) : Fn Tryd.prog 74 #[.string a0] I h Q :=
  Wp.fn (args := [.string a0]) Tryd.func74 rfl (by kernel_rfl) (of_tree (cfg := g_internal_bytealg_hashStr_string) 1000 (by kernel_rfl) Tryd.func74 rfl Tryd.checked.mixed hh)
theorem ca_internal_bytealg_hashStr_string : callable Tryd.prog 74 := ⟨_, Tryd.func74, by kernel_rfl, by kernel_rfl⟩
set_option maxRecDepth 100000 in
set_option maxHeartbeats 4000000 in
theorem r_internal_bytealg_hashStr_string_1 (a0 : ByteArray) (x4 : Int) (x5 : Int) (u : Nat → Value) {I : Ctx} {h : Mem} {Q : Value → Mem → Prop}
  (hh : holds Tryd.prog 74 I Q
   (.ite (decide ((x5 : Int) < ((a0.size : Nat) : Int)))
    (.rd (Instr.index 9 (.string a0) (.int .i64 x5)) (.one (.sc (.int .u8))) fun l1 =>
     (.stop k_internal_bytealg_hashStr_string_1 (t_internal_bytealg_hashStr_string_1 a0 (IntKind.wrap .u32 ((IntKind.wrap .u32 (x4 * 16777619)) + (IntKind.wrap .u32 ((l1 0).i)))) (IntKind.wrap .i64 (x5 + 1)) (jl [(2, (u 2)), (3, (u 3)), (6, (u 6)), (7, (u 7)), (8, (u 8)), (9, .int .i64 x5), (10, .string a0), (11, .int .i64 ((a0.size : Nat) : Int)), (12, .bool (decide ((x5 : Int) < ((a0.size : Nat) : Int)))), (13, .int .i64 x5), (14, .int .i64 (IntKind.wrap .i64 (x5 + 1))), (15, .int .u32 x4), (16, .int .u32 (IntKind.wrap .u32 (x4 * 16777619))), (17, .string a0), (18, .int .i64 x5), (19, .int .u8 ((l1 0).i)), (20, .int .u32 (IntKind.wrap .u32 ((l1 0).i))), (21, .int .u32 (IntKind.wrap .u32 ((IntKind.wrap .u32 (x4 * 16777619)) + (IntKind.wrap .u32 ((l1 0).i))))), (22, (u 22)), (23, (u 23)), (24, (u 24)), (25, (u 25)), (26, (u 26)), (27, (u 27)), (28, (u 28)), (29, (u 29)), (30, (u 30)), (31, (u 31)), (32, (u 32)), (33, (u 33)), (34, (u 34)), (35, (u 35)), (36, (u 36)), (37, (u 37)), (38, (u 38))]))))
    (.stop k_internal_bytealg_hashStr_string_2 (t_internal_bytealg_hashStr_string_2 x4 1 16777619 ((a0.size : Nat) : Int) (jl [(0, .string a0), (2, (u 2)), (3, (u 3)), (5, .int .i64 x5), (9, .int .i64 x5), (10, .string a0), (11, .int .i64 ((a0.size : Nat) : Int)), (12, .bool (decide ((x5 : Int) < ((a0.size : Nat) : Int)))), (13, (u 13)), (14, (u 14)), (15, (u 15)), (16, (u 16)), (17, (u 17)), (18, (u 18)), (19, (u 19)), (20, (u 20)), (21, (u 21)), (22, .string a0), (23, .int .i64 ((a0.size : Nat) : Int)), (24, (u 24)), (25, (u 25)), (26, (u 26)), (27, (u 27)), (28, (u 28)), (29, (u 29)), (30, (u 30)), (31, (u 31)), (32, (u 32)), (33, (u 33)), (34, (u 34)), (35, (u 35)), (36, (u 36)), (37, (u 37)), (38, (u 38))])))) h) : Wp Tryd.prog 74 k_internal_bytealg_hashStr_string_1 (t_internal_bytealg_hashStr_string_1 a0 x4 x5 u) I h Q :=
  of_tree (cfg := g_internal_bytealg_hashStr_string) 1000 (by kernel_rfl) Tryd.func74 rfl Tryd.checked.mixed hh
set_option maxRecDepth 100000 in
set_option maxHeartbeats 4000000 in
theorem r_internal_bytealg_hashStr_string_2 (x4 : Int) (x6 : Int) (x7 : Int) (x8 : Int) (u : Nat → Value) {I : Ctx} {h : Mem} {Q : Value → Mem → Prop}
  (hh : holds Tryd.prog 74 I Q
   (.ite (decide ((x8 : Int) > 0))
    (.ite ((bitop .and .i64 x8 1 : Int) != 0)
     (.stop k_internal_bytealg_hashStr_string_2 (t_internal_bytealg_hashStr_string_2 x4 (IntKind.wrap .u32 (x6 * x7)) (IntKind.wrap .u32 (x7 * x7)) (Int.fdiv x8 (2 ^ 1)) (jl [(0, (u 0)), (2, (u 2)), (3, (u 3)), (5, (u 5)), (9, (u 9)), (10, (u 10)), (11, (u 11)), (12, (u 12)), (13, (u 13)), (14, (u 14)), (15, (u 15)), (16, (u 16)), (17, (u 17)), (18, (u 18)), (19, (u 19)), (20, (u 20)), (21, (u 21)), (22, (u 22)), (23, (u 23)), (24, .int .i64 x8), (25, .bool (decide ((x8 : Int) > 0))), (26, .int .i64 x8), (27, .int .i64 (Int.fdiv x8 (2 ^ 1))), (28, .int .i64 x8), (29, .int .i64 (bitop .and .i64 x8 1)), (30, .bool ((bitop .and .i64 x8 1 : Int) != 0)), (31, .int .u32 x6), (32, .int .u32 x7), (33, .int .u32 (IntKind.wrap .u32 (x6 * x7))), (34, .int .u32 x7), (35, .int .u32 x7), (36, .int .u32 (IntKind.wrap .u32 (x7 * x7))), (37, (u 37)), (38, (u 38))])))
     (.stop k_internal_bytealg_hashStr_string_2 (t_internal_bytealg_hashStr_string_2 x4 x6 (IntKind.wrap .u32 (x7 * x7)) (Int.fdiv x8 (2 ^ 1)) (jl [(0, (u 0)), (2, (u 2)), (3, (u 3)), (5, (u 5)), (9, (u 9)), (10, (u 10)), (11, (u 11)), (12, (u 12)), (13, (u 13)), (14, (u 14)), (15, (u 15)), (16, (u 16)), (17, (u 17)), (18, (u 18)), (19, (u 19)), (20, (u 20)), (21, (u 21)), (22, (u 22)), (23, (u 23)), (24, .int .i64 x8), (25, .bool (decide ((x8 : Int) > 0))), (26, .int .i64 x8), (27, .int .i64 (Int.fdiv x8 (2 ^ 1))), (28, .int .i64 x8), (29, .int .i64 (bitop .and .i64 x8 1)), (30, .bool ((bitop .and .i64 x8 1 : Int) != 0)), (31, (u 31)), (32, (u 32)), (33, (u 33)), (34, .int .u32 x7), (35, .int .u32 x7), (36, .int .u32 (IntKind.wrap .u32 (x7 * x7))), (37, (u 37)), (38, (u 38))]))))
    (.done (.tuple #[.int .u32 x4, .int .u32 x6]))) h) : Wp Tryd.prog 74 k_internal_bytealg_hashStr_string_2 (t_internal_bytealg_hashStr_string_2 x4 x6 x7 x8 u) I h Q :=
  of_tree (cfg := g_internal_bytealg_hashStr_string) 1000 (by kernel_rfl) Tryd.func74 rfl Tryd.checked.mixed hh
/-! ### math_bits_TrailingZeros32: function 75 of Go -/
abbrev F_math_bits_TrailingZeros32 : FuncId := 75
noncomputable def c_math_bits_TrailingZeros32 : Code := (Tryd.f75.body).getD .skip
noncomputable def g_math_bits_TrailingZeros32 : Cfg := { sh := shs, fsh := fshs, results := [.tmp 2], hint := fun _ _ => none, ord := fun _ => none, pre := fun _ => [], un := fun _ _ _ => false }
set_option maxRecDepth 100000 in
set_option maxHeartbeats 4000000 in
theorem r_math_bits_TrailingZeros32 (a0 : Int) {I : Ctx} {h : Mem} {Q : Value → Mem → Prop}
  (hh : holds Tryd.prog 75 I (cl_ Q)
   (.ite ((a0 : Int) == 0)
    (.done (.int .i64 32))
    (.rd (Instr.indexAt 100 (.pointer (some ⟨4, 0, none⟩)) (.int .u32 (Int.fdiv (IntKind.wrap .u32 ((bitop .and .u32 a0 (IntKind.wrap .u32 (0 - a0))) * 125613361)) (2 ^ 27)))) (.one (.sc (.padr))) fun l1 =>
     (.rd (Instr.loadAt 5 (.pointer (some ((l1 0).a)))) (.one (.sc (.int .u8))) fun l2 =>
      (.done (.int .i64 (IntKind.wrap .i64 ((l2 0).i))))))) h) : Fn Tryd.prog 75 #[.int .u32 a0] I h Q :=
  Wp.fn (args := [.int .u32 a0]) Tryd.func75 rfl (by kernel_rfl) (of_tree (cfg := g_math_bits_TrailingZeros32) 1000 (by kernel_rfl) Tryd.func75 rfl Tryd.checked.mixed hh)
theorem ca_math_bits_TrailingZeros32 : callable Tryd.prog 75 := ⟨_, Tryd.func75, by kernel_rfl, by kernel_rfl⟩
/-! ### math_bits_TrailingZeros64: function 76 of Go -/
abbrev F_math_bits_TrailingZeros64 : FuncId := 76
noncomputable def c_math_bits_TrailingZeros64 : Code := (Tryd.f76.body).getD .skip
noncomputable def g_math_bits_TrailingZeros64 : Cfg := { sh := shs, fsh := fshs, results := [.tmp 2], hint := fun _ _ => none, ord := fun _ => none, pre := fun _ => [], un := fun _ _ _ => false }
set_option maxRecDepth 100000 in
set_option maxHeartbeats 4000000 in
theorem r_math_bits_TrailingZeros64 (a0 : Int) {I : Ctx} {h : Mem} {Q : Value → Mem → Prop}
  (hh : holds Tryd.prog 76 I (cl_ Q)
   (.ite ((a0 : Int) == 0)
    (.done (.int .i64 64))
    (.rd (Instr.indexAt 101 (.pointer (some ⟨5, 0, none⟩)) (.int .u64 (Int.fdiv (IntKind.wrap .u64 ((bitop .and .u64 a0 (IntKind.wrap .u64 (0 - a0))) * 285870213051353865)) (2 ^ 58)))) (.one (.sc (.padr))) fun l1 =>
     (.rd (Instr.loadAt 5 (.pointer (some ((l1 0).a)))) (.one (.sc (.int .u8))) fun l2 =>
      (.done (.int .i64 (IntKind.wrap .i64 ((l2 0).i))))))) h) : Fn Tryd.prog 76 #[.int .u64 a0] I h Q :=
  Wp.fn (args := [.int .u64 a0]) Tryd.func76 rfl (by kernel_rfl) (of_tree (cfg := g_math_bits_TrailingZeros64) 1000 (by kernel_rfl) Tryd.func76 rfl Tryd.checked.mixed hh)
theorem ca_math_bits_TrailingZeros64 : callable Tryd.prog 76 := ⟨_, Tryd.func76, by kernel_rfl, by kernel_rfl⟩
/-! ### gosem_cut_vars: function 104 of Go -/
abbrev F_gosem_cut_vars : FuncId := 104
noncomputable def c_gosem_cut_vars : Code := (Tryd.f104.body).getD .skip
noncomputable def g_gosem_cut_vars : Cfg := { sh := shs, fsh := fshs, results := [], hint := fun _ _ => none, ord := fun _ => none, pre := fun _ => [], un := fun _ _ _ => false }
set_option maxRecDepth 100000 in
set_option maxHeartbeats 4000000 in
theorem r_gosem_cut_vars  {I : Ctx} {h : Mem} {Q : Value → Mem → Prop}
  (hh : holds Tryd.prog 104 I (cl_ Q)
   (.unit (Instr.storeAt 100 (.pointer (some ⟨4, 0, none⟩)) (.agg #[.int .u8 0, .int .u8 1, .int .u8 28, .int .u8 2, .int .u8 29, .int .u8 14, .int .u8 24, .int .u8 3, .int .u8 30, .int .u8 22, .int .u8 20, .int .u8 15, .int .u8 25, .int .u8 17, .int .u8 4, .int .u8 8, .int .u8 31, .int .u8 27, .int .u8 13, .int .u8 23, .int .u8 21, .int .u8 19, .int .u8 16, .int .u8 7, .int .u8 26, .int .u8 12, .int .u8 18, .int .u8 6, .int .u8 11, .int .u8 5, .int .u8 10, .int .u8 9]))
    (.unit (Instr.storeAt 101 (.pointer (some ⟨5, 0, none⟩)) (.agg #[.int .u8 0, .int .u8 1, .int .u8 56, .int .u8 2, .int .u8 57, .int .u8 49, .int .u8 28, .int .u8 3, .int .u8 61, .int .u8 58, .int .u8 42, .int .u8 50, .int .u8 38, .int .u8 29, .int .u8 17, .int .u8 4, .int .u8 62, .int .u8 47, .int .u8 59, .int .u8 36, .int .u8 45, .int .u8 43, .int .u8 51, .int .u8 22, .int .u8 53, .int .u8 39, .int .u8 33, .int .u8 30, .int .u8 24, .int .u8 18, .int .u8 12, .int .u8 5, .int .u8 63, .int .u8 55, .int .u8 48, .int .u8 27, .int .u8 60, .int .u8 41, .int .u8 37, .int .u8 16, .int .u8 46, .int .u8 35, .int .u8 44, .int .u8 21, .int .u8 52, .int .u8 32, .int .u8 23, .int .u8 11, .int .u8 54, .int .u8 26, .int .u8 40, .int .u8 15, .int .u8 34, .int .u8 20, .int .u8 31, .int .u8 10, .int .u8 25, .int .u8 14, .int .u8 19, .int .u8 9, .int .u8 13, .int .u8 8, .int .u8 7, .int .u8 6]))
     (.unit (Instr.storeAt 91 (.pointer (some ⟨3, 0, none⟩)) (.agg #[.int .u64 1, .int .u64 10, .int .u64 100, .int .u64 1000, .int .u64 10000, .int .u64 100000, .int .u64 1000000, .int .u64 10000000, .int .u64 100000000, .int .u64 1000000000, .int .u64 10000000000, .int .u64 100000000000, .int .u64 1000000000000, .int .u64 10000000000000, .int .u64 100000000000000, .int .u64 1000000000000000, .int .u64 10000000000000000, .int .u64 100000000000000000, .int .u64 1000000000000000000, .int .u64 10000000000000000000]))
      (.call 67 [.string (ByteArray.mk #[118, 97, 108, 117, 101, 32, 111, 117, 116, 32, 111, 102, 32, 114, 97, 110, 103, 101])] (.one (.sc (.v))) fun l1 => -- errors_New
       (.unit (Instr.storeAt 55 (.pointer (some ⟨2, 0, none⟩)) ((l1 0).v))
        (.call 67 [.string (ByteArray.mk #[105, 110, 118, 97, 108, 105, 100, 32, 115, 121, 110, 116, 97, 120])] (.one (.sc (.v))) fun l2 => -- errors_New
         (.unit (Instr.storeAt 55 (.pointer (some ⟨1, 0, none⟩)) ((l2 0).v))
          (.done (undef))))))))) h) : Fn Tryd.prog 104 #[] I h Q :=
  Wp.fn (args := []) Tryd.func104 rfl (by kernel_rfl) (of_tree (cfg := g_gosem_cut_vars) 1000 (by kernel_rfl) Tryd.func104 rfl Tryd.checked.mixed hh)
theorem ca_gosem_cut_vars : callable Tryd.prog 104 := ⟨_, Tryd.func104, by kernel_rfl, by kernel_rfl⟩
end Go.Proofs.YtenlioajflbegaaDoorS
