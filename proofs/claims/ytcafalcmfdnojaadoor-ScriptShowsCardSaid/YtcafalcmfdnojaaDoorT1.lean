import Derived.Test.YtcafalcmfdnojaaDoorT0
set_option linter.unusedVariables false
namespace Go.Proofs.YtcafalcmfdnojaaDoorS
/-! ### octroilaw23_ScriptParses: function 3 of Go -/
abbrev F_octroilaw23_ScriptParses : FuncId := 3
noncomputable def c_octroilaw23_ScriptParses : Code := (Tryd.f3.body).getD .skip
noncomputable def g_octroilaw23_ScriptParses : Cfg := { sh := shs, fsh := fshs, results := [.tmp 2], hint := fun _ _ => none, ord := fun _ => none, pre := fun _ => [], un := fun _ _ _ => false }
set_option maxRecDepth 100000 in
set_option maxHeartbeats 4000000 in
theorem r_octroilaw23_ScriptParses (a0 : ByteArray) {I : Ctx} {h : Mem} {Q : Value → Mem → Prop}
  (hh : holds Tryd.prog 3 I (cl_ Q)
   (.call 8 [] (.one (.sc (.bool))) fun l1 => -- octroilaw23_awake
    (.ite (decide ((((a0.size : Nat) : Int) : Int) > 5000))
     (.done (.bool ((l1 0).b)))
     (.call 9 [.string a0] (.tup [(.sc (.sl)), (.sc (.int .i64))]) fun l2 => -- script_Parse
      (.call 10 [.string a0] (.tup [(.sc (.sl)), (.sc (.int .i64))]) fun l3 => -- octroiref23_Parse
       (.call 11 [.slice ((l2 0).A) ((l2 0).n) ((l2 0).c), .slice ((l3 0).A) ((l3 0).n) ((l3 0).c)] (.one (.sc (.bool))) fun l4 => -- octroiref23_Same
        (.ite ((l1 0).b)
         (.ite ((l4 0).b)
          (.done (.bool (((l2 1).i : Int) == ((l3 1).i))))
          (.done (.bool false)))
         (.done (.bool false)))))))) h) : Fn Tryd.prog 3 #[.string a0] I h Q :=
  Wp.fn (args := [.string a0]) Tryd.func3 rfl (by kernel_rfl) (of_tree (cfg := g_octroilaw23_ScriptParses) 1000 (by kernel_rfl) Tryd.func3 rfl Tryd.checked.mixed hh)
theorem ca_octroilaw23_ScriptParses : callable Tryd.prog 3 := ⟨_, Tryd.func3, by kernel_rfl, by kernel_rfl⟩
/-! ### octroilaw23_ScriptBack: function 4 of Go -/
abbrev F_octroilaw23_ScriptBack : FuncId := 4
noncomputable def c_octroilaw23_ScriptBack : Code := (Tryd.f4.body).getD .skip
noncomputable def g_octroilaw23_ScriptBack : Cfg := { sh := shs, fsh := fshs, results := [.tmp 4], hint := fun _ _ => none, ord := fun _ => none, pre := fun _ => [], un := fun _ _ _ => false }
set_option maxRecDepth 100000 in
set_option maxHeartbeats 4000000 in
theorem r_octroilaw23_ScriptBack (Aa0 : Option Addr) (na0 : Nat) (ca0 : Nat) (a1 : ByteArray) {I : Ctx} {h : Mem} {Q : Value → Mem → Prop}
  (hh : holds Tryd.prog 4 I (cl_ Q)
   (.call 8 [] (.one (.sc (.bool))) fun l1 => -- octroilaw23_awake
    (.ite (!((l1 0).b))
     (.done (.bool ((l1 0).b)))
     (.ite (decide ((((na0 : Nat) : Int) : Int) > 1000))
      (.done (.bool ((l1 0).b)))
      (.ite (decide ((((a1.size : Nat) : Int) : Int) > 5000))
       (.done (.bool ((l1 0).b)))
       (.call 12 [.slice Aa0 na0 ca0] (.tup [(.sc (.str)), (.sc (.int .i64))]) fun l2 => -- script_Show
        (.ite (((l2 1).i : Int) == 0)
         (.call 9 [.string ((l2 0).s)] (.tup [(.sc (.sl)), (.sc (.int .i64))]) fun l3 => -- script_Parse
          (.call 11 [.slice Aa0 na0 ca0, .slice ((l3 0).A) ((l3 0).n) ((l3 0).c)] (.one (.sc (.bool))) fun l4 => -- octroiref23_Same
           (.ite (((l3 1).i : Int) != 0)
            (.done (.bool false))
            (.ite (!((l4 0).b))
             (.done (.bool false))
             (.call 9 [.string a1] (.tup [(.sc (.sl)), (.sc (.int .i64))]) fun l5 => -- script_Parse
              (.ite (((l5 1).i : Int) != 0)
               (.done (.bool (((((l5 0).n : Nat) : Int) : Int) == 0)))
               (.call 12 [.slice ((l5 0).A) ((l5 0).n) ((l5 0).c)] (.tup [(.sc (.str)), (.sc (.int .i64))]) fun l6 => -- script_Show
                (.ite (((l6 1).i : Int) == 0)
                 (.done (.bool (((l6 0).s).toList == a1.toList)))
                 (.done (.bool false))))))))))
         (.call 9 [.string a1] (.tup [(.sc (.sl)), (.sc (.int .i64))]) fun l7 => -- script_Parse
          (.ite (((l7 1).i : Int) != 0)
           (.done (.bool (((((l7 0).n : Nat) : Int) : Int) == 0)))
           (.call 12 [.slice ((l7 0).A) ((l7 0).n) ((l7 0).c)] (.tup [(.sc (.str)), (.sc (.int .i64))]) fun l8 => -- script_Show
            (.ite (((l8 1).i : Int) == 0)
             (.done (.bool (((l8 0).s).toList == a1.toList)))
             (.done (.bool false)))))))))))) h) : Fn Tryd.prog 4 #[.slice Aa0 na0 ca0, .string a1] I h Q :=
  Wp.fn (args := [.slice Aa0 na0 ca0, .string a1]) Tryd.func4 rfl (by kernel_rfl) (of_tree (cfg := g_octroilaw23_ScriptBack) 1000 (by kernel_rfl) Tryd.func4 rfl Tryd.checked.mixed hh)
theorem ca_octroilaw23_ScriptBack : callable Tryd.prog 4 := ⟨_, Tryd.func4, by kernel_rfl, by kernel_rfl⟩
/-! ### octroilaw23_ScriptJoins: function 5 of Go -/
abbrev F_octroilaw23_ScriptJoins : FuncId := 5
noncomputable def c_octroilaw23_ScriptJoins : Code := (Tryd.f5.body).getD .skip
noncomputable def g_octroilaw23_ScriptJoins : Cfg := { sh := shs, fsh := fshs, results := [.tmp 4], hint := fun r i => match r, i with | 8, 2 => some (true, .one (.sc (.str))) | _, _ => none, ord := fun _ => none, pre := fun _ => [], un := fun _ _ _ => false }
set_option maxRecDepth 100000 in
set_option maxHeartbeats 4000000 in
theorem r_octroilaw23_ScriptJoins (a0 : ByteArray) (a1 : ByteArray) {I : Ctx} {h : Mem} {Q : Value → Mem → Prop}
  (hh : holds Tryd.prog 5 I (cl_ Q)
   (.call 8 [] (.one (.sc (.bool))) fun l1 => -- octroilaw23_awake
    (.ite (!((l1 0).b))
     (.done (.bool ((l1 0).b)))
     (.ite (decide ((((a0.size : Nat) : Int) : Int) > 5000))
      (.done (.bool ((l1 0).b)))
      (.ite (decide ((((a1.size : Nat) : Int) : Int) > 5000))
       (.done (.bool ((l1 0).b)))
       (.call 9 [.string a0] (.tup [(.sc (.sl)), (.sc (.int .i64))]) fun l2 => -- script_Parse
        (.call 9 [.string a1] (.tup [(.sc (.sl)), (.sc (.int .i64))]) fun l3 => -- script_Parse
         (.ite (((l2 1).i : Int) != 0)
          (.done (.bool true))
          (.ite (((l3 1).i : Int) != 0)
           (.done (.bool true))
           (.ite (decide ((IntKind.wrap .i64 ((((l2 0).n : Nat) : Int) + (((l3 0).n : Nat) : Int)) : Int) > 1000))
            (.done (.bool true))
            (.rdn (binN .add 9 (.string a0) (.string a1)) (.one (.sc (.str))) fun l4 =>
             (.call 9 [.string ((l4 0).s)] (.tup [(.sc (.sl)), (.sc (.int .i64))]) fun l5 => -- script_Parse
              (.nx (builtin .append #[23, 23] 23 #[true, false] #[.slice none 0 0, .slice ((l2 0).A) ((l2 0).n) ((l2 0).c)]) (.one (.sc (.sl))) fun l6 =>
               (.nx (builtin .append #[23, 23] 23 #[false, false] #[.slice ((l6 0).A) ((l6 0).n) ((l6 0).c), .slice ((l3 0).A) ((l3 0).n) ((l3 0).c)]) (.one (.sc (.sl))) fun l7 =>
                (.call 11 [.slice ((l5 0).A) ((l5 0).n) ((l5 0).c), .slice ((l7 0).A) ((l7 0).n) ((l7 0).c)] (.one (.sc (.bool))) fun l8 => -- octroiref23_Same
                 (.ite (((l5 1).i : Int) == 0)
                  (.done (.bool ((l8 0).b)))
                  (.done (.bool false))))))))))))))))) h) : Fn Tryd.prog 5 #[.string a0, .string a1] I h Q :=
  Wp.fn (args := [.string a0, .string a1]) Tryd.func5 rfl (by kernel_rfl) (of_tree (cfg := g_octroilaw23_ScriptJoins) 1000 (by kernel_rfl) Tryd.func5 rfl Tryd.checked.mixed hh)
theorem ca_octroilaw23_ScriptJoins : callable Tryd.prog 5 := ⟨_, Tryd.func5, by kernel_rfl, by kernel_rfl⟩
/-! ### octroilaw23_ScriptLines: function 6 of Go -/
abbrev F_octroilaw23_ScriptLines : FuncId := 6
noncomputable def c_octroilaw23_ScriptLines : Code := (Tryd.f6.body).getD .skip
noncomputable def g_octroilaw23_ScriptLines : Cfg := { sh := shs, fsh := fshs, results := [.tmp 2], hint := fun _ _ => none, ord := fun _ => none, pre := fun _ => [], un := fun _ _ _ => false }
noncomputable def k_octroilaw23_ScriptLines_1 : List Item := [.code (bd (bd (sr (sl (sr (sr (sr (sr (sr (sr (sr c_octroilaw23_ScriptLines))))))))))), .inLoop (bd (bd (sr (sl (sr (sr (sr (sr (sr (sr (sr c_octroilaw23_ScriptLines))))))))))), .inBlock 0, .code (sr (sr (sr (sr (sr (sr (sr (sr c_octroilaw23_ScriptLines))))))))]
noncomputable def t_octroilaw23_ScriptLines_1 (Aa0 : Option Addr) (na0 : Nat) (ca0 : Nat) (y4 : ByteArray) (x6 : Int) (x7 : Int) (x8 : Int) (u : Nat → Value) : List Value := [.slice Aa0 na0 ca0, undef, (u 2), (u 3), .string y4, (u 5), .int .i64 x6, .int .i64 x7, .int .i64 x8, (u 9), (u 10), (u 11), (u 12), (u 13), (u 14), (u 15), (u 16), (u 17), (u 18), (u 19), (u 20), (u 21), (u 22), (u 23), (u 24), (u 25), (u 26), (u 27), (u 28), (u 29), (u 30), (u 31), (u 32), (u 33), (u 34), (u 35), (u 36), (u 37), (u 38), (u 39), (u 40), (u 41), (u 42), (u 43), (u 44), (u 45), (u 46), (u 47), (u 48), (u 49), (u 50), (u 51), (u 52), (u 53), (u 54), (u 55), (u 56), (u 57), (u 58), (u 59), (u 60), (u 61), (u 62), (u 63), (u 64), (u 65), (u 66), (u 67), (u 68), (u 69), (u 70)]
noncomputable def k_octroilaw23_ScriptLines_2 : List Item := [.code (bd (bd (sr (sl (sr (sr (sr (sr (sr (sr (sr (sr (sr c_octroilaw23_ScriptLines))))))))))))), .inLoop (bd (bd (sr (sl (sr (sr (sr (sr (sr (sr (sr (sr (sr c_octroilaw23_ScriptLines))))))))))))), .inBlock 2, .code (sr (sr (sr (sr (sr (sr (sr (sr (sr (sr c_octroilaw23_ScriptLines))))))))))]
noncomputable def t_octroilaw23_ScriptLines_2 (Aa0 : Option Addr) (na0 : Nat) (ca0 : Nat) (x6 : Int) (x7 : Int) (x9 : Int) (x10 : Int) (u : Nat → Value) : List Value := [.slice Aa0 na0 ca0, undef, (u 2), (u 3), (u 4), (u 5), .int .i64 x6, .int .i64 x7, (u 8), .int .i64 x9, .int .i64 x10, (u 11), (u 12), (u 13), (u 14), (u 15), (u 16), (u 17), (u 18), (u 19), (u 20), (u 21), (u 22), (u 23), (u 24), (u 25), (u 26), (u 27), (u 28), (u 29), (u 30), (u 31), (u 32), (u 33), (u 34), (u 35), (u 36), (u 37), (u 38), (u 39), (u 40), (u 41), (u 42), (u 43), (u 44), (u 45), (u 46), (u 47), (u 48), (u 49), (u 50), (u 51), (u 52), (u 53), (u 54), (u 55), (u 56), (u 57), (u 58), (u 59), (u 60), (u 61), (u 62), (u 63), (u 64), (u 65), (u 66), (u 67), (u 68), (u 69), (u 70)]
set_option maxRecDepth 100000 in
set_option maxHeartbeats 4000000 in
theorem r_octroilaw23_ScriptLines (Aa0 : Option Addr) (na0 : Nat) (ca0 : Nat) {I : Ctx} {h : Mem} {Q : Value → Mem → Prop}
  (hh : holds Tryd.prog 6 I (cl_ Q)
   (.call 8 [] (.one (.sc (.bool))) fun l1 => -- octroilaw23_awake
    (.ite (!((l1 0).b))
     (.done (.bool ((l1 0).b)))
     (.ite (decide ((((na0 : Nat) : Int) : Int) > 1000))
      (.done (.bool ((l1 0).b)))
      (.call 12 [.slice Aa0 na0 ca0] (.tup [(.sc (.str)), (.sc (.int .i64))]) fun l2 => -- script_Show
       (.ite (((l2 1).i : Int) != 0)
        (.done (.bool ((((((l2 0).s).size : Nat) : Int) : Int) == 0)))
        (.stop k_octroilaw23_ScriptLines_1 (t_octroilaw23_ScriptLines_1 Aa0 na0 ca0 ((l2 0).s) 0 0 0 (jl [(2, .bool false), (3, .bool ((l1 0).b)), (5, .int .i64 ((l2 1).i)), (9, undef), (10, undef), (11, .bool ((l1 0).b)), (12, .bool ((l1 0).b)), (13, .bool (!((l1 0).b))), (14, .bool false), (15, .slice Aa0 na0 ca0), (16, .int .i64 ((na0 : Nat) : Int)), (17, .bool (decide ((((na0 : Nat) : Int) : Int) > 1000))), (18, .bool (decide ((((na0 : Nat) : Int) : Int) > 1000))), (19, undef), (20, .tuple #[.string ((l2 0).s), .int .i64 ((l2 1).i)]), (21, .slice Aa0 na0 ca0), (22, .tuple #[.string ((l2 0).s), .int .i64 ((l2 1).i)]), (23, .string ((l2 0).s)), (24, .int .i64 ((l2 1).i)), (25, .int .i64 ((l2 1).i)), (26, .bool (((l2 1).i : Int) != 0)), (27, undef), (28, undef), (29, undef), (30, undef), (31, undef), (32, undef), (33, undef), (34, undef), (35, undef), (36, undef), (37, undef), (38, undef), (39, undef), (40, undef), (41, undef), (42, undef), (43, undef), (44, undef), (45, undef), (46, undef), (47, undef), (48, undef), (49, undef), (50, undef), (51, undef), (52, undef), (53, undef), (54, undef), (55, undef), (56, undef), (57, undef), (58, undef), (59, undef), (60, undef), (61, undef), (62, undef), (63, undef), (64, undef), (65, undef), (66, undef), (67, undef), (68, undef), (69, undef), (70, undef)])))))))) h) : Fn Tryd.prog 6 #[.slice Aa0 na0 ca0] I h Q :=
  Wp.fn (args := [.slice Aa0 na0 ca0]) Tryd.func6 rfl (by kernel_rfl) (of_tree (cfg := g_octroilaw23_ScriptLines) 1000 (by kernel_rfl) Tryd.func6 rfl Tryd.checked.mixed hh)
theorem ca_octroilaw23_ScriptLines : callable Tryd.prog 6 := ⟨_, Tryd.func6, by kernel_rfl, by kernel_rfl⟩
set_option maxRecDepth 100000 in
set_option maxHeartbeats 4000000 in
theorem r_octroilaw23_ScriptLines_1 (Aa0 : Option Addr) (na0 : Nat) (ca0 : Nat) (y4 : ByteArray) (x6 : Int) (x7 : Int) (x8 : Int) (u : Nat → Value) {I : Ctx} {h : Mem} {Q : Value → Mem → Prop}
  (hh : holds Tryd.prog 6 I Q
   (.ite (decide ((x8 : Int) < ((y4.size : Nat) : Int)))
    (.rd (Instr.index 9 (.string y4) (.int .i64 x8)) (.one (.sc (.int .u8))) fun l3 =>
     (.ite (((l3 0).i : Int) == 10)
      (.rd (Instr.index 9 (.string y4) (.int .i64 x8)) (.one (.sc (.int .u8))) fun l4 =>
       (.ite (((l4 0).i : Int) == 32)
        (.stop k_octroilaw23_ScriptLines_1 (t_octroilaw23_ScriptLines_1 Aa0 na0 ca0 y4 (IntKind.wrap .i64 (x6 + 1)) (IntKind.wrap .i64 (x7 + 1)) (IntKind.wrap .i64 (x8 + 1)) (jl [(2, (u 2)), (3, (u 3)), (5, (u 5)), (9, (u 9)), (10, (u 10)), (11, (u 11)), (12, (u 12)), (13, (u 13)), (14, (u 14)), (15, (u 15)), (16, (u 16)), (17, (u 17)), (18, (u 18)), (19, (u 19)), (20, (u 20)), (21, (u 21)), (22, (u 22)), (23, (u 23)), (24, (u 24)), (25, (u 25)), (26, (u 26)), (27, (u 27)), (28, (u 28)), (29, (u 29)), (30, .int .i64 x8), (31, .string y4), (32, .int .i64 ((y4.size : Nat) : Int)), (33, .bool (decide ((x8 : Int) < ((y4.size : Nat) : Int)))), (34, .int .i64 x8), (35, .int .i64 (IntKind.wrap .i64 (x8 + 1))), (36, .string y4), (37, .int .i64 x8), (38, .int .u8 ((l3 0).i)), (39, .bool (((l3 0).i : Int) == 10)), (40, .int .i64 x6), (41, .int .i64 (IntKind.wrap .i64 (x6 + 1))), (42, .string y4), (43, .int .i64 x8), (44, .int .u8 ((l4 0).i)), (45, .bool (((l4 0).i : Int) == 32)), (46, .int .i64 x7), (47, .int .i64 (IntKind.wrap .i64 (x7 + 1))), (48, (u 48)), (49, (u 49)), (50, (u 50)), (51, (u 51)), (52, (u 52)), (53, (u 53)), (54, (u 54)), (55, (u 55)), (56, (u 56)), (57, (u 57)), (58, (u 58)), (59, (u 59)), (60, (u 60)), (61, (u 61)), (62, (u 62)), (63, (u 63)), (64, (u 64)), (65, (u 65)), (66, (u 66)), (67, (u 67)), (68, (u 68)), (69, (u 69)), (70, (u 70))])))
        (.stop k_octroilaw23_ScriptLines_1 (t_octroilaw23_ScriptLines_1 Aa0 na0 ca0 y4 (IntKind.wrap .i64 (x6 + 1)) x7 (IntKind.wrap .i64 (x8 + 1)) (jl [(2, (u 2)), (3, (u 3)), (5, (u 5)), (9, (u 9)), (10, (u 10)), (11, (u 11)), (12, (u 12)), (13, (u 13)), (14, (u 14)), (15, (u 15)), (16, (u 16)), (17, (u 17)), (18, (u 18)), (19, (u 19)), (20, (u 20)), (21, (u 21)), (22, (u 22)), (23, (u 23)), (24, (u 24)), (25, (u 25)), (26, (u 26)), (27, (u 27)), (28, (u 28)), (29, (u 29)), (30, .int .i64 x8), (31, .string y4), (32, .int .i64 ((y4.size : Nat) : Int)), (33, .bool (decide ((x8 : Int) < ((y4.size : Nat) : Int)))), (34, .int .i64 x8), (35, .int .i64 (IntKind.wrap .i64 (x8 + 1))), (36, .string y4), (37, .int .i64 x8), (38, .int .u8 ((l3 0).i)), (39, .bool (((l3 0).i : Int) == 10)), (40, .int .i64 x6), (41, .int .i64 (IntKind.wrap .i64 (x6 + 1))), (42, .string y4), (43, .int .i64 x8), (44, .int .u8 ((l4 0).i)), (45, .bool (((l4 0).i : Int) == 32)), (46, (u 46)), (47, (u 47)), (48, (u 48)), (49, (u 49)), (50, (u 50)), (51, (u 51)), (52, (u 52)), (53, (u 53)), (54, (u 54)), (55, (u 55)), (56, (u 56)), (57, (u 57)), (58, (u 58)), (59, (u 59)), (60, (u 60)), (61, (u 61)), (62, (u 62)), (63, (u 63)), (64, (u 64)), (65, (u 65)), (66, (u 66)), (67, (u 67)), (68, (u 68)), (69, (u 69)), (70, (u 70))])))))
      (.rd (Instr.index 9 (.string y4) (.int .i64 x8)) (.one (.sc (.int .u8))) fun l5 =>
       (.ite (((l5 0).i : Int) == 32)
        (.stop k_octroilaw23_ScriptLines_1 (t_octroilaw23_ScriptLines_1 Aa0 na0 ca0 y4 x6 (IntKind.wrap .i64 (x7 + 1)) (IntKind.wrap .i64 (x8 + 1)) (jl [(2, (u 2)), (3, (u 3)), (5, (u 5)), (9, (u 9)), (10, (u 10)), (11, (u 11)), (12, (u 12)), (13, (u 13)), (14, (u 14)), (15, (u 15)), (16, (u 16)), (17, (u 17)), (18, (u 18)), (19, (u 19)), (20, (u 20)), (21, (u 21)), (22, (u 22)), (23, (u 23)), (24, (u 24)), (25, (u 25)), (26, (u 26)), (27, (u 27)), (28, (u 28)), (29, (u 29)), (30, .int .i64 x8), (31, .string y4), (32, .int .i64 ((y4.size : Nat) : Int)), (33, .bool (decide ((x8 : Int) < ((y4.size : Nat) : Int)))), (34, .int .i64 x8), (35, .int .i64 (IntKind.wrap .i64 (x8 + 1))), (36, .string y4), (37, .int .i64 x8), (38, .int .u8 ((l3 0).i)), (39, .bool (((l3 0).i : Int) == 10)), (40, (u 40)), (41, (u 41)), (42, .string y4), (43, .int .i64 x8), (44, .int .u8 ((l5 0).i)), (45, .bool (((l5 0).i : Int) == 32)), (46, .int .i64 x7), (47, .int .i64 (IntKind.wrap .i64 (x7 + 1))), (48, (u 48)), (49, (u 49)), (50, (u 50)), (51, (u 51)), (52, (u 52)), (53, (u 53)), (54, (u 54)), (55, (u 55)), (56, (u 56)), (57, (u 57)), (58, (u 58)), (59, (u 59)), (60, (u 60)), (61, (u 61)), (62, (u 62)), (63, (u 63)), (64, (u 64)), (65, (u 65)), (66, (u 66)), (67, (u 67)), (68, (u 68)), (69, (u 69)), (70, (u 70))])))
        (.stop k_octroilaw23_ScriptLines_1 (t_octroilaw23_ScriptLines_1 Aa0 na0 ca0 y4 x6 x7 (IntKind.wrap .i64 (x8 + 1)) (jl [(2, (u 2)), (3, (u 3)), (5, (u 5)), (9, (u 9)), (10, (u 10)), (11, (u 11)), (12, (u 12)), (13, (u 13)), (14, (u 14)), (15, (u 15)), (16, (u 16)), (17, (u 17)), (18, (u 18)), (19, (u 19)), (20, (u 20)), (21, (u 21)), (22, (u 22)), (23, (u 23)), (24, (u 24)), (25, (u 25)), (26, (u 26)), (27, (u 27)), (28, (u 28)), (29, (u 29)), (30, .int .i64 x8), (31, .string y4), (32, .int .i64 ((y4.size : Nat) : Int)), (33, .bool (decide ((x8 : Int) < ((y4.size : Nat) : Int)))), (34, .int .i64 x8), (35, .int .i64 (IntKind.wrap .i64 (x8 + 1))), (36, .string y4), (37, .int .i64 x8), (38, .int .u8 ((l3 0).i)), (39, .bool (((l3 0).i : Int) == 10)), (40, (u 40)), (41, (u 41)), (42, .string y4), (43, .int .i64 x8), (44, .int .u8 ((l5 0).i)), (45, .bool (((l5 0).i : Int) == 32)), (46, (u 46)), (47, (u 47)), (48, (u 48)), (49, (u 49)), (50, (u 50)), (51, (u 51)), (52, (u 52)), (53, (u 53)), (54, (u 54)), (55, (u 55)), (56, (u 56)), (57, (u 57)), (58, (u 58)), (59, (u 59)), (60, (u 60)), (61, (u 61)), (62, (u 62)), (63, (u 63)), (64, (u 64)), (65, (u 65)), (66, (u 66)), (67, (u 67)), (68, (u 68)), (69, (u 69)), (70, (u 70))])))))))
    (.stop k_octroilaw23_ScriptLines_2 (t_octroilaw23_ScriptLines_2 Aa0 na0 ca0 x6 x7 0 0 (jl [(2, (u 2)), (3, (u 3)), (4, .string y4), (5, (u 5)), (8, .int .i64 x8), (11, (u 11)), (12, (u 12)), (13, (u 13)), (14, (u 14)), (15, (u 15)), (16, (u 16)), (17, (u 17)), (18, (u 18)), (19, (u 19)), (20, (u 20)), (21, (u 21)), (22, (u 22)), (23, (u 23)), (24, (u 24)), (25, (u 25)), (26, (u 26)), (27, (u 27)), (28, (u 28)), (29, (u 29)), (30, .int .i64 x8), (31, .string y4), (32, .int .i64 ((y4.size : Nat) : Int)), (33, .bool (decide ((x8 : Int) < ((y4.size : Nat) : Int)))), (34, (u 34)), (35, (u 35)), (36, (u 36)), (37, (u 37)), (38, (u 38)), (39, (u 39)), (40, (u 40)), (41, (u 41)), (42, (u 42)), (43, (u 43)), (44, (u 44)), (45, (u 45)), (46, (u 46)), (47, (u 47)), (48, (u 48)), (49, (u 49)), (50, (u 50)), (51, (u 51)), (52, (u 52)), (53, (u 53)), (54, (u 54)), (55, (u 55)), (56, (u 56)), (57, (u 57)), (58, (u 58)), (59, (u 59)), (60, (u 60)), (61, (u 61)), (62, (u 62)), (63, (u 63)), (64, (u 64)), (65, (u 65)), (66, (u 66)), (67, (u 67)), (68, (u 68)), (69, (u 69)), (70, (u 70))])))) h) : Wp Tryd.prog 6 k_octroilaw23_ScriptLines_1 (t_octroilaw23_ScriptLines_1 Aa0 na0 ca0 y4 x6 x7 x8 u) I h Q :=
  of_tree (cfg := g_octroilaw23_ScriptLines) 1000 (by kernel_rfl) Tryd.func6 rfl Tryd.checked.mixed hh
set_option maxRecDepth 100000 in
set_option maxHeartbeats 4000000 in
theorem r_octroilaw23_ScriptLines_2 (Aa0 : Option Addr) (na0 : Nat) (ca0 : Nat) (x6 : Int) (x7 : Int) (x9 : Int) (x10 : Int) (u : Nat → Value) {I : Ctx} {h : Mem} {Q : Value → Mem → Prop}
  (hh : holds Tryd.prog 6 I Q
   (.ite (decide ((x10 : Int) < ((na0 : Nat) : Int)))
    (.rd (Instr.indexAt 23 (.slice Aa0 na0 ca0) (.int .i64 x10)) (.one (.sc (.padr))) fun l6 =>
     (.rd (Instr.loadAt 3 (.pointer (some ((l6 0).a)))) (.one (.sc (.int .i64))) fun l7 =>
      (.call 13 [.int .i64 ((l7 0).i)] (.one (.sc (.int .i64))) fun l8 => -- script_Numbers
       (.stop k_octroilaw23_ScriptLines_2 (t_octroilaw23_ScriptLines_2 Aa0 na0 ca0 x6 x7 (IntKind.wrap .i64 (x9 + ((l8 0).i))) (IntKind.wrap .i64 (x10 + 1)) (jl [(2, (u 2)), (3, (u 3)), (4, (u 4)), (5, (u 5)), (8, (u 8)), (11, (u 11)), (12, (u 12)), (13, (u 13)), (14, (u 14)), (15, (u 15)), (16, (u 16)), (17, (u 17)), (18, (u 18)), (19, (u 19)), (20, (u 20)), (21, (u 21)), (22, (u 22)), (23, (u 23)), (24, (u 24)), (25, (u 25)), (26, (u 26)), (27, (u 27)), (28, (u 28)), (29, (u 29)), (30, (u 30)), (31, (u 31)), (32, (u 32)), (33, (u 33)), (34, (u 34)), (35, (u 35)), (36, (u 36)), (37, (u 37)), (38, (u 38)), (39, (u 39)), (40, (u 40)), (41, (u 41)), (42, (u 42)), (43, (u 43)), (44, (u 44)), (45, (u 45)), (46, (u 46)), (47, (u 47)), (48, .int .i64 x10), (49, .slice Aa0 na0 ca0), (50, .int .i64 ((na0 : Nat) : Int)), (51, .bool (decide ((x10 : Int) < ((na0 : Nat) : Int)))), (52, .int .i64 x10), (53, .int .i64 (IntKind.wrap .i64 (x10 + 1))), (54, .int .i64 x9), (55, .slice Aa0 na0 ca0), (56, .int .i64 x10), (57, .pointer (some ((l6 0).a))), (58, .pointer (some ((l6 0).a))), (59, .int .i64 ((l7 0).i)), (60, .int .i64 ((l8 0).i)), (61, .int .i64 (IntKind.wrap .i64 (x9 + ((l8 0).i)))), (62, (u 62)), (63, (u 63)), (64, (u 64)), (65, (u 65)), (66, (u 66)), (67, (u 67)), (68, (u 68)), (69, (u 69)), (70, (u 70))]))))))
    (.ite ((x6 : Int) == ((na0 : Nat) : Int))
     (.done (.bool ((x7 : Int) == x9)))
     (.done (.bool false)))) h) : Wp Tryd.prog 6 k_octroilaw23_ScriptLines_2 (t_octroilaw23_ScriptLines_2 Aa0 na0 ca0 x6 x7 x9 x10 u) I h Q :=
  of_tree (cfg := g_octroilaw23_ScriptLines) 1000 (by kernel_rfl) Tryd.func6 rfl Tryd.checked.mixed hh
/-! ### octroilaw23_ScriptShows: function 7 of Go -/
abbrev F_octroilaw23_ScriptShows : FuncId := 7
noncomputable def c_octroilaw23_ScriptShows : Code := (Tryd.f7.body).getD .skip
noncomputable def g_octroilaw23_ScriptShows : Cfg := { sh := shs, fsh := fshs, results := [.tmp 4], hint := fun _ _ => none, ord := fun _ => none, pre := fun _ => [], un := fun _ _ _ => false }
set_option maxRecDepth 100000 in
set_option maxHeartbeats 4000000 in
theorem r_octroilaw23_ScriptShows (Aa0 : Option Addr) (na0 : Nat) (ca0 : Nat) (a1 : Int) {I : Ctx} {h : Mem} {Q : Value → Mem → Prop}
  (hh : holds Tryd.prog 7 I (cl_ Q)
   (.call 8 [] (.one (.sc (.bool))) fun l1 => -- octroilaw23_awake
    (.ite (decide ((((na0 : Nat) : Int) : Int) > 1200))
     (.done (.bool ((l1 0).b)))
     (.call 12 [.slice Aa0 na0 ca0] (.tup [(.sc (.str)), (.sc (.int .i64))]) fun l2 => -- script_Show
      (.call 14 [.slice Aa0 na0 ca0] (.tup [(.sc (.str)), (.sc (.int .i64))]) fun l3 => -- octroiref23_Show
       (.ite ((l1 0).b)
        (.ite (((l2 0).s).toList == ((l3 0).s).toList)
         (.ite (((l2 1).i : Int) == ((l3 1).i))
          (.call 15 [.int .i64 a1] (.one (.sc (.str))) fun l4 => -- script_Word
           (.call 16 [.int .i64 a1] (.one (.sc (.str))) fun l5 => -- octroiref23_Word
            (.ite (((l4 0).s).toList == ((l5 0).s).toList)
             (.call 13 [.int .i64 a1] (.one (.sc (.int .i64))) fun l6 => -- script_Numbers
              (.call 17 [.int .i64 a1] (.one (.sc (.int .i64))) fun l7 => -- octroiref23_Numbers
               (.done (.bool (((l6 0).i : Int) == ((l7 0).i))))))
             (.done (.bool false)))))
          (.done (.bool false)))
         (.done (.bool false)))
        (.done (.bool false))))))) h) : Fn Tryd.prog 7 #[.slice Aa0 na0 ca0, .int .i64 a1] I h Q :=
  Wp.fn (args := [.slice Aa0 na0 ca0, .int .i64 a1]) Tryd.func7 rfl (by kernel_rfl) (of_tree (cfg := g_octroilaw23_ScriptShows) 1000 (by kernel_rfl) Tryd.func7 rfl Tryd.checked.mixed hh)
theorem ca_octroilaw23_ScriptShows : callable Tryd.prog 7 := ⟨_, Tryd.func7, by kernel_rfl, by kernel_rfl⟩
/-! ### octroilaw23_awake: function 8 of Go -/
abbrev F_octroilaw23_awake : FuncId := 8
noncomputable def c_octroilaw23_awake : Code := (Tryd.f8.body).getD .skip
noncomputable def g_octroilaw23_awake : Cfg := { sh := shs, fsh := fshs, results := [.tmp 0], hint := fun _ _ => none, ord := fun _ => none, pre := fun _ => [], un := fun _ _ _ => false }
set_option maxRecDepth 100000 in
set_option maxHeartbeats 4000000 in
theorem r_octroilaw23_awake  {I : Ctx} {h : Mem} {Q : Value → Mem → Prop}
  (hh : holds Tryd.prog 8 I (cl_ Q)
   (.sem (Instr.buildSlice 23 2 #[(0, .agg #[.int .i64 0, .int .i64 3, .int .i64 30, .int .i64 0]), (1, .agg #[.int .i64 6, .int .i64 1, .int .i64 0, .int .i64 5])]) (.one (.sc (.row 2))) fun l1 =>
    (.call 12 [.slice (some ⟨(l1 0).n, 0, none⟩) 2 2] (.tup [(.sc (.str)), (.sc (.int .i64))]) fun l2 => -- script_Show
     (.call 9 [.string (ByteArray.mk #[116, 105, 99, 107, 32, 51, 10])] (.tup [(.sc (.sl)), (.sc (.int .i64))]) fun l3 => -- script_Parse
      (.ite (((l2 1).i : Int) == 0)
       (.ite (((l2 0).s).toList == (ByteArray.mk #[116, 105, 99, 107, 32, 51, 32, 51, 48, 10, 111, 119, 110, 32, 49, 32, 48, 32, 53, 10]).toList)
        (.done (.bool (((l3 1).i : Int) == 2)))
        (.done (.bool false)))
       (.done (.bool false)))))) h) : Fn Tryd.prog 8 #[] I h Q :=
  Wp.fn (args := []) Tryd.func8 rfl (by kernel_rfl) (of_tree (cfg := g_octroilaw23_awake) 1000 (by kernel_rfl) Tryd.func8 rfl Tryd.checked.mixed hh)
theorem ca_octroilaw23_awake : callable Tryd.prog 8 := ⟨_, Tryd.func8, by kernel_rfl, by kernel_rfl⟩
/-! ### script_Parse: function 9 of Go -/
abbrev F_script_Parse : FuncId := 9
noncomputable def c_script_Parse : Code := (Tryd.f9.body).getD .skip
noncomputable def g_script_Parse : Cfg := { sh := shs, fsh := fshs, results := [.cell 2 23, .cell 3 24], hint := fun _ _ => none, ord := fun _ => none, pre := fun _ => [], un := fun _ _ _ => false }
noncomputable def k_script_Parse_1 : List Item := [.code (bd (sr (sl (sr (sr (sr c_script_Parse)))))), .inBlock 0, .code (sr (sr (sr (sr c_script_Parse))))]
noncomputable def t_script_Parse_1 (y2 : Nat) (y3 : Nat) (y4 : Nat) (y12 : Value) (u : Nat → Value) : List Value := [(u 0), undef, .pointer (some ⟨y2, 0, none⟩), .pointer (some ⟨y3, 0, none⟩), .pointer (some ⟨y4, 0, none⟩), (u 5), (u 6), (u 7), (u 8), (u 9), (u 10), (u 11), y12, undef, (u 14), (u 15), (u 16), (u 17), (u 18), (u 19), (u 20), (u 21), (u 22), (u 23), (u 24), (u 25)]
noncomputable def k_script_Parse_2 : List Item := [.code (ra (bd (sr (sl (sr (sr (sr c_script_Parse))))))), .beginRound, .code (rb (bd (sr (sl (sr (sr (sr c_script_Parse)))))))]
noncomputable def t_script_Parse_2 (y2 : Nat) (y3 : Nat) (y4 : Nat) (v13 : ByteArray) (u : Nat → Value) : List Value := [(u 0), undef, .pointer (some ⟨y2, 0, none⟩), .pointer (some ⟨y3, 0, none⟩), .pointer (some ⟨y4, 0, none⟩), (u 5), (u 6), (u 7), (u 8), (u 9), (u 10), (u 11), (u 12), .string v13, (u 14), (u 15), (u 16), (u 17), (u 18), (u 19), (u 20), (u 21), (u 22), (u 23), (u 24), (u 25)]
noncomputable def k_script_Parse_3 : List Item := [.inBlock 0, .code (sr (sr (sr (sr c_script_Parse))))]
noncomputable def t_script_Parse_3 (y2 : Nat) (y3 : Nat) (y4 : Nat) (u : Nat → Value) : List Value := [(u 0), undef, .pointer (some ⟨y2, 0, none⟩), .pointer (some ⟨y3, 0, none⟩), .pointer (some ⟨y4, 0, none⟩), (u 5), (u 6), (u 7), (u 8), (u 9), (u 10), (u 11), (u 12), undef, (u 14), (u 15), (u 16), (u 17), (u 18), (u 19), (u 20), (u 21), (u 22), (u 23), (u 24), (u 25)]
noncomputable def k_script_Parse_4 : List Item := [.beginRound, .code (rb (bd (sr (sl (sr (sr (sr c_script_Parse)))))))]
noncomputable def t_script_Parse_4 (y2 : Nat) (y3 : Nat) (y4 : Nat) (v13 : ByteArray) (u : Nat → Value) : List Value := [(u 0), undef, .pointer (some ⟨y2, 0, none⟩), .pointer (some ⟨y3, 0, none⟩), .pointer (some ⟨y4, 0, none⟩), .string v13, (u 6), (u 7), (u 8), (u 9), (u 10), (u 11), (u 12), .string v13, (u 14), (u 15), (u 16), (u 17), (u 18), (u 19), (u 20), (u 21), (u 22), (u 23), (u 24), (u 25)]
noncomputable def k_script_Parse_5 : List Item := [.code (sr (sr (sr (sr (sr c_script_Parse)))))]
noncomputable def t_script_Parse_5 (y2 : Nat) (y3 : Nat) (u : Nat → Value) : List Value := [(u 0), undef, .pointer (some ⟨y2, 0, none⟩), .pointer (some ⟨y3, 0, none⟩), (u 4), (u 5), (u 6), (u 7), (u 8), (u 9), (u 10), (u 11), (u 12), undef, (u 14), (u 15), (u 16), (u 17), (u 18), (u 19), (u 20), (u 21), (u 22), (u 23), (u 24), (u 25)]
noncomputable def k_script_Parse_6 : List Item := [.code (rb (bd (sr (sl (sr (sr (sr c_script_Parse)))))))]
noncomputable def t_script_Parse_6 (y2 : Nat) (y3 : Nat) (y4 : Nat) (v13 : ByteArray) (u : Nat → Value) : List Value := [(u 0), undef, .pointer (some ⟨y2, 0, none⟩), .pointer (some ⟨y3, 0, none⟩), .pointer (some ⟨y4, 0, none⟩), .string v13, (u 6), (u 7), (u 8), (u 9), (u 10), (u 11), (u 12), .string v13, (u 14), (u 15), (u 16), (u 17), (u 18), (u 19), (u 20), (u 21), (u 22), (u 23), (u 24), (u 25)]
noncomputable def k_script_Parse_7 : List Item := [.code (sr (ct (sr (sl (sr (bd (rb (bd (sr (sl (sr (sr (sr c_script_Parse))))))))))))), .code (sr (sr (bd (rb (bd (sr (sl (sr (sr (sr c_script_Parse)))))))))), .inBlock 1]
noncomputable def t_script_Parse_7 (y2 : Nat) (y3 : Nat) (v13 : ByteArray) (u : Nat → Value) : List Value := [(u 0), undef, .pointer (some ⟨y2, 0, none⟩), .pointer (some ⟨y3, 0, none⟩), (u 4), (u 5), (u 6), (u 7), (u 8), (u 9), (u 10), (u 11), (u 12), .string v13, (u 14), (u 15), (u 16), (u 17), (u 18), (u 19), (u 20), (u 21), (u 22), (u 23), (u 24), (u 25)]
noncomputable def k_script_Parse_8 : List Item := []
noncomputable def t_script_Parse_8 (y2 : Nat) (y3 : Nat) (v13 : ByteArray) (u : Nat → Value) : List Value := [(u 0), undef, .pointer (some ⟨y2, 0, none⟩), .pointer (some ⟨y3, 0, none⟩), (u 4), (u 5), (u 6), (u 7), (u 8), (u 9), (u 10), (u 11), (u 12), .string v13, (u 14), (u 15), (u 16), (u 17), (u 18), (u 19), (u 20), (u 21), (u 22), (u 23), (u 24), (u 25)]
set_option maxRecDepth 100000 in
set_option maxHeartbeats 4000000 in
theorem r_script_Parse (a0 : ByteArray) {I : Ctx} {h : Mem} {Q : Value → Mem → Prop}
  (hh : holds Tryd.prog 9 I (cl_ Q)
   (.sem (Instr.alloc 23 true (.tuple #[])) shBlk fun l1 =>
    (.sem (Instr.alloc 24 true (.tuple #[])) shBlk fun l2 =>
     (.call 18 [.string a0, .string (ByteArray.mk #[10])] (.one (.sc (.int .i64))) fun l3 => -- strings_Count
      (.ite (decide (((l3 0).i : Int) > 1000))
       (.unit (Instr.storeAt 23 (.pointer (some ⟨(l1 0).n, 0, none⟩)) (.slice none 0 0))
        (.unit (Instr.storeAt 24 (.pointer (some ⟨(l2 0).n, 0, none⟩)) (.int .i64 9))
         (.rd (loadVar 23 ⟨(l1 0).n, 0, none⟩) (.one (.sc (.sl))) fun l4 =>
          (.rd (loadVar 24 ⟨(l2 0).n, 0, none⟩) (.one (.sc (.int .i64))) fun l5 =>
           (.done (.tuple #[.slice ((l4 0).A) ((l4 0).n) ((l4 0).c), .int .i64 ((l5 0).i)]))))))
       (.sem (Instr.alloc 23 true (.tuple #[])) shBlk fun l6 =>
        (.call 19 [.string a0] (.one (.sc (.v))) fun l7 => -- strings_Lines
         (.stop k_script_Parse_1 (t_script_Parse_1 ((l1 0).n) ((l2 0).n) ((l6 0).n) ((l7 0).v) (jl [(0, .string a0), (5, undef), (6, undef), (7, undef), (8, .string a0), (9, .int .i64 ((l3 0).i)), (10, .bool (decide (((l3 0).i : Int) > 1000))), (11, .string a0), (14, undef), (15, undef), (16, undef), (17, undef), (18, undef), (19, undef), (20, undef), (21, undef), (22, undef), (23, undef), (24, undef), (25, undef)]))))))))) h) : Fn Tryd.prog 9 #[.string a0] I h Q :=
  Wp.fn (args := [.string a0]) Tryd.func9 rfl (by kernel_rfl) (of_tree (cfg := g_script_Parse) 1000 (by kernel_rfl) Tryd.func9 rfl Tryd.checked.mixed hh)
theorem ca_script_Parse : callable Tryd.prog 9 := ⟨_, Tryd.func9, by kernel_rfl, by kernel_rfl⟩
set_option maxRecDepth 100000 in
set_option maxHeartbeats 4000000 in
theorem r_script_Parse_2 (y2 : Nat) (y3 : Nat) (y4 : Nat) (v13 : ByteArray) (u : Nat → Value) {rd : Option Nat} {ds : List Deferred} {I : Ctx} {h : Mem} {Q : Value → Mem → Prop}
  (hh : holds Tryd.prog { fn := 9, rd := rd, ds := ds } I Q
   (.stop k_script_Parse_4 (t_script_Parse_4 y2 y3 y4 v13 (jl [(0, (u 0)), (6, (u 6)), (7, (u 7)), (8, (u 8)), (9, (u 9)), (10, (u 10)), (11, (u 11)), (12, (u 12)), (14, (u 14)), (15, (u 15)), (16, (u 16)), (17, (u 17)), (18, (u 18)), (19, (u 19)), (20, (u 20)), (21, (u 21)), (22, (u 22)), (23, (u 23)), (24, (u 24)), (25, (u 25))]))) h) : Wp Tryd.prog { fn := 9, rd := rd, ds := ds } k_script_Parse_2 (t_script_Parse_2 y2 y3 y4 v13 u) I h Q :=
  of_tree' (cfg := { g_script_Parse with stopRet := true }) (.inl rfl) 1000 (by kernel_rfl) Tryd.func9 rfl Tryd.checked.mixed hh
set_option maxRecDepth 100000 in
set_option maxHeartbeats 4000000 in
theorem r_script_Parse_3 (y2 : Nat) (y3 : Nat) (y4 : Nat) (u : Nat → Value) {rd : Option Nat} {ds : List Deferred} {I : Ctx} {h : Mem} {Q : Value → Mem → Prop}
  (hh : holds Tryd.prog { fn := 9, rd := rd, ds := ds } I Q
   (.rd (Instr.loadAt 23 (.pointer (some ⟨y4, 0, none⟩))) (.one (.sc (.sl))) fun l8 =>
    (.unit (Instr.storeAt 23 (.pointer (some ⟨y2, 0, none⟩)) (.slice ((l8 0).A) ((l8 0).n) ((l8 0).c)))
     (.unit (Instr.storeAt 24 (.pointer (some ⟨y3, 0, none⟩)) (.int .i64 0))
      (.stop k_script_Parse_5 (t_script_Parse_5 y2 y3 (jl [(0, (u 0)), (4, .pointer (some ⟨y4, 0, none⟩)), (5, (u 5)), (6, (u 6)), (7, (u 7)), (8, (u 8)), (9, (u 9)), (10, (u 10)), (11, (u 11)), (12, (u 12)), (14, (u 14)), (15, (u 15)), (16, (u 16)), (17, (u 17)), (18, (u 18)), (19, (u 19)), (20, (u 20)), (21, (u 21)), (22, (u 22)), (23, (u 23)), (24, (u 24)), (25, .slice ((l8 0).A) ((l8 0).n) ((l8 0).c))])))))) h) : Wp Tryd.prog { fn := 9, rd := rd, ds := ds } k_script_Parse_3 (t_script_Parse_3 y2 y3 y4 u) I h Q :=
  of_tree' (cfg := { g_script_Parse with stopRet := true }) (.inl rfl) 1000 (by kernel_rfl) Tryd.func9 rfl Tryd.checked.mixed hh
set_option maxRecDepth 100000 in
set_option maxHeartbeats 4000000 in
theorem r_script_Parse_6 (y2 : Nat) (y3 : Nat) (y4 : Nat) (v13 : ByteArray) (u : Nat → Value) {rd : Option Nat} {ds : List Deferred} {I : Ctx} {h : Mem} {Q : Value → Mem → Prop}
  (hh : holds Tryd.prog { fn := 9, rd := rd, ds := ds } I Q
   (.call 20 [.string v13] (.tup [.agg [.int .i64, .int .i64, .int .i64, .int .i64], (.sc (.bool))]) fun l9 => -- script_read
    (.sem (Instr.alloc 35 true (.tuple #[])) shBlk fun l10 =>
     (.unit (Instr.storeAt 35 (.pointer (some ⟨(l10 0).n, 0, none⟩)) (.agg #[.int .i64 ((l9 0).i), .int .i64 ((l9 1).i), .int .i64 ((l9 2).i), .int .i64 ((l9 3).i)]))
      (.ite (!((l9 4).b))
       (.unit (Instr.storeAt 23 (.pointer (some ⟨y2, 0, none⟩)) (.slice none 0 0))
        (.unit (Instr.storeAt 24 (.pointer (some ⟨y3, 0, none⟩)) (.int .i64 2))
         (.stop k_script_Parse_7 (t_script_Parse_7 y2 y3 v13 (jl [(0, (u 0)), (4, .pointer (some ⟨y4, 0, none⟩)), (5, .string v13), (6, .pointer (some ⟨(l10 0).n, 0, none⟩)), (7, .bool ((l9 4).b)), (8, (u 8)), (9, (u 9)), (10, (u 10)), (11, (u 11)), (12, (u 12)), (14, .tuple #[.agg #[.int .i64 ((l9 0).i), .int .i64 ((l9 1).i), .int .i64 ((l9 2).i), .int .i64 ((l9 3).i)], .bool ((l9 4).b)]), (15, .string v13), (16, .tuple #[.agg #[.int .i64 ((l9 0).i), .int .i64 ((l9 1).i), .int .i64 ((l9 2).i), .int .i64 ((l9 3).i)], .bool ((l9 4).b)]), (17, .agg #[.int .i64 ((l9 0).i), .int .i64 ((l9 1).i), .int .i64 ((l9 2).i), .int .i64 ((l9 3).i)]), (18, .bool ((l9 4).b)), (19, .bool ((l9 4).b)), (20, .bool (!((l9 4).b))), (21, (u 21)), (22, (u 22)), (23, (u 23)), (24, (u 24)), (25, (u 25))])))))
       (.rd (Instr.loadAt 23 (.pointer (some ⟨y4, 0, none⟩))) (.one (.sc (.sl))) fun l11 =>
        (.rd (Instr.loadAt 35 (.pointer (some ⟨(l10 0).n, 0, none⟩))) (.one (.agg [.int .i64, .int .i64, .int .i64, .int .i64])) fun l12 =>
         (.sem (Instr.buildSlice 23 1 #[(0, .agg #[.int .i64 ((l12 0).i), .int .i64 ((l12 1).i), .int .i64 ((l12 2).i), .int .i64 ((l12 3).i)])]) (.one (.sc (.row 1))) fun l13 =>
          (.nx (builtin .append #[23, 23] 23 #[false, false] #[.slice ((l11 0).A) ((l11 0).n) ((l11 0).c), .slice (some ⟨(l13 0).n, 0, none⟩) 1 1]) (.one (.sc (.sl))) fun l14 =>
           (.unit (Instr.storeAt 23 (.pointer (some ⟨y4, 0, none⟩)) (.slice ((l14 0).A) ((l14 0).n) ((l14 0).c)))
            (.stop k_script_Parse_8 (t_script_Parse_8 y2 y3 v13 (jl [(0, (u 0)), (4, .pointer (some ⟨y4, 0, none⟩)), (5, .string v13), (6, .pointer (some ⟨(l10 0).n, 0, none⟩)), (7, .bool ((l9 4).b)), (8, (u 8)), (9, (u 9)), (10, (u 10)), (11, (u 11)), (12, (u 12)), (14, .tuple #[.agg #[.int .i64 ((l9 0).i), .int .i64 ((l9 1).i), .int .i64 ((l9 2).i), .int .i64 ((l9 3).i)], .bool ((l9 4).b)]), (15, .string v13), (16, .tuple #[.agg #[.int .i64 ((l9 0).i), .int .i64 ((l9 1).i), .int .i64 ((l9 2).i), .int .i64 ((l9 3).i)], .bool ((l9 4).b)]), (17, .agg #[.int .i64 ((l9 0).i), .int .i64 ((l9 1).i), .int .i64 ((l9 2).i), .int .i64 ((l9 3).i)]), (18, .bool ((l9 4).b)), (19, .bool ((l9 4).b)), (20, .bool (!((l9 4).b))), (21, .slice ((l11 0).A) ((l11 0).n) ((l11 0).c)), (22, .agg #[.int .i64 ((l12 0).i), .int .i64 ((l12 1).i), .int .i64 ((l12 2).i), .int .i64 ((l12 3).i)]), (23, .slice (some ⟨(l13 0).n, 0, none⟩) 1 1), (24, .slice ((l14 0).A) ((l14 0).n) ((l14 0).c)), (25, (u 25))])))))))))))) h) : Wp Tryd.prog { fn := 9, rd := rd, ds := ds } k_script_Parse_6 (t_script_Parse_6 y2 y3 y4 v13 u) I h Q :=
  of_tree' (cfg := { g_script_Parse with stopRet := true }) (.inl rfl) 1000 (by kernel_rfl) Tryd.func9 rfl Tryd.checked.mixed hh
/-! ### octroiref23_Parse: function 10 of Go -/
abbrev F_octroiref23_Parse : FuncId := 10
noncomputable def c_octroiref23_Parse : Code := (Tryd.f10.body).getD .skip
noncomputable def g_octroiref23_Parse : Cfg := { sh := shs, fsh := fshs, results := [.tmp 2, .tmp 3], hint := fun _ _ => none, ord := fun _ => none, pre := fun _ => [], un := fun _ _ _ => false }
noncomputable def k_octroiref23_Parse_1 : List Item := [.code (bd (bd (sr (sl (sr (sr (sr c_octroiref23_Parse))))))), .inLoop (bd (bd (sr (sl (sr (sr (sr c_octroiref23_Parse))))))), .inBlock 0, .code (sr (sr (sr (sr c_octroiref23_Parse))))]
noncomputable def t_octroiref23_Parse_1 (a0 : ByteArray) (A4 : Option Addr) (n4 : Nat) (c4 : Nat) (x5 : Int) (x6 : Int) (u : Nat → Value) : List Value := [.string a0, undef, (u 2), (u 3), .slice A4 n4 c4, .int .i64 x5, .int .i64 x6, (u 7), (u 8), (u 9), (u 10), (u 11), (u 12), (u 13), (u 14), (u 15), (u 16), (u 17), (u 18), (u 19), (u 20), (u 21), (u 22), (u 23), (u 24), (u 25), (u 26), (u 27), (u 28), (u 29), (u 30), (u 31), (u 32), (u 33), (u 34), (u 35), (u 36), (u 37), (u 38), (u 39), (u 40), (u 41), (u 42), (u 43), (u 44), (u 45), (u 46), (u 47), (u 48), (u 49), (u 50), (u 51), (u 52), (u 53), (u 54), (u 55), (u 56), (u 57)]
noncomputable def k_octroiref23_Parse_2 : List Item := [.code (bd (bd (sr (sl (sr (sr (sr (sr (sr (sr (sr c_octroiref23_Parse))))))))))), .inLoop (bd (bd (sr (sl (sr (sr (sr (sr (sr (sr (sr c_octroiref23_Parse))))))))))), .inBlock 2, .code (sr (sr (sr (sr (sr (sr (sr (sr c_octroiref23_Parse))))))))]
noncomputable def t_octroiref23_Parse_2 (A4 : Option Addr) (n4 : Nat) (c4 : Nat) (A7 : Option Addr) (n7 : Nat) (c7 : Nat) (x8 : Int) (u : Nat → Value) : List Value := [(u 0), undef, (u 2), (u 3), .slice A4 n4 c4, (u 5), (u 6), .slice A7 n7 c7, .int .i64 x8, (u 9), (u 10), (u 11), (u 12), (u 13), (u 14), (u 15), (u 16), (u 17), (u 18), (u 19), (u 20), (u 21), (u 22), (u 23), (u 24), (u 25), (u 26), (u 27), (u 28), (u 29), (u 30), (u 31), (u 32), (u 33), (u 34), (u 35), (u 36), (u 37), (u 38), (u 39), (u 40), (u 41), (u 42), (u 43), (u 44), (u 45), (u 46), (u 47), (u 48), (u 49), (u 50), (u 51), (u 52), (u 53), (u 54), (u 55), (u 56), (u 57)]
set_option maxRecDepth 100000 in
set_option maxHeartbeats 4000000 in
theorem r_octroiref23_Parse (a0 : ByteArray) {I : Ctx} {h : Mem} {Q : Value → Mem → Prop}
  (hh : holds Tryd.prog 10 I (cl_ Q)
   (.stop k_octroiref23_Parse_1 (t_octroiref23_Parse_1 a0 none 0 0 0 0 (jl [(2, .slice none 0 0), (3, .int .i64 0), (7, undef), (8, undef), (9, undef), (10, undef), (11, undef), (12, undef), (13, undef), (14, undef), (15, undef), (16, undef), (17, undef), (18, undef), (19, undef), (20, undef), (21, undef), (22, undef), (23, undef), (24, undef), (25, undef), (26, undef), (27, undef), (28, undef), (29, undef), (30, undef), (31, undef), (32, undef), (33, undef), (34, undef), (35, undef), (36, undef), (37, undef), (38, undef), (39, undef), (40, undef), (41, undef), (42, undef), (43, undef), (44, undef), (45, undef), (46, undef), (47, undef), (48, undef), (49, undef), (50, undef), (51, undef), (52, undef), (53, undef), (54, undef), (55, undef), (56, undef), (57, undef)]))) h) : Fn Tryd.prog 10 #[.string a0] I h Q :=
  Wp.fn (args := [.string a0]) Tryd.func10 rfl (by kernel_rfl) (of_tree (cfg := g_octroiref23_Parse) 1000 (by kernel_rfl) Tryd.func10 rfl Tryd.checked.mixed hh)
theorem ca_octroiref23_Parse : callable Tryd.prog 10 := ⟨_, Tryd.func10, by kernel_rfl, by kernel_rfl⟩
set_option maxRecDepth 100000 in
set_option maxHeartbeats 4000000 in
theorem r_octroiref23_Parse_1 (a0 : ByteArray) (A4 : Option Addr) (n4 : Nat) (c4 : Nat) (x5 : Int) (x6 : Int) (u : Nat → Value) {I : Ctx} {h : Mem} {Q : Value → Mem → Prop}
  (hh : holds Tryd.prog 10 I Q
   (.ite (decide ((x6 : Int) < ((a0.size : Nat) : Int)))
    (.rd (Instr.index 9 (.string a0) (.int .i64 x6)) (.one (.sc (.int .u8))) fun l1 =>
     (.ite (((l1 0).i : Int) == 10)
      (.rd (Instr.sliceAt 9 (.string a0) (some (.int .i64 x5)) (some (.int .i64 x6)) none) (.one (.sc (.str))) fun l2 =>
       (.sem (Instr.buildSlice 45 1 #[(0, .string ((l2 0).s))]) (.one (.sc (.row 1))) fun l3 =>
        (.nx (builtin .append #[45, 45] 45 #[false, false] #[.slice A4 n4 c4, .slice (some ⟨(l3 0).n, 0, none⟩) 1 1]) (.one (.sc (.sl))) fun l4 =>
         (.stop k_octroiref23_Parse_1 (t_octroiref23_Parse_1 a0 ((l4 0).A) ((l4 0).n) ((l4 0).c) (IntKind.wrap .i64 (x6 + 1)) (IntKind.wrap .i64 (x6 + 1)) (jl [(2, (u 2)), (3, (u 3)), (7, (u 7)), (8, (u 8)), (9, (u 9)), (10, (u 10)), (11, .int .i64 x6), (12, .string a0), (13, .int .i64 ((a0.size : Nat) : Int)), (14, .bool (decide ((x6 : Int) < ((a0.size : Nat) : Int)))), (15, .int .i64 x6), (16, .int .i64 (IntKind.wrap .i64 (x6 + 1))), (17, .string a0), (18, .int .i64 x6), (19, .int .u8 ((l1 0).i)), (20, .bool (((l1 0).i : Int) == 10)), (21, .slice A4 n4 c4), (22, .string a0), (23, .int .i64 x5), (24, .int .i64 x6), (25, .string ((l2 0).s)), (26, .slice (some ⟨(l3 0).n, 0, none⟩) 1 1), (27, .slice ((l4 0).A) ((l4 0).n) ((l4 0).c)), (28, .int .i64 x6), (29, .int .i64 (IntKind.wrap .i64 (x6 + 1))), (30, (u 30)), (31, (u 31)), (32, (u 32)), (33, (u 33)), (34, (u 34)), (35, (u 35)), (36, (u 36)), (37, (u 37)), (38, (u 38)), (39, (u 39)), (40, (u 40)), (41, (u 41)), (42, (u 42)), (43, (u 43)), (44, (u 44)), (45, (u 45)), (46, (u 46)), (47, (u 47)), (48, (u 48)), (49, (u 49)), (50, (u 50)), (51, (u 51)), (52, (u 52)), (53, (u 53)), (54, (u 54)), (55, (u 55)), (56, (u 56)), (57, (u 57))]))))))
      (.stop k_octroiref23_Parse_1 (t_octroiref23_Parse_1 a0 A4 n4 c4 x5 (IntKind.wrap .i64 (x6 + 1)) (jl [(2, (u 2)), (3, (u 3)), (7, (u 7)), (8, (u 8)), (9, (u 9)), (10, (u 10)), (11, .int .i64 x6), (12, .string a0), (13, .int .i64 ((a0.size : Nat) : Int)), (14, .bool (decide ((x6 : Int) < ((a0.size : Nat) : Int)))), (15, .int .i64 x6), (16, .int .i64 (IntKind.wrap .i64 (x6 + 1))), (17, .string a0), (18, .int .i64 x6), (19, .int .u8 ((l1 0).i)), (20, .bool (((l1 0).i : Int) == 10)), (21, (u 21)), (22, (u 22)), (23, (u 23)), (24, (u 24)), (25, (u 25)), (26, (u 26)), (27, (u 27)), (28, (u 28)), (29, (u 29)), (30, (u 30)), (31, (u 31)), (32, (u 32)), (33, (u 33)), (34, (u 34)), (35, (u 35)), (36, (u 36)), (37, (u 37)), (38, (u 38)), (39, (u 39)), (40, (u 40)), (41, (u 41)), (42, (u 42)), (43, (u 43)), (44, (u 44)), (45, (u 45)), (46, (u 46)), (47, (u 47)), (48, (u 48)), (49, (u 49)), (50, (u 50)), (51, (u 51)), (52, (u 52)), (53, (u 53)), (54, (u 54)), (55, (u 55)), (56, (u 56)), (57, (u 57))])))))
    (.ite (decide ((((n4 : Nat) : Int) : Int) > 1000))
     (.done (.tuple #[.slice none 0 0, .int .i64 9]))
     (.ite ((x5 : Int) != ((a0.size : Nat) : Int))
      (.done (.tuple #[.slice none 0 0, .int .i64 2]))
      (.stop k_octroiref23_Parse_2 (t_octroiref23_Parse_2 A4 n4 c4 none 0 0 0 (jl [(0, .string a0), (2, (u 2)), (3, (u 3)), (5, .int .i64 x5), (6, .int .i64 x6), (9, (u 9)), (10, (u 10)), (11, .int .i64 x6), (12, .string a0), (13, .int .i64 ((a0.size : Nat) : Int)), (14, .bool (decide ((x6 : Int) < ((a0.size : Nat) : Int)))), (15, (u 15)), (16, (u 16)), (17, (u 17)), (18, (u 18)), (19, (u 19)), (20, (u 20)), (21, (u 21)), (22, (u 22)), (23, (u 23)), (24, (u 24)), (25, (u 25)), (26, (u 26)), (27, (u 27)), (28, (u 28)), (29, (u 29)), (30, .slice A4 n4 c4), (31, .int .i64 ((n4 : Nat) : Int)), (32, .bool (decide ((((n4 : Nat) : Int) : Int) > 1000))), (33, .int .i64 x5), (34, .string a0), (35, .int .i64 ((a0.size : Nat) : Int)), (36, .bool ((x5 : Int) != ((a0.size : Nat) : Int))), (37, (u 37)), (38, (u 38)), (39, (u 39)), (40, (u 40)), (41, (u 41)), (42, (u 42)), (43, (u 43)), (44, (u 44)), (45, (u 45)), (46, (u 46)), (47, (u 47)), (48, (u 48)), (49, (u 49)), (50, (u 50)), (51, (u 51)), (52, (u 52)), (53, (u 53)), (54, (u 54)), (55, (u 55)), (56, (u 56)), (57, (u 57))])))))) h) : Wp Tryd.prog 10 k_octroiref23_Parse_1 (t_octroiref23_Parse_1 a0 A4 n4 c4 x5 x6 u) I h Q :=
  of_tree (cfg := g_octroiref23_Parse) 1000 (by kernel_rfl) Tryd.func10 rfl Tryd.checked.mixed hh
set_option maxRecDepth 100000 in
set_option maxHeartbeats 4000000 in
theorem r_octroiref23_Parse_2 (A4 : Option Addr) (n4 : Nat) (c4 : Nat) (A7 : Option Addr) (n7 : Nat) (c7 : Nat) (x8 : Int) (u : Nat → Value) {I : Ctx} {h : Mem} {Q : Value → Mem → Prop}
  (hh : holds Tryd.prog 10 I Q
   (.ite (decide ((x8 : Int) < ((n4 : Nat) : Int)))
    (.rd (Instr.indexAt 45 (.slice A4 n4 c4) (.int .i64 x8)) (.one (.sc (.padr))) fun l5 =>
     (.rd (Instr.loadAt 9 (.pointer (some ((l5 0).a)))) (.one (.sc (.str))) fun l6 =>
      (.call 21 [.string ((l6 0).s)] (.tup [.agg [.int .i64, .int .i64, .int .i64, .int .i64], (.sc (.bool))]) fun l7 => -- octroiref23_read
       (.sem (Instr.alloc 35 true (.tuple #[])) shBlk fun l8 =>
        (.unit (Instr.storeAt 35 (.pointer (some ⟨(l8 0).n, 0, none⟩)) (.agg #[.int .i64 ((l7 0).i), .int .i64 ((l7 1).i), .int .i64 ((l7 2).i), .int .i64 ((l7 3).i)]))
         (.ite (!((l7 4).b))
          (.done (.tuple #[.slice none 0 0, .int .i64 2]))
          (.rd (Instr.loadAt 35 (.pointer (some ⟨(l8 0).n, 0, none⟩))) (.one (.agg [.int .i64, .int .i64, .int .i64, .int .i64])) fun l9 =>
           (.sem (Instr.buildSlice 23 1 #[(0, .agg #[.int .i64 ((l9 0).i), .int .i64 ((l9 1).i), .int .i64 ((l9 2).i), .int .i64 ((l9 3).i)])]) (.one (.sc (.row 1))) fun l10 =>
            (.nx (builtin .append #[23, 23] 23 #[false, false] #[.slice A7 n7 c7, .slice (some ⟨(l10 0).n, 0, none⟩) 1 1]) (.one (.sc (.sl))) fun l11 =>
             (.stop k_octroiref23_Parse_2 (t_octroiref23_Parse_2 A4 n4 c4 ((l11 0).A) ((l11 0).n) ((l11 0).c) (IntKind.wrap .i64 (x8 + 1)) (jl [(0, (u 0)), (2, (u 2)), (3, (u 3)), (5, (u 5)), (6, (u 6)), (9, .pointer (some ⟨(l8 0).n, 0, none⟩)), (10, .bool ((l7 4).b)), (11, (u 11)), (12, (u 12)), (13, (u 13)), (14, (u 14)), (15, (u 15)), (16, (u 16)), (17, (u 17)), (18, (u 18)), (19, (u 19)), (20, (u 20)), (21, (u 21)), (22, (u 22)), (23, (u 23)), (24, (u 24)), (25, (u 25)), (26, (u 26)), (27, (u 27)), (28, (u 28)), (29, (u 29)), (30, (u 30)), (31, (u 31)), (32, (u 32)), (33, (u 33)), (34, (u 34)), (35, (u 35)), (36, (u 36)), (37, .int .i64 x8), (38, .slice A4 n4 c4), (39, .int .i64 ((n4 : Nat) : Int)), (40, .bool (decide ((x8 : Int) < ((n4 : Nat) : Int)))), (41, .int .i64 x8), (42, .int .i64 (IntKind.wrap .i64 (x8 + 1))), (43, .tuple #[.agg #[.int .i64 ((l7 0).i), .int .i64 ((l7 1).i), .int .i64 ((l7 2).i), .int .i64 ((l7 3).i)], .bool ((l7 4).b)]), (44, .slice A4 n4 c4), (45, .int .i64 x8), (46, .pointer (some ((l5 0).a))), (47, .string ((l6 0).s)), (48, .tuple #[.agg #[.int .i64 ((l7 0).i), .int .i64 ((l7 1).i), .int .i64 ((l7 2).i), .int .i64 ((l7 3).i)], .bool ((l7 4).b)]), (49, .agg #[.int .i64 ((l7 0).i), .int .i64 ((l7 1).i), .int .i64 ((l7 2).i), .int .i64 ((l7 3).i)]), (50, .bool ((l7 4).b)), (51, .bool ((l7 4).b)), (52, .bool (!((l7 4).b))), (53, .slice A7 n7 c7), (54, .agg #[.int .i64 ((l9 0).i), .int .i64 ((l9 1).i), .int .i64 ((l9 2).i), .int .i64 ((l9 3).i)]), (55, .slice (some ⟨(l10 0).n, 0, none⟩) 1 1), (56, .slice ((l11 0).A) ((l11 0).n) ((l11 0).c)), (57, (u 57))]))))))))))))
    (.done (.tuple #[.slice A7 n7 c7, .int .i64 0]))) h) : Wp Tryd.prog 10 k_octroiref23_Parse_2 (t_octroiref23_Parse_2 A4 n4 c4 A7 n7 c7 x8 u) I h Q :=
  of_tree (cfg := g_octroiref23_Parse) 1000 (by kernel_rfl) Tryd.func10 rfl Tryd.checked.mixed hh
/-! ### octroiref23_Same: function 11 of Go -/
abbrev F_octroiref23_Same : FuncId := 11
noncomputable def c_octroiref23_Same : Code := (Tryd.f11.body).getD .skip
def p_octroiref23_Same : Nat → List (List Nat) := fun r => match r with | 6 => [[], [], [0, 1], [0, 1, 2], [], [], [4, 5], [4, 5, 6], [0, 1, 2, 3, 4, 5, 6, 7]] | _ => []
noncomputable def g_octroiref23_Same : Cfg := { sh := shs, fsh := fshs, results := [.tmp 4], hint := fun r i => match r, i with | 6, 8 => some (true, .one (.sc (.bool))) | _, _ => none, ord := fun r => match r with | 6 => some [0, 1, 2, 3, 4, 5, 6, 7, 8] | _ => none, pre := p_octroiref23_Same, un := unOf p_octroiref23_Same }
noncomputable def k_octroiref23_Same_1 : List Item := [.code (bd (bd (sr (sl (sr (sr c_octroiref23_Same)))))), .inLoop (bd (bd (sr (sl (sr (sr c_octroiref23_Same)))))), .inBlock 0, .code (sr (sr (sr c_octroiref23_Same)))]
noncomputable def t_octroiref23_Same_1 (Aa0 : Option Addr) (na0 : Nat) (ca0 : Nat) (Aa1 : Option Addr) (na1 : Nat) (ca1 : Nat) (x5 : Int) (u : Nat → Value) : List Value := [.slice Aa0 na0 ca0, .slice Aa1 na1 ca1, undef, undef, (u 4), .int .i64 x5, (u 6), (u 7), (u 8), (u 9), (u 10), (u 11), (u 12), (u 13), (u 14), (u 15), (u 16), (u 17), (u 18), (u 19), (u 20), (u 21), (u 22), (u 23), (u 24), (u 25)]
set_option maxRecDepth 100000 in
set_option maxHeartbeats 4000000 in
theorem r_octroiref23_Same (Aa0 : Option Addr) (na0 : Nat) (ca0 : Nat) (Aa1 : Option Addr) (na1 : Nat) (ca1 : Nat) {I : Ctx} {h : Mem} {Q : Value → Mem → Prop}
  (hh : holds Tryd.prog 11 I (cl_ Q)
   (.ite ((((na0 : Nat) : Int) : Int) != ((na1 : Nat) : Int))
    (.done (.bool false))
    (.stop k_octroiref23_Same_1 (t_octroiref23_Same_1 Aa0 na0 ca0 Aa1 na1 ca1 0 (jl [(4, .bool false), (6, .slice Aa0 na0 ca0), (7, .int .i64 ((na0 : Nat) : Int)), (8, .slice Aa1 na1 ca1), (9, .int .i64 ((na1 : Nat) : Int)), (10, .bool ((((na0 : Nat) : Int) : Int) != ((na1 : Nat) : Int))), (11, undef), (12, undef), (13, undef), (14, undef), (15, undef), (16, undef), (17, undef), (18, undef), (19, undef), (20, undef), (21, undef), (22, undef), (23, undef), (24, undef), (25, undef)])))) h) : Fn Tryd.prog 11 #[.slice Aa0 na0 ca0, .slice Aa1 na1 ca1] I h Q :=
  Wp.fn (args := [.slice Aa0 na0 ca0, .slice Aa1 na1 ca1]) Tryd.func11 rfl (by kernel_rfl) (of_tree (cfg := g_octroiref23_Same) 1000 (by kernel_rfl) Tryd.func11 rfl Tryd.checked.mixed hh)
theorem ca_octroiref23_Same : callable Tryd.prog 11 := ⟨_, Tryd.func11, by kernel_rfl, by kernel_rfl⟩
set_option maxRecDepth 100000 in
set_option maxHeartbeats 4000000 in
theorem r_octroiref23_Same_1 (Aa0 : Option Addr) (na0 : Nat) (ca0 : Nat) (Aa1 : Option Addr) (na1 : Nat) (ca1 : Nat) (x5 : Int) (u : Nat → Value) {I : Ctx} {h : Mem} {Q : Value → Mem → Prop}
  (hh : holds Tryd.prog 11 I Q
   (.ite (decide ((x5 : Int) < ((na0 : Nat) : Int)))
    (.rd (Instr.indexAt 23 (.slice Aa0 na0 ca0) (.int .i64 x5)) (.one (.sc (.padr))) fun l1 =>
     (.rd (Instr.loadAt 35 (.pointer (some ((l1 0).a)))) (.one (.agg [.int .i64, .int .i64, .int .i64, .int .i64])) fun l2 =>
      (.rd (Instr.indexAt 23 (.slice Aa1 na1 ca1) (.int .i64 x5)) (.one (.sc (.padr))) fun l3 =>
       (.rd (Instr.loadAt 35 (.pointer (some ((l3 0).a)))) (.one (.agg [.int .i64, .int .i64, .int .i64, .int .i64])) fun l4 =>
        (.rdn (eqN .neq 35 (.tmp 0) (.tmp 0) (.agg #[.int .i64 ((l2 0).i), .int .i64 ((l2 1).i), .int .i64 ((l2 2).i), .int .i64 ((l2 3).i)]) (.agg #[.int .i64 ((l4 0).i), .int .i64 ((l4 1).i), .int .i64 ((l4 2).i), .int .i64 ((l4 3).i)])) (.one (.sc (.bool))) fun l5 =>
         (.ite ((l5 0).b)
          (.done (.bool false))
          (.stop k_octroiref23_Same_1 (t_octroiref23_Same_1 Aa0 na0 ca0 Aa1 na1 ca1 (IntKind.wrap .i64 (x5 + 1)) (jl [(4, (u 4)), (6, (u 6)), (7, (u 7)), (8, (u 8)), (9, (u 9)), (10, (u 10)), (11, .int .i64 x5), (12, .slice Aa0 na0 ca0), (13, .int .i64 ((na0 : Nat) : Int)), (14, .bool (decide ((x5 : Int) < ((na0 : Nat) : Int)))), (15, .int .i64 x5), (16, .int .i64 (IntKind.wrap .i64 (x5 + 1))), (17, .slice Aa0 na0 ca0), (18, .int .i64 x5), (19, .pointer (some ((l1 0).a))), (20, .agg #[.int .i64 ((l2 0).i), .int .i64 ((l2 1).i), .int .i64 ((l2 2).i), .int .i64 ((l2 3).i)]), (21, .slice Aa1 na1 ca1), (22, .int .i64 x5), (23, .pointer (some ((l3 0).a))), (24, .agg #[.int .i64 ((l4 0).i), .int .i64 ((l4 1).i), .int .i64 ((l4 2).i), .int .i64 ((l4 3).i)]), (25, .bool ((l5 0).b))])))))))))
    (.done (.bool true))) h) : Wp Tryd.prog 11 k_octroiref23_Same_1 (t_octroiref23_Same_1 Aa0 na0 ca0 Aa1 na1 ca1 x5 u) I h Q :=
  of_tree (cfg := g_octroiref23_Same) 1000 (by kernel_rfl) Tryd.func11 rfl Tryd.checked.mixed hh
/-! ### script_Show: function 12 of Go -/
abbrev F_script_Show : FuncId := 12
noncomputable def c_script_Show : Code := (Tryd.f12.body).getD .skip
noncomputable def g_script_Show : Cfg := { sh := shs, fsh := fshs, results := [.tmp 2, .tmp 3], hint := fun _ _ => none, ord := fun _ => none, pre := fun _ => [], un := fun _ _ _ => false }
noncomputable def k_script_Show_1 : List Item := [.code (bd (bd (sr (sl (sr (sr (sr c_script_Show))))))), .inLoop (bd (bd (sr (sl (sr (sr (sr c_script_Show))))))), .inBlock 0, .code (sr (sr (sr (sr c_script_Show))))]
noncomputable def t_script_Show_1 (Aa0 : Option Addr) (na0 : Nat) (ca0 : Nat) (y4 : Nat) (x14 : Int) (u : Nat → Value) : List Value := [(u 0), undef, (u 2), (u 3), .pointer (some ⟨y4, 0, none⟩), undef, (u 6), (u 7), (u 8), (u 9), (u 10), (u 11), .slice Aa0 na0 ca0, .int .i64 ((na0 : Nat) : Int), .int .i64 x14, (u 15), (u 16), (u 17), (u 18), (u 19), (u 20), (u 21), (u 22), (u 23), (u 24), (u 25), (u 26), (u 27), (u 28)]
set_option maxRecDepth 100000 in
set_option maxHeartbeats 4000000 in
theorem r_script_Show (Aa0 : Option Addr) (na0 : Nat) (ca0 : Nat) {I : Ctx} {h : Mem} {Q : Value → Mem → Prop}
  (hh : holds Tryd.prog 12 I (cl_ Q)
   (.sem (Instr.alloc 49 true (.tuple #[])) shBlk fun l1 =>
    (.ite (decide ((((na0 : Nat) : Int) : Int) > 1000))
     (.done (.tuple #[.string (ByteArray.mk #[]), .int .i64 9]))
     (.stop k_script_Show_1 (t_script_Show_1 Aa0 na0 ca0 ((l1 0).n) 0 (jl [(0, .slice Aa0 na0 ca0), (2, .string (ByteArray.mk #[])), (3, .int .i64 0), (6, undef), (7, undef), (8, undef), (9, .slice Aa0 na0 ca0), (10, .int .i64 ((na0 : Nat) : Int)), (11, .bool (decide ((((na0 : Nat) : Int) : Int) > 1000))), (15, undef), (16, undef), (17, undef), (18, undef), (19, undef), (20, undef), (21, undef), (22, undef), (23, undef), (24, undef), (25, undef), (26, undef), (27, undef), (28, undef)]))))) h) : Fn Tryd.prog 12 #[.slice Aa0 na0 ca0] I h Q :=
  Wp.fn (args := [.slice Aa0 na0 ca0]) Tryd.func12 rfl (by kernel_rfl) (of_tree (cfg := g_script_Show) 1000 (by kernel_rfl) Tryd.func12 rfl Tryd.checked.mixed hh)
theorem ca_script_Show : callable Tryd.prog 12 := ⟨_, Tryd.func12, by kernel_rfl, by kernel_rfl⟩
set_option maxRecDepth 100000 in
set_option maxHeartbeats 4000000 in
theorem r_script_Show_1 (Aa0 : Option Addr) (na0 : Nat) (ca0 : Nat) (y4 : Nat) (x14 : Int) (u : Nat → Value) {I : Ctx} {h : Mem} {Q : Value → Mem → Prop}
  (hh : holds Tryd.prog 12 I Q
   (.ite (decide ((x14 : Int) < ((na0 : Nat) : Int)))
    (.rd (Instr.indexAt 23 (.slice Aa0 na0 ca0) (.int .i64 x14)) (.one (.sc (.padr))) fun l2 =>
     (.rd (Instr.loadAt 35 (.pointer (some ((l2 0).a)))) (.one (.agg [.int .i64, .int .i64, .int .i64, .int .i64])) fun l3 =>
      (.sem (Instr.alloc 35 true (.tuple #[])) shBlk fun l4 =>
       (.unit (Instr.storeAt 35 (.pointer (some ⟨(l4 0).n, 0, none⟩)) (.agg #[.int .i64 ((l3 0).i), .int .i64 ((l3 1).i), .int .i64 ((l3 2).i), .int .i64 ((l3 3).i)]))
        (.rd (Instr.loadAt 35 (.pointer (some ⟨(l4 0).n, 0, none⟩))) (.one (.agg [.int .i64, .int .i64, .int .i64, .int .i64])) fun l5 =>
         (.call 22 [.agg #[.int .i64 ((l5 0).i), .int .i64 ((l5 1).i), .int .i64 ((l5 2).i), .int .i64 ((l5 3).i)]] (.tup [(.sc (.str)), (.sc (.bool))]) fun l6 => -- script_line
          (.ite (!((l6 1).b))
           (.done (.tuple #[.string (ByteArray.mk #[]), .int .i64 1]))
           (.call 23 [.pointer (some ⟨y4, 0, none⟩), .string ((l6 0).s)] (.tup [(.sc (.int .i64)), (.sc (.v))]) fun l7 => -- strings_Builder_WriteString
            (.stop k_script_Show_1 (t_script_Show_1 Aa0 na0 ca0 y4 (IntKind.wrap .i64 (x14 + 1)) (jl [(0, (u 0)), (2, (u 2)), (3, (u 3)), (6, .pointer (some ⟨(l4 0).n, 0, none⟩)), (7, .string ((l6 0).s)), (8, .bool ((l6 1).b)), (9, (u 9)), (10, (u 10)), (11, (u 11)), (15, .bool (decide ((x14 : Int) < ((na0 : Nat) : Int)))), (16, .pointer (some ((l2 0).a))), (17, .agg #[.int .i64 ((l3 0).i), .int .i64 ((l3 1).i), .int .i64 ((l3 2).i), .int .i64 ((l3 3).i)]), (18, .tuple #[.string ((l6 0).s), .bool ((l6 1).b)]), (19, .agg #[.int .i64 ((l5 0).i), .int .i64 ((l5 1).i), .int .i64 ((l5 2).i), .int .i64 ((l5 3).i)]), (20, .tuple #[.string ((l6 0).s), .bool ((l6 1).b)]), (21, .string ((l6 0).s)), (22, .bool ((l6 1).b)), (23, .bool ((l6 1).b)), (24, .bool (!((l6 1).b))), (25, .string ((l6 0).s)), (26, .tuple #[.int .i64 ((l7 0).i), (l7 1).v]), (27, .int .i64 (IntKind.wrap .i64 (x14 + 1))), (28, (u 28))])))))))))))
    (.call 24 [.pointer (some ⟨y4, 0, none⟩)] (.one (.sc (.str))) fun l8 => -- strings_Builder_String
     (.done (.tuple #[.string ((l8 0).s), .int .i64 0])))) h) : Wp Tryd.prog 12 k_script_Show_1 (t_script_Show_1 Aa0 na0 ca0 y4 x14 u) I h Q :=
  of_tree (cfg := g_script_Show) 1000 (by kernel_rfl) Tryd.func12 rfl Tryd.checked.mixed hh
/-! ### script_Numbers: function 13 of Go -/
abbrev F_script_Numbers : FuncId := 13
noncomputable def c_script_Numbers : Code := (Tryd.f13.body).getD .skip
noncomputable def g_script_Numbers : Cfg := { sh := shs, fsh := fshs, results := [.tmp 2], hint := fun _ _ => none, ord := fun _ => none, pre := fun _ => [], un := fun _ _ _ => false }
set_option maxRecDepth 100000 in
set_option maxHeartbeats 4000000 in
theorem r_script_Numbers (a0 : Int) {I : Ctx} {h : Mem} {Q : Value → Mem → Prop}
  (hh : holds Tryd.prog 13 I (cl_ Q)
   (.call 25 [.int .i64 a0] (.one (.agg [.str, .int .i64])) fun l1 => -- script_of
    (.done (.int .i64 ((l1 1).i)))) h) : Fn Tryd.prog 13 #[.int .i64 a0] I h Q :=
  Wp.fn (args := [.int .i64 a0]) Tryd.func13 rfl (by kernel_rfl) (of_tree (cfg := g_script_Numbers) 1000 (by kernel_rfl) Tryd.func13 rfl Tryd.checked.mixed hh)
theorem ca_script_Numbers : callable Tryd.prog 13 := ⟨_, Tryd.func13, by kernel_rfl, by kernel_rfl⟩
/-! ### octroiref23_Show: function 14 of Go -/
abbrev F_octroiref23_Show : FuncId := 14
noncomputable def c_octroiref23_Show : Code := (Tryd.f14.body).getD .skip
noncomputable def g_octroiref23_Show : Cfg := { sh := shs, fsh := fshs, results := [.tmp 2, .tmp 3], hint := fun r i => match r, i with | 10, 6 => some (true, .one (.sc (.str))) | _, _ => none, ord := fun _ => none, pre := fun _ => [], un := fun _ _ _ => false }
noncomputable def k_octroiref23_Show_1 : List Item := [.code (bd (bd (sr (sl (sr (sr (sr c_octroiref23_Show))))))), .inLoop (bd (bd (sr (sl (sr (sr (sr c_octroiref23_Show))))))), .inBlock 0, .code (sr (sr (sr (sr c_octroiref23_Show))))]
noncomputable def t_octroiref23_Show_1 (Aa0 : Option Addr) (na0 : Nat) (ca0 : Nat) (x4 : ByteArray) (x5 : Int) (u : Nat → Value) : List Value := [.slice Aa0 na0 ca0, undef, (u 2), (u 3), .string x4, .int .i64 x5, (u 6), (u 7), (u 8), (u 9), (u 10), (u 11), (u 12), (u 13), (u 14), (u 15), (u 16), (u 17), (u 18), (u 19), (u 20), (u 21), (u 22), (u 23), (u 24), (u 25), (u 26), (u 27), (u 28), (u 29), (u 30)]
set_option maxRecDepth 100000 in
set_option maxHeartbeats 4000000 in
theorem r_octroiref23_Show (Aa0 : Option Addr) (na0 : Nat) (ca0 : Nat) {I : Ctx} {h : Mem} {Q : Value → Mem → Prop}
  (hh : holds Tryd.prog 14 I (cl_ Q)
   (.ite (decide ((((na0 : Nat) : Int) : Int) > 1000))
    (.done (.tuple #[.string (ByteArray.mk #[]), .int .i64 9]))
    (.stop k_octroiref23_Show_1 (t_octroiref23_Show_1 Aa0 na0 ca0 (ByteArray.mk #[]) 0 (jl [(2, .string (ByteArray.mk #[])), (3, .int .i64 0), (6, undef), (7, .slice Aa0 na0 ca0), (8, .int .i64 ((na0 : Nat) : Int)), (9, .bool (decide ((((na0 : Nat) : Int) : Int) > 1000))), (10, undef), (11, undef), (12, undef), (13, undef), (14, undef), (15, undef), (16, undef), (17, undef), (18, undef), (19, undef), (20, undef), (21, undef), (22, undef), (23, undef), (24, undef), (25, undef), (26, undef), (27, undef), (28, undef), (29, undef), (30, undef)])))) h) : Fn Tryd.prog 14 #[.slice Aa0 na0 ca0] I h Q :=
  Wp.fn (args := [.slice Aa0 na0 ca0]) Tryd.func14 rfl (by kernel_rfl) (of_tree (cfg := g_octroiref23_Show) 1000 (by kernel_rfl) Tryd.func14 rfl Tryd.checked.mixed hh)
theorem ca_octroiref23_Show : callable Tryd.prog 14 := ⟨_, Tryd.func14, by kernel_rfl, by kernel_rfl⟩
set_option maxRecDepth 100000 in
set_option maxHeartbeats 4000000 in
theorem r_octroiref23_Show_1 (Aa0 : Option Addr) (na0 : Nat) (ca0 : Nat) (x4 : ByteArray) (x5 : Int) (u : Nat → Value) {I : Ctx} {h : Mem} {Q : Value → Mem → Prop}
  (hh : holds Tryd.prog 14 I Q
   (.ite (decide ((x5 : Int) < ((na0 : Nat) : Int)))
    (.rd (Instr.indexAt 23 (.slice Aa0 na0 ca0) (.int .i64 x5)) (.one (.sc (.padr))) fun l1 =>
     (.rd (Instr.loadAt 35 (.pointer (some ((l1 0).a)))) (.one (.agg [.int .i64, .int .i64, .int .i64, .int .i64])) fun l2 =>
      (.call 26 [.agg #[.int .i64 ((l2 0).i), .int .i64 ((l2 1).i), .int .i64 ((l2 2).i), .int .i64 ((l2 3).i)]] (.one (.sc (.bool))) fun l3 => -- octroiref23_May
       (.ite (!((l3 0).b))
        (.done (.tuple #[.string (ByteArray.mk #[]), .int .i64 1]))
        (.rd (Instr.indexAt 23 (.slice Aa0 na0 ca0) (.int .i64 x5)) (.one (.sc (.padr))) fun l4 =>
         (.rd (Instr.loadAt 35 (.pointer (some ((l4 0).a)))) (.one (.agg [.int .i64, .int .i64, .int .i64, .int .i64])) fun l5 =>
          (.call 27 [.agg #[.int .i64 ((l5 0).i), .int .i64 ((l5 1).i), .int .i64 ((l5 2).i), .int .i64 ((l5 3).i)]] (.one (.sc (.str))) fun l6 => -- octroiref23_line
           (.rdn (binN .add 9 (.string x4) (.string ((l6 0).s))) (.one (.sc (.str))) fun l7 =>
            (.stop k_octroiref23_Show_1 (t_octroiref23_Show_1 Aa0 na0 ca0 ((l7 0).s) (IntKind.wrap .i64 (x5 + 1)) (jl [(2, (u 2)), (3, (u 3)), (6, .bool ((l3 0).b)), (7, (u 7)), (8, (u 8)), (9, (u 9)), (10, .int .i64 x5), (11, .slice Aa0 na0 ca0), (12, .int .i64 ((na0 : Nat) : Int)), (13, .bool (decide ((x5 : Int) < ((na0 : Nat) : Int)))), (14, .int .i64 x5), (15, .int .i64 (IntKind.wrap .i64 (x5 + 1))), (16, .slice Aa0 na0 ca0), (17, .int .i64 x5), (18, .pointer (some ((l1 0).a))), (19, .agg #[.int .i64 ((l2 0).i), .int .i64 ((l2 1).i), .int .i64 ((l2 2).i), .int .i64 ((l2 3).i)]), (20, .bool ((l3 0).b)), (21, .bool ((l3 0).b)), (22, .bool (!((l3 0).b))), (23, .string x4), (24, .slice Aa0 na0 ca0), (25, .int .i64 x5), (26, .pointer (some ((l4 0).a))), (27, .agg #[.int .i64 ((l5 0).i), .int .i64 ((l5 1).i), .int .i64 ((l5 2).i), .int .i64 ((l5 3).i)]), (28, .string ((l6 0).s)), (29, .string ((l7 0).s)), (30, (u 30))])))))))))))
    (.done (.tuple #[.string x4, .int .i64 0]))) h) : Wp Tryd.prog 14 k_octroiref23_Show_1 (t_octroiref23_Show_1 Aa0 na0 ca0 x4 x5 u) I h Q :=
  of_tree (cfg := g_octroiref23_Show) 1000 (by kernel_rfl) Tryd.func14 rfl Tryd.checked.mixed hh
/-! ### script_Word: function 15 of Go -/
abbrev F_script_Word : FuncId := 15
noncomputable def c_script_Word : Code := (Tryd.f15.body).getD .skip
noncomputable def g_script_Word : Cfg := { sh := shs, fsh := fshs, results := [.tmp 2], hint := fun _ _ => none, ord := fun _ => none, pre := fun _ => [], un := fun _ _ _ => false }
set_option maxRecDepth 100000 in
set_option maxHeartbeats 4000000 in
theorem r_script_Word (a0 : Int) {I : Ctx} {h : Mem} {Q : Value → Mem → Prop}
  (hh : holds Tryd.prog 15 I (cl_ Q)
   (.call 25 [.int .i64 a0] (.one (.agg [.str, .int .i64])) fun l1 => -- script_of
    (.done (.string ((l1 0).s)))) h) : Fn Tryd.prog 15 #[.int .i64 a0] I h Q :=
  Wp.fn (args := [.int .i64 a0]) Tryd.func15 rfl (by kernel_rfl) (of_tree (cfg := g_script_Word) 1000 (by kernel_rfl) Tryd.func15 rfl Tryd.checked.mixed hh)
theorem ca_script_Word : callable Tryd.prog 15 := ⟨_, Tryd.func15, by kernel_rfl, by kernel_rfl⟩
/-! ### octroiref23_Word: function 16 of Go -/
abbrev F_octroiref23_Word : FuncId := 16
noncomputable def c_octroiref23_Word : Code := (Tryd.f16.body).getD .skip
noncomputable def g_octroiref23_Word : Cfg := { sh := shs, fsh := fshs, results := [.tmp 2], hint := fun _ _ => none, ord := fun _ => none, pre := fun _ => [], un := fun _ _ _ => false }
set_option maxRecDepth 100000 in
set_option maxHeartbeats 4000000 in
theorem r_octroiref23_Word (a0 : Int) {I : Ctx} {h : Mem} {Q : Value → Mem → Prop}
  (hh : holds Tryd.prog 16 I (cl_ Q)
   (.ite ((a0 : Int) == 0)
    (.done (.string (ByteArray.mk #[116, 105, 99, 107])))
    (.ite ((a0 : Int) == 1)
     (.done (.string (ByteArray.mk #[100, 101, 108, 105, 118, 101, 114])))
     (.ite ((a0 : Int) == 2)
      (.done (.string (ByteArray.mk #[108, 111, 115, 101])))
      (.ite ((a0 : Int) == 3)
       (.done (.string (ByteArray.mk #[100, 111, 117, 98, 108, 101])))
       (.ite ((a0 : Int) == 4)
        (.done (.string (ByteArray.mk #[100, 111, 119, 110])))
        (.ite ((a0 : Int) == 5)
         (.done (.string (ByteArray.mk #[117, 112])))
         (.ite ((a0 : Int) == 6)
          (.done (.string (ByteArray.mk #[111, 119, 110])))
          (.ite ((a0 : Int) == 7)
           (.done (.string (ByteArray.mk #[100, 114, 111, 112])))
           (.ite ((a0 : Int) == 8)
            (.done (.string (ByteArray.mk #[99, 114, 97, 115, 104])))
            (.done (.string (ByteArray.mk #[])))))))))))) h) : Fn Tryd.prog 16 #[.int .i64 a0] I h Q :=
  Wp.fn (args := [.int .i64 a0]) Tryd.func16 rfl (by kernel_rfl) (of_tree (cfg := g_octroiref23_Word) 1000 (by kernel_rfl) Tryd.func16 rfl Tryd.checked.mixed hh)
theorem ca_octroiref23_Word : callable Tryd.prog 16 := ⟨_, Tryd.func16, by kernel_rfl, by kernel_rfl⟩
/-! ### octroiref23_Numbers: function 17 of Go -/
abbrev F_octroiref23_Numbers : FuncId := 17
noncomputable def c_octroiref23_Numbers : Code := (Tryd.f17.body).getD .skip
noncomputable def g_octroiref23_Numbers : Cfg := { sh := shs, fsh := fshs, results := [.tmp 2], hint := fun _ _ => none, ord := fun _ => none, pre := fun _ => [], un := fun _ _ _ => false }
set_option maxRecDepth 100000 in
set_option maxHeartbeats 4000000 in
theorem r_octroiref23_Numbers (a0 : Int) {I : Ctx} {h : Mem} {Q : Value → Mem → Prop}
  (hh : holds Tryd.prog 17 I (cl_ Q)
   (.ite ((a0 : Int) == 0)
    (.done (.int .i64 2))
    (.ite ((a0 : Int) == 1)
     (.ite ((a0 : Int) == 1)
      (.done (.int .i64 1))
      (.ite ((a0 : Int) == 6)
       (.ite ((a0 : Int) == 6)
        (.done (.int .i64 3))
        (.done (.int .i64 0)))
       (.ite ((a0 : Int) == 7)
        (.done (.int .i64 3))
        (.done (.int .i64 0)))))
     (.ite ((a0 : Int) == 2)
      (.ite ((a0 : Int) == 2)
       (.done (.int .i64 1))
       (.ite ((a0 : Int) == 6)
        (.ite ((a0 : Int) == 6)
         (.done (.int .i64 3))
         (.done (.int .i64 0)))
        (.ite ((a0 : Int) == 7)
         (.done (.int .i64 3))
         (.done (.int .i64 0)))))
      (.ite ((a0 : Int) == 3)
       (.ite ((a0 : Int) == 3)
        (.done (.int .i64 1))
        (.ite ((a0 : Int) == 6)
         (.ite ((a0 : Int) == 6)
          (.done (.int .i64 3))
          (.done (.int .i64 0)))
         (.ite ((a0 : Int) == 7)
          (.done (.int .i64 3))
          (.done (.int .i64 0)))))
       (.ite ((a0 : Int) == 4)
        (.ite ((a0 : Int) == 4)
         (.done (.int .i64 1))
         (.ite ((a0 : Int) == 6)
          (.ite ((a0 : Int) == 6)
           (.done (.int .i64 3))
           (.done (.int .i64 0)))
          (.ite ((a0 : Int) == 7)
           (.done (.int .i64 3))
           (.done (.int .i64 0)))))
        (.ite ((a0 : Int) == 5)
         (.ite ((a0 : Int) == 5)
          (.done (.int .i64 1))
          (.ite ((a0 : Int) == 6)
           (.ite ((a0 : Int) == 6)
            (.done (.int .i64 3))
            (.done (.int .i64 0)))
           (.ite ((a0 : Int) == 7)
            (.done (.int .i64 3))
            (.done (.int .i64 0)))))
         (.ite ((a0 : Int) == 8)
          (.done (.int .i64 1))
          (.ite ((a0 : Int) == 6)
           (.ite ((a0 : Int) == 6)
            (.done (.int .i64 3))
            (.done (.int .i64 0)))
           (.ite ((a0 : Int) == 7)
            (.done (.int .i64 3))
            (.done (.int .i64 0))))))))))) h) : Fn Tryd.prog 17 #[.int .i64 a0] I h Q :=
  Wp.fn (args := [.int .i64 a0]) Tryd.func17 rfl (by kernel_rfl) (of_tree (cfg := g_octroiref23_Numbers) 1000 (by kernel_rfl) Tryd.func17 rfl Tryd.checked.mixed hh)
theorem ca_octroiref23_Numbers : callable Tryd.prog 17 := ⟨_, Tryd.func17, by kernel_rfl, by kernel_rfl⟩
/-! ### strings_Count -/
abbrev F_strings_Count : FuncId := 18
theorem ca_strings_Count : callable Tryd.prog 18 := ⟨_, Tryd.func18, by kernel_rfl, by kernel_rfl⟩
/-! ### strings_Lines: function 19 of Go -/
abbrev F_strings_Lines : FuncId := 19
noncomputable def c_strings_Lines : Code := (Tryd.f19.body).getD .skip
noncomputable def g_strings_Lines : Cfg := { sh := shs, fsh := fshs, results := [.tmp 2], hint := fun _ _ => none, ord := fun _ => none, pre := fun _ => [], un := fun _ _ _ => false }
set_option maxRecDepth 100000 in
set_option maxHeartbeats 4000000 in
theorem r_strings_Lines (a0 : ByteArray) {I : Ctx} {h : Mem} {Q : Value → Mem → Prop}
  (hh : holds Tryd.prog 19 I (cl_ Q)
   (.sem (Instr.box 9 (.string a0)) shBlk fun l1 =>
    (.done (.func (.func 31) #[] #[.pointer (some ⟨(l1 0).n, 0, none⟩)]))) h) : Fn Tryd.prog 19 #[.string a0] I h Q :=
  Wp.fn (args := [.string a0]) Tryd.func19 rfl (by kernel_rfl) (of_tree (cfg := g_strings_Lines) 1000 (by kernel_rfl) Tryd.func19 rfl Tryd.checked.mixed hh)
theorem ca_strings_Lines : callable Tryd.prog 19 := ⟨_, Tryd.func19, by kernel_rfl, by kernel_rfl⟩
/-! ### script_read: function 20 of Go -/
abbrev F_script_read : FuncId := 20
noncomputable def c_script_read : Code := (Tryd.f20.body).getD .skip
noncomputable def g_script_read : Cfg := { sh := shs, fsh := fshs, results := [.cell 2 35, .tmp 3], hint := fun _ _ => none, ord := fun _ => none, pre := fun _ => [], un := fun _ _ _ => false }
noncomputable def k_script_read_1 : List Item := [.code (bd (bd (sr (sl (sr (sr (sr (sr (sr c_script_read))))))))), .inLoop (bd (bd (sr (sl (sr (sr (sr (sr (sr c_script_read))))))))), .inBlock 0, .code (sr (sr (sr (sr (sr (sr c_script_read))))))]
noncomputable def t_script_read_1 (a0 : ByteArray) (y2 : Nat) (y6 : Int) (y7 : Nat) (Ay21 : Option Addr) (ny21 : Nat) (cy21 : Nat) (y22 : Int) (x23 : Int) (u : Nat → Value) : List Value := [.string a0, undef, .pointer (some ⟨y2, 0, none⟩), (u 3), (u 4), (u 5), .int .i64 y6, .pointer (some ⟨y7, 0, none⟩), (u 8), (u 9), (u 10), (u 11), (u 12), (u 13), (u 14), (u 15), (u 16), (u 17), (u 18), (u 19), (u 20), .slice Ay21 ny21 cy21, .int .i64 y22, .int .i64 x23, (u 24), (u 25), (u 26), (u 27), (u 28), (u 29), (u 30), (u 31), (u 32), (u 33), (u 34), (u 35), (u 36), (u 37), (u 38), (u 39), (u 40), (u 41), (u 42), (u 43), (u 44), (u 45), (u 46), (u 47), (u 48), (u 49), (u 50), (u 51), (u 52), (u 53), (u 54), (u 55), (u 56), (u 57), (u 58)]
set_option maxRecDepth 100000 in
set_option maxHeartbeats 4000000 in
theorem r_script_read (a0 : ByteArray) {I : Ctx} {h : Mem} {Q : Value → Mem → Prop}
  (hh : holds Tryd.prog 20 I (cl_ Q)
   (.sem (Instr.alloc 35 true (.tuple #[])) shBlk fun l1 =>
    (.call 34 [.string a0, .string (ByteArray.mk #[10])] (.one (.sc (.str))) fun l2 => -- strings_TrimSuffix
     (.call 33 [.string ((l2 0).s), .string (ByteArray.mk #[32])] (.one (.sc (.sl))) fun l3 => -- strings_Split
      (.sem (Instr.alloc 45 true (.tuple #[])) shBlk fun l4 =>
       (.unit (Instr.storeAt 45 (.pointer (some ⟨(l4 0).n, 0, none⟩)) (.slice ((l3 0).A) ((l3 0).n) ((l3 0).c)))
        (.call 35 [] (.one (.agg [.str, .int .i64, .str, .int .i64, .str, .int .i64, .str, .int .i64, .str, .int .i64, .str, .int .i64, .str, .int .i64, .str, .int .i64, .str, .int .i64])) fun l5 => -- script_forms
         (.sem (Instr.alloc 66 true (.tuple #[])) shBlk fun l6 =>
          (.unit (Instr.storeAt 66 (.pointer (some ⟨(l6 0).n, 0, none⟩)) (.agg #[.string ((l5 0).s), .int .i64 ((l5 1).i), .string ((l5 2).s), .int .i64 ((l5 3).i), .string ((l5 4).s), .int .i64 ((l5 5).i), .string ((l5 6).s), .int .i64 ((l5 7).i), .string ((l5 8).s), .int .i64 ((l5 9).i), .string ((l5 10).s), .int .i64 ((l5 11).i), .string ((l5 12).s), .int .i64 ((l5 13).i), .string ((l5 14).s), .int .i64 ((l5 15).i), .string ((l5 16).s), .int .i64 ((l5 17).i)]))
           (.rd (Instr.sliceAt 66 (.pointer (some ⟨(l6 0).n, 0, none⟩)) none none none) (.one (.sc (.sl))) fun l7 =>
            (.call 36 [.slice ((l7 0).A) ((l7 0).n) ((l7 0).c), .func (.func 37) #[] #[.pointer (some ⟨(l4 0).n, 0, none⟩)]] (.one (.sc (.int .i64))) fun l8 => -- slices_IndexFunc_form
             (.sem (Instr.alloc 71 true (.tuple #[])) shBlk fun l9 =>
              (.rd (Instr.loadAt 45 (.pointer (some ⟨(l4 0).n, 0, none⟩))) (.one (.sc (.sl))) fun l10 =>
               (.rd (Instr.sliceAt 45 (.slice ((l10 0).A) ((l10 0).n) ((l10 0).c)) (some (.int .i64 1)) none none) (.one (.sc (.sl))) fun l11 =>
                (.stop k_script_read_1 (t_script_read_1 a0 ((l1 0).n) ((l8 0).i) ((l9 0).n) ((l11 0).A) ((l11 0).n) ((l11 0).c) (((l11 0).n : Nat) : Int) 0 (jl [(3, .bool false), (4, .pointer (some ⟨(l4 0).n, 0, none⟩)), (5, .pointer (some ⟨(l6 0).n, 0, none⟩)), (8, undef), (9, undef), (10, undef), (11, undef), (12, undef), (13, .string a0), (14, .string ((l2 0).s)), (15, .slice ((l3 0).A) ((l3 0).n) ((l3 0).c)), (16, .agg #[.string ((l5 0).s), .int .i64 ((l5 1).i), .string ((l5 2).s), .int .i64 ((l5 3).i), .string ((l5 4).s), .int .i64 ((l5 5).i), .string ((l5 6).s), .int .i64 ((l5 7).i), .string ((l5 8).s), .int .i64 ((l5 9).i), .string ((l5 10).s), .int .i64 ((l5 11).i), .string ((l5 12).s), .int .i64 ((l5 13).i), .string ((l5 14).s), .int .i64 ((l5 15).i), .string ((l5 16).s), .int .i64 ((l5 17).i)]), (17, .slice ((l7 0).A) ((l7 0).n) ((l7 0).c)), (18, .func (.func 37) #[] #[.pointer (some ⟨(l4 0).n, 0, none⟩)]), (19, .int .i64 ((l8 0).i)), (20, .slice ((l10 0).A) ((l10 0).n) ((l10 0).c)), (24, undef), (25, undef), (26, undef), (27, undef), (28, undef), (29, undef), (30, undef), (31, undef), (32, undef), (33, undef), (34, undef), (35, undef), (36, undef), (37, undef), (38, undef), (39, undef), (40, undef), (41, undef), (42, undef), (43, undef), (44, undef), (45, undef), (46, undef), (47, undef), (48, undef), (49, undef), (50, undef), (51, undef), (52, undef), (53, undef), (54, undef), (55, undef), (56, undef), (57, undef), (58, undef)])))))))))))))))) h) : Fn Tryd.prog 20 #[.string a0] I h Q :=
  Wp.fn (args := [.string a0]) Tryd.func20 rfl (by kernel_rfl) (of_tree (cfg := g_script_read) 1000 (by kernel_rfl) Tryd.func20 rfl Tryd.checked.mixed hh)
theorem ca_script_read : callable Tryd.prog 20 := ⟨_, Tryd.func20, by kernel_rfl, by kernel_rfl⟩
set_option maxRecDepth 100000 in
set_option maxHeartbeats 4000000 in
theorem r_script_read_1 (a0 : ByteArray) (y2 : Nat) (y6 : Int) (y7 : Nat) (Ay21 : Option Addr) (ny21 : Nat) (cy21 : Nat) (y22 : Int) (x23 : Int) (u : Nat → Value) {I : Ctx} {h : Mem} {Q : Value → Mem → Prop}
  (hh : holds Tryd.prog 20 I Q
   (.ite (decide ((x23 : Int) < y22))
    (.rd (Instr.indexAt 45 (.slice Ay21 ny21 cy21) (.int .i64 x23)) (.one (.sc (.padr))) fun l12 =>
     (.rd (Instr.loadAt 9 (.pointer (some ((l12 0).a)))) (.one (.sc (.str))) fun l13 =>
      (.ite ((x23 : Int) == 3)
       (.unit (Instr.storeAt 35 (.pointer (some ⟨y2, 0, none⟩)) (.agg #[.int .i64 0, .int .i64 0, .int .i64 0, .int .i64 0]))
        (.rd (loadVar 35 ⟨y2, 0, none⟩) (.one (.agg [.int .i64, .int .i64, .int .i64, .int .i64])) fun l14 =>
         (.done (.tuple #[.agg #[.int .i64 ((l14 0).i), .int .i64 ((l14 1).i), .int .i64 ((l14 2).i), .int .i64 ((l14 3).i)], .bool false]))))
       (.call 38 [.string ((l13 0).s)] (.tup [(.sc (.int .i64)), (.sc (.v))]) fun l15 => -- strconv_Atoi
        (.rd (Instr.indexAt 71 (.pointer (some ⟨y7, 0, none⟩)) (.int .i64 x23)) (.one (.sc (.padr))) fun l16 =>
         (.unit (Instr.storeAt 3 (.pointer (some ((l16 0).a))) (.int .i64 ((l15 0).i)))
          (.stop k_script_read_1 (t_script_read_1 a0 y2 y6 y7 Ay21 ny21 cy21 y22 (IntKind.wrap .i64 (x23 + 1)) (jl [(3, (u 3)), (4, (u 4)), (5, (u 5)), (8, .int .i64 x23), (9, .string ((l13 0).s)), (10, (u 10)), (11, (u 11)), (12, (u 12)), (13, (u 13)), (14, (u 14)), (15, (u 15)), (16, (u 16)), (17, (u 17)), (18, (u 18)), (19, (u 19)), (20, (u 20)), (24, .bool (decide ((x23 : Int) < y22))), (25, .int .i64 x23), (26, .pointer (some ((l12 0).a))), (27, .string ((l13 0).s)), (28, .int .i64 x23), (29, .bool ((x23 : Int) == 3)), (30, (u 30)), (31, .tuple #[.int .i64 ((l15 0).i), (l15 1).v]), (32, .int .i64 x23), (33, .string ((l13 0).s)), (34, .tuple #[.int .i64 ((l15 0).i), (l15 1).v]), (35, .int .i64 ((l15 0).i)), (36, (l15 1).v), (37, .pointer (some ((l16 0).a))), (38, .int .i64 (IntKind.wrap .i64 (x23 + 1))), (39, (u 39)), (40, (u 40)), (41, (u 41)), (42, (u 42)), (43, (u 43)), (44, (u 44)), (45, (u 45)), (46, (u 46)), (47, (u 47)), (48, (u 48)), (49, (u 49)), (50, (u 50)), (51, (u 51)), (52, (u 52)), (53, (u 53)), (54, (u 54)), (55, (u 55)), (56, (u 56)), (57, (u 57)), (58, (u 58))])))))))))
    (.rd (Instr.indexAt 71 (.pointer (some ⟨y7, 0, none⟩)) (.int .i64 0)) (.one (.sc (.padr))) fun l17 =>
     (.rd (Instr.loadAt 3 (.pointer (some ((l17 0).a)))) (.one (.sc (.int .i64))) fun l18 =>
      (.rd (Instr.indexAt 71 (.pointer (some ⟨y7, 0, none⟩)) (.int .i64 1)) (.one (.sc (.padr))) fun l19 =>
       (.rd (Instr.loadAt 3 (.pointer (some ((l19 0).a)))) (.one (.sc (.int .i64))) fun l20 =>
        (.rd (Instr.indexAt 71 (.pointer (some ⟨y7, 0, none⟩)) (.int .i64 2)) (.one (.sc (.padr))) fun l21 =>
         (.rd (Instr.loadAt 3 (.pointer (some ((l21 0).a)))) (.one (.sc (.int .i64))) fun l22 =>
          (.sem (Instr.alloc 35 true (.tuple #[])) shBlk fun l23 =>
           (.unit (Instr.storeAt 35 (.pointer (some ⟨(l23 0).n, 0, none⟩)) (.agg #[.int .i64 y6, .int .i64 ((l18 0).i), .int .i64 ((l20 0).i), .int .i64 ((l22 0).i)]))
            (.rd (Instr.loadAt 35 (.pointer (some ⟨(l23 0).n, 0, none⟩))) (.one (.agg [.int .i64, .int .i64, .int .i64, .int .i64])) fun l24 =>
             (.call 22 [.agg #[.int .i64 ((l24 0).i), .int .i64 ((l24 1).i), .int .i64 ((l24 2).i), .int .i64 ((l24 3).i)]] (.tup [(.sc (.str)), (.sc (.bool))]) fun l25 => -- script_line
              (.rd (Instr.loadAt 35 (.pointer (some ⟨(l23 0).n, 0, none⟩))) (.one (.agg [.int .i64, .int .i64, .int .i64, .int .i64])) fun l26 =>
               (.ite ((l25 1).b)
                (.unit (Instr.storeAt 35 (.pointer (some ⟨y2, 0, none⟩)) (.agg #[.int .i64 ((l26 0).i), .int .i64 ((l26 1).i), .int .i64 ((l26 2).i), .int .i64 ((l26 3).i)]))
                 (.rd (loadVar 35 ⟨y2, 0, none⟩) (.one (.agg [.int .i64, .int .i64, .int .i64, .int .i64])) fun l27 =>
                  (.done (.tuple #[.agg #[.int .i64 ((l27 0).i), .int .i64 ((l27 1).i), .int .i64 ((l27 2).i), .int .i64 ((l27 3).i)], .bool (((l25 0).s).toList == a0.toList)]))))
                (.unit (Instr.storeAt 35 (.pointer (some ⟨y2, 0, none⟩)) (.agg #[.int .i64 ((l26 0).i), .int .i64 ((l26 1).i), .int .i64 ((l26 2).i), .int .i64 ((l26 3).i)]))
                 (.rd (loadVar 35 ⟨y2, 0, none⟩) (.one (.agg [.int .i64, .int .i64, .int .i64, .int .i64])) fun l28 =>
                  (.done (.tuple #[.agg #[.int .i64 ((l28 0).i), .int .i64 ((l28 1).i), .int .i64 ((l28 2).i), .int .i64 ((l28 3).i)], .bool false]))))))))))))))))) h) : Wp Tryd.prog 20 k_script_read_1 (t_script_read_1 a0 y2 y6 y7 Ay21 ny21 cy21 y22 x23 u) I h Q :=
  of_tree (cfg := g_script_read) 1000 (by kernel_rfl) Tryd.func20 rfl Tryd.checked.mixed hh
/-! ### octroiref23_read: function 21 of Go -/
abbrev F_octroiref23_read : FuncId := 21
noncomputable def c_octroiref23_read : Code := (Tryd.f21.body).getD .skip
def p_octroiref23_read : Nat → List (List Nat) := fun r => match r with | 7 => [[], [0], [], [2], [2, 3], [0, 1, 2, 3, 4], [0, 1, 2, 3, 4, 5], [0, 1, 2, 3, 4, 5, 6], [0, 1, 2, 3, 4, 5, 6, 7], [0, 1, 2, 3, 4, 5, 6], [0, 1, 2, 3, 4, 5, 6, 9], [0, 1, 2, 3, 4, 5, 6, 9, 10], [0, 1, 2, 3, 4, 5, 6, 7, 8, 9, 10, 11], [0, 1, 2, 3, 4, 5, 6, 7, 8, 9, 10, 11, 12]] | 13 => [[], [], [1], [1, 2], [], [4], [4, 5], [], [7], [7, 8], [0, 1, 2, 3, 4, 5, 6, 7, 8, 9], [], [0, 1, 2, 3, 4, 5, 6, 7, 8, 9, 10, 11]] | 15 => [[], [], [1], [1, 2], [1, 2, 3], [1, 2], [1, 2, 5], [1, 2, 3, 4, 5, 6], [1, 2, 3, 4, 5, 6, 7], [0, 1, 2, 3, 4], [0, 1, 2, 3, 4, 5, 6, 7, 8, 9]] | _ => []
noncomputable def g_octroiref23_read : Cfg := { sh := shs, fsh := fshs, results := [.cell 2 35, .tmp 3], hint := fun r i => match r, i with | 15, 6 => some (true, .one (.sc (.str))) | _, _ => none, ord := fun r => match r with | 7 => some [0, 2, 3, 4, 1, 5, 6, 7, 8, 9, 10, 11, 12, 13] | 13 => some [0, 1, 2, 3, 4, 5, 6, 7, 8, 9, 10, 11, 12] | 15 => some [0, 1, 2, 3, 5, 6, 4, 7, 8, 9, 10] | _ => none, pre := p_octroiref23_read, un := unOf p_octroiref23_read }
noncomputable def k_octroiref23_read_1 : List Item := [.code (bd (bd (sr (sl (sr (sr (sr c_octroiref23_read))))))), .inLoop (bd (bd (sr (sl (sr (sr (sr c_octroiref23_read))))))), .inBlock 0, .code (sr (sr (sr (sr c_octroiref23_read))))]
noncomputable def t_octroiref23_read_1 (a0 : ByteArray) (y2 : Nat) (Ay4 : Option Addr) (ny4 : Nat) (cy4 : Nat) (x5 : Int) (u : Nat → Value) : List Value := [.string a0, undef, .pointer (some ⟨y2, 0, none⟩), (u 3), .slice Ay4 ny4 cy4, .int .i64 x5, (u 6), (u 7), (u 8), (u 9), (u 10), (u 11), (u 12), (u 13), (u 14), (u 15), (u 16), (u 17), (u 18), (u 19), (u 20), (u 21), (u 22), (u 23), (u 24), (u 25), (u 26), (u 27), (u 28), (u 29), (u 30), (u 31), (u 32), (u 33), (u 34), (u 35), (u 36), (u 37), (u 38), (u 39), (u 40), (u 41), (u 42), (u 43), (u 44), (u 45), (u 46), (u 47), (u 48), (u 49), (u 50), (u 51), (u 52), (u 53), (u 54), (u 55), (u 56), (u 57), (u 58), (u 59), (u 60), (u 61), (u 62), (u 63), (u 64), (u 65), (u 66), (u 67), (u 68), (u 69), (u 70), (u 71), (u 72)]
noncomputable def k_octroiref23_read_2 : List Item := [.code (bd (bd (sr (sl (sr (sr (bd (sl (sr (bd (bd (sr (sl (sr (sr (sr c_octroiref23_read)))))))))))))))), .inLoop (bd (bd (sr (sl (sr (sr (bd (sl (sr (bd (bd (sr (sl (sr (sr (sr c_octroiref23_read)))))))))))))))), .inBlock 2, .code (sr (sr (sr (bd (sl (sr (bd (bd (sr (sl (sr (sr (sr c_octroiref23_read))))))))))))), .inBlock 1, .code (sr (sr (bd (bd (sr (sl (sr (sr (sr c_octroiref23_read))))))))), .inLoop (bd (bd (sr (sl (sr (sr (sr c_octroiref23_read))))))), .inBlock 0, .code (sr (sr (sr (sr c_octroiref23_read))))]
noncomputable def t_octroiref23_read_2 (a0 : ByteArray) (y2 : Nat) (Ay4 : Option Addr) (ny4 : Nat) (cy4 : Nat) (x5 : Int) (Ay6 : Option Addr) (ny6 : Nat) (cy6 : Nat) (x7 : Int) (u : Nat → Value) : List Value := [.string a0, undef, .pointer (some ⟨y2, 0, none⟩), (u 3), .slice Ay4 ny4 cy4, .int .i64 x5, .slice Ay6 ny6 cy6, .int .i64 x7, (u 8), (u 9), (u 10), (u 11), (u 12), (u 13), (u 14), (u 15), (u 16), (u 17), (u 18), (u 19), (u 20), (u 21), (u 22), (u 23), (u 24), (u 25), (u 26), (u 27), (u 28), (u 29), (u 30), (u 31), (u 32), (u 33), (u 34), (u 35), (u 36), (u 37), (u 38), (u 39), (u 40), (u 41), (u 42), (u 43), (u 44), (u 45), (u 46), (u 47), (u 48), (u 49), (u 50), (u 51), (u 52), (u 53), (u 54), (u 55), (u 56), (u 57), (u 58), (u 59), (u 60), (u 61), (u 62), (u 63), (u 64), (u 65), (u 66), (u 67), (u 68), (u 69), (u 70), (u 71), (u 72)]
set_option maxRecDepth 100000 in
set_option maxHeartbeats 4000000 in
theorem r_octroiref23_read (a0 : ByteArray) {I : Ctx} {h : Mem} {Q : Value → Mem → Prop}
  (hh : holds Tryd.prog 21 I (cl_ Q)
   (.sem (Instr.alloc 35 true (.tuple #[])) shBlk fun l1 =>
    (.ite (decide ((((a0.size : Nat) : Int) : Int) > 100))
     (.unit (Instr.storeAt 35 (.pointer (some ⟨(l1 0).n, 0, none⟩)) (.agg #[.int .i64 0, .int .i64 0, .int .i64 0, .int .i64 0]))
      (.rd (loadVar 35 ⟨(l1 0).n, 0, none⟩) (.one (.agg [.int .i64, .int .i64, .int .i64, .int .i64])) fun l2 =>
       (.done (.tuple #[.agg #[.int .i64 ((l2 0).i), .int .i64 ((l2 1).i), .int .i64 ((l2 2).i), .int .i64 ((l2 3).i)], .bool false]))))
     (.call 39 [.string a0] (.one (.sc (.sl))) fun l3 => -- octroiref23_words
      (.stop k_octroiref23_read_1 (t_octroiref23_read_1 a0 ((l1 0).n) ((l3 0).A) ((l3 0).n) ((l3 0).c) 0 (jl [(3, .bool false), (6, undef), (7, undef), (8, undef), (9, undef), (10, .string a0), (11, .int .i64 ((a0.size : Nat) : Int)), (12, .bool (decide ((((a0.size : Nat) : Int) : Int) > 100))), (13, undef), (14, .string a0), (15, .slice ((l3 0).A) ((l3 0).n) ((l3 0).c)), (16, undef), (17, undef), (18, undef), (19, undef), (20, undef), (21, undef), (22, undef), (23, undef), (24, undef), (25, undef), (26, undef), (27, undef), (28, undef), (29, undef), (30, undef), (31, undef), (32, undef), (33, undef), (34, undef), (35, undef), (36, undef), (37, undef), (38, undef), (39, undef), (40, undef), (41, undef), (42, undef), (43, undef), (44, undef), (45, undef), (46, undef), (47, undef), (48, undef), (49, undef), (50, undef), (51, undef), (52, undef), (53, undef), (54, undef), (55, undef), (56, undef), (57, undef), (58, undef), (59, undef), (60, undef), (61, undef), (62, undef), (63, undef), (64, undef), (65, undef), (66, undef), (67, undef), (68, undef), (69, undef), (70, undef), (71, undef), (72, undef)])))))) h) : Fn Tryd.prog 21 #[.string a0] I h Q :=
  Wp.fn (args := [.string a0]) Tryd.func21 rfl (by kernel_rfl) (of_tree (cfg := g_octroiref23_read) 1000 (by kernel_rfl) Tryd.func21 rfl Tryd.checked.mixed hh)
theorem ca_octroiref23_read : callable Tryd.prog 21 := ⟨_, Tryd.func21, by kernel_rfl, by kernel_rfl⟩
set_option maxRecDepth 100000 in
set_option maxHeartbeats 4000000 in
theorem r_octroiref23_read_1 (a0 : ByteArray) (y2 : Nat) (Ay4 : Option Addr) (ny4 : Nat) (cy4 : Nat) (x5 : Int) (u : Nat → Value) {I : Ctx} {h : Mem} {Q : Value → Mem → Prop}
  (hh : holds Tryd.prog 21 I Q
   (.ite (decide ((x5 : Int) ≤ 8))
    (.rd (Instr.indexAt 45 (.slice Ay4 ny4 cy4) (.int .i64 0)) (.one (.sc (.padr))) fun l4 =>
     (.rd (Instr.loadAt 9 (.pointer (some ((l4 0).a)))) (.one (.sc (.str))) fun l5 =>
      (.call 16 [.int .i64 x5] (.one (.sc (.str))) fun l6 => -- octroiref23_Word
       (.pin (vN (Instr.loadAt 9 (.pointer (some ((l4 0).a))))) (.string ((l5 0).s))
        (.pin (vN (Instr.indexAt 45 (.slice Ay4 ny4 cy4) (.int .i64 0))) (.pointer (some ((l4 0).a)))
         (.ite (!(((l6 0).s).toList == ((l5 0).s).toList))
          (.stop k_octroiref23_read_1 (t_octroiref23_read_1 a0 y2 Ay4 ny4 cy4 (IntKind.wrap .i64 (x5 + 1)) (jl [(3, (u 3)), (6, (u 6)), (7, (u 7)), (8, (u 8)), (9, (u 9)), (10, (u 10)), (11, (u 11)), (12, (u 12)), (13, (u 13)), (14, (u 14)), (15, (u 15)), (16, .int .i64 x5), (17, .bool (decide ((x5 : Int) ≤ 8))), (18, .int .i64 x5), (19, .int .i64 (IntKind.wrap .i64 (x5 + 1))), (20, .int .i64 x5), (21, .string ((l6 0).s)), (22, .slice Ay4 ny4 cy4), (23, .pointer (some ((l4 0).a))), (24, .string ((l5 0).s)), (25, .bool (!(((l6 0).s).toList == ((l5 0).s).toList))), (26, .bool true), (27, undef), (28, undef), (29, undef), (30, undef), (31, undef), (32, undef), (33, .bool true), (34, (u 34)), (35, (u 35)), (36, (u 36)), (37, (u 37)), (38, (u 38)), (39, (u 39)), (40, (u 40)), (41, (u 41)), (42, (u 42)), (43, (u 43)), (44, (u 44)), (45, (u 45)), (46, (u 46)), (47, (u 47)), (48, (u 48)), (49, (u 49)), (50, (u 50)), (51, (u 51)), (52, (u 52)), (53, (u 53)), (54, (u 54)), (55, (u 55)), (56, (u 56)), (57, (u 57)), (58, (u 58)), (59, (u 59)), (60, (u 60)), (61, (u 61)), (62, (u 62)), (63, (u 63)), (64, (u 64)), (65, (u 65)), (66, (u 66)), (67, (u 67)), (68, (u 68)), (69, (u 69)), (70, (u 70)), (71, (u 71)), (72, (u 72))])))
          (.call 17 [.int .i64 x5] (.one (.sc (.int .i64))) fun l7 => -- octroiref23_Numbers
           (.ite ((((ny4 : Nat) : Int) : Int) != (IntKind.wrap .i64 (((l7 0).i) + 1)))
            (.stop k_octroiref23_read_1 (t_octroiref23_read_1 a0 y2 Ay4 ny4 cy4 (IntKind.wrap .i64 (x5 + 1)) (jl [(3, (u 3)), (6, (u 6)), (7, (u 7)), (8, (u 8)), (9, (u 9)), (10, (u 10)), (11, (u 11)), (12, (u 12)), (13, (u 13)), (14, (u 14)), (15, (u 15)), (16, .int .i64 x5), (17, .bool (decide ((x5 : Int) ≤ 8))), (18, .int .i64 x5), (19, .int .i64 (IntKind.wrap .i64 (x5 + 1))), (20, .int .i64 x5), (21, .string ((l6 0).s)), (22, .slice Ay4 ny4 cy4), (23, .pointer (some ((l4 0).a))), (24, .string ((l5 0).s)), (25, .bool (!(((l6 0).s).toList == ((l5 0).s).toList))), (26, .bool false), (27, .slice Ay4 ny4 cy4), (28, .int .i64 ((ny4 : Nat) : Int)), (29, .int .i64 x5), (30, .int .i64 ((l7 0).i)), (31, .int .i64 (IntKind.wrap .i64 (((l7 0).i) + 1))), (32, .bool ((((ny4 : Nat) : Int) : Int) != (IntKind.wrap .i64 (((l7 0).i) + 1)))), (33, .bool ((((ny4 : Nat) : Int) : Int) != (IntKind.wrap .i64 (((l7 0).i) + 1)))), (34, (u 34)), (35, (u 35)), (36, (u 36)), (37, (u 37)), (38, (u 38)), (39, (u 39)), (40, (u 40)), (41, (u 41)), (42, (u 42)), (43, (u 43)), (44, (u 44)), (45, (u 45)), (46, (u 46)), (47, (u 47)), (48, (u 48)), (49, (u 49)), (50, (u 50)), (51, (u 51)), (52, (u 52)), (53, (u 53)), (54, (u 54)), (55, (u 55)), (56, (u 56)), (57, (u 57)), (58, (u 58)), (59, (u 59)), (60, (u 60)), (61, (u 61)), (62, (u 62)), (63, (u 63)), (64, (u 64)), (65, (u 65)), (66, (u 66)), (67, (u 67)), (68, (u 68)), (69, (u 69)), (70, (u 70)), (71, (u 71)), (72, (u 72))])))
            (.sem (Instr.makeSlice 73 (.int .i64 3) (.int .i64 3)) (.one (.sc (.sl))) fun l8 =>
             (.stop k_octroiref23_read_2 (t_octroiref23_read_2 a0 y2 Ay4 ny4 cy4 x5 ((l8 0).A) ((l8 0).n) ((l8 0).c) 1 (jl [(3, (u 3)), (8, (u 8)), (9, (u 9)), (10, (u 10)), (11, (u 11)), (12, (u 12)), (13, (u 13)), (14, (u 14)), (15, (u 15)), (16, .int .i64 x5), (17, .bool (decide ((x5 : Int) ≤ 8))), (18, (u 18)), (19, (u 19)), (20, .int .i64 x5), (21, .string ((l6 0).s)), (22, .slice Ay4 ny4 cy4), (23, .pointer (some ((l4 0).a))), (24, .string ((l5 0).s)), (25, .bool (!(((l6 0).s).toList == ((l5 0).s).toList))), (26, .bool false), (27, .slice Ay4 ny4 cy4), (28, .int .i64 ((ny4 : Nat) : Int)), (29, .int .i64 x5), (30, .int .i64 ((l7 0).i)), (31, .int .i64 (IntKind.wrap .i64 (((l7 0).i) + 1))), (32, .bool ((((ny4 : Nat) : Int) : Int) != (IntKind.wrap .i64 (((l7 0).i) + 1)))), (33, .bool ((((ny4 : Nat) : Int) : Int) != (IntKind.wrap .i64 (((l7 0).i) + 1)))), (34, .slice ((l8 0).A) ((l8 0).n) ((l8 0).c)), (35, (u 35)), (36, (u 36)), (37, (u 37)), (38, (u 38)), (39, (u 39)), (40, (u 40)), (41, (u 41)), (42, (u 42)), (43, (u 43)), (44, (u 44)), (45, (u 45)), (46, (u 46)), (47, (u 47)), (48, (u 48)), (49, (u 49)), (50, (u 50)), (51, (u 51)), (52, (u 52)), (53, (u 53)), (54, (u 54)), (55, (u 55)), (56, (u 56)), (57, (u 57)), (58, (u 58)), (59, (u 59)), (60, (u 60)), (61, (u 61)), (62, (u 62)), (63, (u 63)), (64, (u 64)), (65, (u 65)), (66, (u 66)), (67, (u 67)), (68, (u 68)), (69, (u 69)), (70, (u 70)), (71, (u 71)), (72, (u 72))]))))))))))))
    (.unit (Instr.storeAt 35 (.pointer (some ⟨y2, 0, none⟩)) (.agg #[.int .i64 0, .int .i64 0, .int .i64 0, .int .i64 0]))
     (.rd (loadVar 35 ⟨y2, 0, none⟩) (.one (.agg [.int .i64, .int .i64, .int .i64, .int .i64])) fun l9 =>
      (.done (.tuple #[.agg #[.int .i64 ((l9 0).i), .int .i64 ((l9 1).i), .int .i64 ((l9 2).i), .int .i64 ((l9 3).i)], .bool false]))))) h) : Wp Tryd.prog 21 k_octroiref23_read_1 (t_octroiref23_read_1 a0 y2 Ay4 ny4 cy4 x5 u) I h Q :=
  of_tree (cfg := g_octroiref23_read) 1000 (by kernel_rfl) Tryd.func21 rfl Tryd.checked.mixed hh
set_option maxRecDepth 100000 in
set_option maxHeartbeats 4000000 in
theorem r_octroiref23_read_2 (a0 : ByteArray) (y2 : Nat) (Ay4 : Option Addr) (ny4 : Nat) (cy4 : Nat) (x5 : Int) (Ay6 : Option Addr) (ny6 : Nat) (cy6 : Nat) (x7 : Int) (u : Nat → Value) {I : Ctx} {h : Mem} {Q : Value → Mem → Prop}
  (hh : holds Tryd.prog 21 I Q
   (.ite (decide ((x7 : Int) < ((ny4 : Nat) : Int)))
    (.rd (Instr.indexAt 45 (.slice Ay4 ny4 cy4) (.int .i64 x7)) (.one (.sc (.padr))) fun l10 =>
     (.rd (Instr.loadAt 9 (.pointer (some ((l10 0).a)))) (.one (.sc (.str))) fun l11 =>
      (.call 40 [.string ((l11 0).s)] (.one (.sc (.int .i64))) fun l12 => -- octroiref23_number
       (.rd (Instr.indexAt 73 (.slice Ay6 ny6 cy6) (.int .i64 (IntKind.wrap .i64 (x7 - 1)))) (.one (.sc (.padr))) fun l13 =>
        (.unit (Instr.storeAt 3 (.pointer (some ((l13 0).a))) (.int .i64 ((l12 0).i)))
         (.stop k_octroiref23_read_2 (t_octroiref23_read_2 a0 y2 Ay4 ny4 cy4 x5 Ay6 ny6 cy6 (IntKind.wrap .i64 (x7 + 1)) (jl [(3, (u 3)), (8, (u 8)), (9, (u 9)), (10, (u 10)), (11, (u 11)), (12, (u 12)), (13, (u 13)), (14, (u 14)), (15, (u 15)), (16, (u 16)), (17, (u 17)), (18, (u 18)), (19, (u 19)), (20, (u 20)), (21, (u 21)), (22, (u 22)), (23, (u 23)), (24, (u 24)), (25, (u 25)), (26, (u 26)), (27, (u 27)), (28, (u 28)), (29, (u 29)), (30, (u 30)), (31, (u 31)), (32, (u 32)), (33, (u 33)), (34, (u 34)), (35, .int .i64 x7), (36, .slice Ay4 ny4 cy4), (37, .int .i64 ((ny4 : Nat) : Int)), (38, .bool (decide ((x7 : Int) < ((ny4 : Nat) : Int)))), (39, .int .i64 x7), (40, .int .i64 (IntKind.wrap .i64 (x7 + 1))), (41, .slice Ay6 ny6 cy6), (42, .int .i64 x7), (43, .int .i64 (IntKind.wrap .i64 (x7 - 1))), (44, .slice Ay4 ny4 cy4), (45, .int .i64 x7), (46, .pointer (some ((l10 0).a))), (47, .string ((l11 0).s)), (48, .int .i64 ((l12 0).i)), (49, .pointer (some ((l13 0).a))), (50, (u 50)), (51, (u 51)), (52, (u 52)), (53, (u 53)), (54, (u 54)), (55, (u 55)), (56, (u 56)), (57, (u 57)), (58, (u 58)), (59, (u 59)), (60, (u 60)), (61, (u 61)), (62, (u 62)), (63, (u 63)), (64, (u 64)), (65, (u 65)), (66, (u 66)), (67, (u 67)), (68, (u 68)), (69, (u 69)), (70, (u 70)), (71, (u 71)), (72, (u 72))]))))))))
    (.rd (Instr.indexAt 73 (.slice Ay6 ny6 cy6) (.int .i64 0)) (.one (.sc (.padr))) fun l14 =>
     (.rd (Instr.loadAt 3 (.pointer (some ((l14 0).a)))) (.one (.sc (.int .i64))) fun l15 =>
      (.rd (Instr.indexAt 73 (.slice Ay6 ny6 cy6) (.int .i64 1)) (.one (.sc (.padr))) fun l16 =>
       (.rd (Instr.loadAt 3 (.pointer (some ((l16 0).a)))) (.one (.sc (.int .i64))) fun l17 =>
        (.rd (Instr.indexAt 73 (.slice Ay6 ny6 cy6) (.int .i64 2)) (.one (.sc (.padr))) fun l18 =>
         (.rd (Instr.loadAt 3 (.pointer (some ((l18 0).a)))) (.one (.sc (.int .i64))) fun l19 =>
          (.sem (Instr.alloc 35 true (.tuple #[])) shBlk fun l20 =>
           (.unit (Instr.storeAt 35 (.pointer (some ⟨(l20 0).n, 0, none⟩)) (.agg #[.int .i64 x5, .int .i64 ((l15 0).i), .int .i64 ((l17 0).i), .int .i64 ((l19 0).i)]))
            (.rd (Instr.loadAt 35 (.pointer (some ⟨(l20 0).n, 0, none⟩))) (.one (.agg [.int .i64, .int .i64, .int .i64, .int .i64])) fun l21 =>
             (.call 26 [.agg #[.int .i64 ((l21 0).i), .int .i64 ((l21 1).i), .int .i64 ((l21 2).i), .int .i64 ((l21 3).i)]] (.one (.sc (.bool))) fun l22 => -- octroiref23_May
              (.rd (Instr.loadAt 35 (.pointer (some ⟨(l20 0).n, 0, none⟩))) (.one (.agg [.int .i64, .int .i64, .int .i64, .int .i64])) fun l23 =>
               (.ite ((l22 0).b)
                (.rd (Instr.loadAt 35 (.pointer (some ⟨(l20 0).n, 0, none⟩))) (.one (.agg [.int .i64, .int .i64, .int .i64, .int .i64])) fun l24 =>
                 (.rdn (binN .add 9 (.string a0) (.string (ByteArray.mk #[10]))) (.one (.sc (.str))) fun l25 =>
                  (.call 27 [.agg #[.int .i64 ((l24 0).i), .int .i64 ((l24 1).i), .int .i64 ((l24 2).i), .int .i64 ((l24 3).i)]] (.one (.sc (.str))) fun l26 => -- octroiref23_line
                   (.pin (binN .add 9 (.string a0) (.string (ByteArray.mk #[10]))) (.string ((l25 0).s))
                    (.pin (vN (Instr.loadAt 35 (.pointer (some ⟨(l20 0).n, 0, none⟩)))) (.agg #[.int .i64 ((l23 0).i), .int .i64 ((l23 1).i), .int .i64 ((l23 2).i), .int .i64 ((l23 3).i)])
                     (.unit (Instr.storeAt 35 (.pointer (some ⟨y2, 0, none⟩)) (.agg #[.int .i64 ((l23 0).i), .int .i64 ((l23 1).i), .int .i64 ((l23 2).i), .int .i64 ((l23 3).i)]))
                      (.pin (binN .add 9 (.string a0) (.string (ByteArray.mk #[10]))) (.string ((l25 0).s))
                       (.rd (loadVar 35 ⟨y2, 0, none⟩) (.one (.agg [.int .i64, .int .i64, .int .i64, .int .i64])) fun l27 =>
                        (.done (.tuple #[.agg #[.int .i64 ((l27 0).i), .int .i64 ((l27 1).i), .int .i64 ((l27 2).i), .int .i64 ((l27 3).i)], .bool (((l26 0).s).toList == ((l25 0).s).toList)]))))))))))
                (.unit (Instr.storeAt 35 (.pointer (some ⟨y2, 0, none⟩)) (.agg #[.int .i64 ((l23 0).i), .int .i64 ((l23 1).i), .int .i64 ((l23 2).i), .int .i64 ((l23 3).i)]))
                 (.rd (loadVar 35 ⟨y2, 0, none⟩) (.one (.agg [.int .i64, .int .i64, .int .i64, .int .i64])) fun l28 =>
                  (.done (.tuple #[.agg #[.int .i64 ((l28 0).i), .int .i64 ((l28 1).i), .int .i64 ((l28 2).i), .int .i64 ((l28 3).i)], .bool false]))))))))))))))))) h) : Wp Tryd.prog 21 k_octroiref23_read_2 (t_octroiref23_read_2 a0 y2 Ay4 ny4 cy4 x5 Ay6 ny6 cy6 x7 u) I h Q :=
  of_tree (cfg := g_octroiref23_read) 1000 (by kernel_rfl) Tryd.func21 rfl Tryd.checked.mixed hh
/-! ### script_line: function 22 of Go -/
abbrev F_script_line : FuncId := 22
noncomputable def c_script_line : Code := (Tryd.f22.body).getD .skip
def p_script_line : Nat → List (List Nat) := fun r => match r with | 13 => [[], [0], [0, 1], [], [], [3, 4], [0, 1, 2], [0, 1, 2, 3, 4, 5, 6]] | _ => []
noncomputable def g_script_line : Cfg := { sh := shs, fsh := fshs, results := [.tmp 2, .tmp 3], hint := fun r i => match r, i with | 13, 2 => some (true, .one (.sc (.str))) | 13, 5 => some (true, .one (.sc (.bool))) | _, _ => none, ord := fun r => match r with | 13 => some [0, 3, 4, 5, 1, 2, 6, 7] | _ => none, pre := p_script_line, un := unOf p_script_line }
noncomputable def k_script_line_1 : List Item := [.code (bd (bd (sr (sl (sr (sr (sr (sr c_script_line)))))))), .inLoop (bd (bd (sr (sl (sr (sr (sr (sr c_script_line)))))))), .inBlock 0, .code (sr (sr (sr (sr (sr c_script_line)))))]
noncomputable def t_script_line_1 (y5 : Nat) (y22 : Nat) (A6 : Option Addr) (n6 : Nat) (c6 : Nat) (x24 : Int) (u : Nat → Value) : List Value := [(u 0), (u 1), (u 2), (u 3), (u 4), .pointer (some ⟨y5, 0, none⟩), .slice A6 n6 c6, (u 7), (u 8), (u 9), (u 10), (u 11), (u 12), (u 13), (u 14), (u 15), (u 16), (u 17), (u 18), (u 19), (u 20), (u 21), .slice (some ⟨y22, 0, none⟩) 3 3, .int .i64 3, .int .i64 x24, (u 25), (u 26), (u 27), (u 28), (u 29), (u 30), (u 31), (u 32), (u 33), (u 34), (u 35), (u 36), (u 37), (u 38), (u 39), (u 40), (u 41), (u 42), (u 43), (u 44), (u 45), (u 46), (u 47), (u 48), (u 49), (u 50), (u 51), (u 52), (u 53), (u 54), (u 55), (u 56), (u 57), (u 58), (u 59), (u 60)]
set_option maxRecDepth 100000 in
set_option maxHeartbeats 4000000 in
theorem r_script_line (a0_0 : Int) (a0_1 : Int) (a0_2 : Int) (a0_3 : Int) {I : Ctx} {h : Mem} {Q : Value → Mem → Prop}
  (hh : holds Tryd.prog 22 I (cl_ Q)
   (.sem (Instr.box 35 (.agg #[.int .i64 a0_0, .int .i64 a0_1, .int .i64 a0_2, .int .i64 a0_3])) shBlk fun l1 =>
    (.rd (Instr.loadAt 3 (.pointer (some ⟨(l1 0).n, 1, none⟩))) (.one (.sc (.int .i64))) fun l2 =>
     (.rd (Instr.loadAt 3 (.pointer (some ⟨(l1 0).n, 2, none⟩))) (.one (.sc (.int .i64))) fun l3 =>
      (.rd (Instr.loadAt 3 (.pointer (some ⟨(l1 0).n, 3, none⟩))) (.one (.sc (.int .i64))) fun l4 =>
       (.sem (Instr.buildSlice 73 3 #[(0, .int .i64 ((l2 0).i)), (1, .int .i64 ((l3 0).i)), (2, .int .i64 ((l4 0).i))]) (.one (.sc (.row 3))) fun l5 =>
        (.rd (Instr.loadAt 3 (.pointer (some ⟨(l1 0).n, 0, none⟩))) (.one (.sc (.int .i64))) fun l6 =>
         (.call 25 [.int .i64 ((l6 0).i)] (.one (.agg [.str, .int .i64])) fun l7 => -- script_of
          (.sem (Instr.alloc 58 true (.tuple #[])) shBlk fun l8 =>
           (.unit (Instr.storeAt 58 (.pointer (some ⟨(l8 0).n, 0, none⟩)) (.agg #[.string ((l7 0).s), .int .i64 ((l7 1).i)]))
            (.rd (Instr.loadAt 9 (.pointer (some ⟨(l8 0).n, 0, none⟩))) (.one (.sc (.str))) fun l9 =>
             (.sem (Instr.buildSlice 45 1 #[(0, .string ((l9 0).s))]) (.one (.sc (.row 1))) fun l10 =>
              (.stop k_script_line_1 (t_script_line_1 ((l8 0).n) ((l5 0).n) (some ⟨(l10 0).n, 0, none⟩) 1 1 0 (jl [(0, .agg #[.int .i64 a0_0, .int .i64 a0_1, .int .i64 a0_2, .int .i64 a0_3]), (1, .pointer (some ⟨(l1 0).n, 0, none⟩)), (2, .string (ByteArray.mk #[])), (3, .bool false), (4, .slice (some ⟨(l5 0).n, 0, none⟩) 3 3), (7, undef), (8, undef), (9, .pointer (some ⟨(l1 0).n, 1, none⟩)), (10, .int .i64 ((l2 0).i)), (11, .pointer (some ⟨(l1 0).n, 2, none⟩)), (12, .int .i64 ((l3 0).i)), (13, .pointer (some ⟨(l1 0).n, 3, none⟩)), (14, .int .i64 ((l4 0).i)), (15, .slice (some ⟨(l5 0).n, 0, none⟩) 3 3), (16, .pointer (some ⟨(l1 0).n, 0, none⟩)), (17, .int .i64 ((l6 0).i)), (18, .agg #[.string ((l7 0).s), .int .i64 ((l7 1).i)]), (19, .pointer (some ⟨(l8 0).n, 0, none⟩)), (20, .string ((l9 0).s)), (21, .slice (some ⟨(l10 0).n, 0, none⟩) 1 1), (25, undef), (26, undef), (27, undef), (28, undef), (29, undef), (30, undef), (31, undef), (32, undef), (33, undef), (34, undef), (35, undef), (36, undef), (37, undef), (38, undef), (39, undef), (40, undef), (41, undef), (42, undef), (43, undef), (44, undef), (45, undef), (46, undef), (47, undef), (48, undef), (49, undef), (50, undef), (51, undef), (52, undef), (53, undef), (54, undef), (55, undef), (56, undef), (57, undef), (58, undef), (59, undef), (60, undef)])))))))))))))) h) : Fn Tryd.prog 22 #[.agg #[.int .i64 a0_0, .int .i64 a0_1, .int .i64 a0_2, .int .i64 a0_3]] I h Q :=
  Wp.fn (args := [.agg #[.int .i64 a0_0, .int .i64 a0_1, .int .i64 a0_2, .int .i64 a0_3]]) Tryd.func22 rfl (by kernel_rfl) (of_tree (cfg := g_script_line) 1000 (by kernel_rfl) Tryd.func22 rfl Tryd.checked.mixed hh)
theorem ca_script_line : callable Tryd.prog 22 := ⟨_, Tryd.func22, by kernel_rfl, by kernel_rfl⟩
set_option maxRecDepth 100000 in
set_option maxHeartbeats 4000000 in
theorem r_script_line_1 (y5 : Nat) (y22 : Nat) (A6 : Option Addr) (n6 : Nat) (c6 : Nat) (x24 : Int) (u : Nat → Value) {I : Ctx} {h : Mem} {Q : Value → Mem → Prop}
  (hh : holds Tryd.prog 22 I Q
   (.ite (decide ((x24 : Int) < 3))
    (.rd (Instr.indexAt 73 (.slice (some ⟨y22, 0, none⟩) 3 3) (.int .i64 x24)) (.one (.sc (.padr))) fun l11 =>
     (.rd (Instr.loadAt 3 (.pointer (some ((l11 0).a)))) (.one (.sc (.int .i64))) fun l12 =>
      (.rd (Instr.loadAt 3 (.pointer (some ⟨y5, 1, none⟩))) (.one (.sc (.int .i64))) fun l13 =>
       (.ite (decide ((x24 : Int) ≥ ((l13 0).i)))
        (.ite (((l12 0).i : Int) != 0)
         (.ite (((l12 0).i : Int) != 0)
          (.done (.tuple #[.string (ByteArray.mk #[]), .bool false]))
          (.rd (Instr.loadAt 3 (.pointer (some ⟨y5, 1, none⟩))) (.one (.sc (.int .i64))) fun l14 =>
           (.ite (decide ((x24 : Int) < ((l14 0).i)))
            (.call 41 [.int .i64 ((l12 0).i)] (.one (.sc (.str))) fun l15 => -- strconv_Itoa
             (.sem (Instr.buildSlice 45 1 #[(0, .string ((l15 0).s))]) (.one (.sc (.row 1))) fun l16 =>
              (.nx (builtin .append #[45, 45] 45 #[false, false] #[.slice A6 n6 c6, .slice (some ⟨(l16 0).n, 0, none⟩) 1 1]) (.one (.sc (.sl))) fun l17 =>
               (.stop k_script_line_1 (t_script_line_1 y5 y22 ((l17 0).A) ((l17 0).n) ((l17 0).c) (IntKind.wrap .i64 (x24 + 1)) (jl [(0, (u 0)), (1, (u 1)), (2, (u 2)), (3, (u 3)), (4, (u 4)), (7, .int .i64 x24), (8, .int .i64 ((l12 0).i)), (9, (u 9)), (10, (u 10)), (11, (u 11)), (12, (u 12)), (13, (u 13)), (14, (u 14)), (15, (u 15)), (16, (u 16)), (17, (u 17)), (18, (u 18)), (19, (u 19)), (20, (u 20)), (21, (u 21)), (25, .bool (decide ((x24 : Int) < 3))), (26, .int .i64 x24), (27, .pointer (some ((l11 0).a))), (28, .int .i64 ((l12 0).i)), (29, .bool (((l12 0).i : Int) != 0)), (30, .int .i64 x24), (31, .pointer (some ⟨y5, 1, none⟩)), (32, .int .i64 ((l13 0).i)), (33, .bool (decide ((x24 : Int) ≥ ((l13 0).i)))), (34, .bool true), (35, .int .i64 ((l12 0).i)), (36, .bool (((l12 0).i : Int) != 0)), (37, .bool (((l12 0).i : Int) != 0)), (38, (u 38)), (39, (u 39)), (40, (u 40)), (41, (u 41)), (42, (u 42)), (43, (u 43)), (44, .bool (decide ((x24 : Int) < ((l14 0).i)))), (45, .int .i64 x24), (46, .pointer (some ⟨y5, 1, none⟩)), (47, .int .i64 ((l14 0).i)), (48, .bool (decide ((x24 : Int) < ((l14 0).i)))), (49, .slice A6 n6 c6), (50, .int .i64 ((l12 0).i)), (51, .string ((l15 0).s)), (52, .slice (some ⟨(l16 0).n, 0, none⟩) 1 1), (53, .slice ((l17 0).A) ((l17 0).n) ((l17 0).c)), (54, .int .i64 (IntKind.wrap .i64 (x24 + 1))), (55, (u 55)), (56, (u 56)), (57, (u 57)), (58, (u 58)), (59, (u 59)), (60, (u 60))]))))))
            (.stop k_script_line_1 (t_script_line_1 y5 y22 A6 n6 c6 (IntKind.wrap .i64 (x24 + 1)) (jl [(0, (u 0)), (1, (u 1)), (2, (u 2)), (3, (u 3)), (4, (u 4)), (7, .int .i64 x24), (8, .int .i64 ((l12 0).i)), (9, (u 9)), (10, (u 10)), (11, (u 11)), (12, (u 12)), (13, (u 13)), (14, (u 14)), (15, (u 15)), (16, (u 16)), (17, (u 17)), (18, (u 18)), (19, (u 19)), (20, (u 20)), (21, (u 21)), (25, .bool (decide ((x24 : Int) < 3))), (26, .int .i64 x24), (27, .pointer (some ((l11 0).a))), (28, .int .i64 ((l12 0).i)), (29, .bool (((l12 0).i : Int) != 0)), (30, .int .i64 x24), (31, .pointer (some ⟨y5, 1, none⟩)), (32, .int .i64 ((l13 0).i)), (33, .bool (decide ((x24 : Int) ≥ ((l13 0).i)))), (34, .bool true), (35, .int .i64 ((l12 0).i)), (36, .bool (((l12 0).i : Int) != 0)), (37, .bool (((l12 0).i : Int) != 0)), (38, (u 38)), (39, (u 39)), (40, (u 40)), (41, (u 41)), (42, (u 42)), (43, (u 43)), (44, .bool (decide ((x24 : Int) < ((l14 0).i)))), (45, .int .i64 x24), (46, .pointer (some ⟨y5, 1, none⟩)), (47, .int .i64 ((l14 0).i)), (48, .bool (decide ((x24 : Int) < ((l14 0).i)))), (49, (u 49)), (50, (u 50)), (51, (u 51)), (52, (u 52)), (53, (u 53)), (54, .int .i64 (IntKind.wrap .i64 (x24 + 1))), (55, (u 55)), (56, (u 56)), (57, (u 57)), (58, (u 58)), (59, (u 59)), (60, (u 60))]))))))
         (.ite (decide (((l12 0).i : Int) < 0))
          (.done (.tuple #[.string (ByteArray.mk #[]), .bool false]))
          (.ite (decide (((l12 0).i : Int) > 1000000000))
           (.done (.tuple #[.string (ByteArray.mk #[]), .bool false]))
           (.rd (Instr.loadAt 3 (.pointer (some ⟨y5, 1, none⟩))) (.one (.sc (.int .i64))) fun l18 =>
            (.ite (decide ((x24 : Int) < ((l18 0).i)))
             (.call 41 [.int .i64 ((l12 0).i)] (.one (.sc (.str))) fun l19 => -- strconv_Itoa
              (.sem (Instr.buildSlice 45 1 #[(0, .string ((l19 0).s))]) (.one (.sc (.row 1))) fun l20 =>
               (.nx (builtin .append #[45, 45] 45 #[false, false] #[.slice A6 n6 c6, .slice (some ⟨(l20 0).n, 0, none⟩) 1 1]) (.one (.sc (.sl))) fun l21 =>
                (.stop k_script_line_1 (t_script_line_1 y5 y22 ((l21 0).A) ((l21 0).n) ((l21 0).c) (IntKind.wrap .i64 (x24 + 1)) (jl [(0, (u 0)), (1, (u 1)), (2, (u 2)), (3, (u 3)), (4, (u 4)), (7, .int .i64 x24), (8, .int .i64 ((l12 0).i)), (9, (u 9)), (10, (u 10)), (11, (u 11)), (12, (u 12)), (13, (u 13)), (14, (u 14)), (15, (u 15)), (16, (u 16)), (17, (u 17)), (18, (u 18)), (19, (u 19)), (20, (u 20)), (21, (u 21)), (25, .bool (decide ((x24 : Int) < 3))), (26, .int .i64 x24), (27, .pointer (some ((l11 0).a))), (28, .int .i64 ((l12 0).i)), (29, .bool (decide (((l12 0).i : Int) > 1000000000))), (30, .int .i64 x24), (31, .pointer (some ⟨y5, 1, none⟩)), (32, .int .i64 ((l13 0).i)), (33, .bool (decide ((x24 : Int) ≥ ((l13 0).i)))), (34, .bool true), (35, .int .i64 ((l12 0).i)), (36, .bool (((l12 0).i : Int) != 0)), (37, .bool (((l12 0).i : Int) != 0)), (38, .int .i64 ((l12 0).i)), (39, .bool (decide (((l12 0).i : Int) < 0))), (40, .bool false), (41, .int .i64 ((l12 0).i)), (42, .bool (decide (((l12 0).i : Int) > 1000000000))), (43, .bool (decide (((l12 0).i : Int) > 1000000000))), (44, .bool (decide ((x24 : Int) < ((l18 0).i)))), (45, .int .i64 x24), (46, .pointer (some ⟨y5, 1, none⟩)), (47, .int .i64 ((l18 0).i)), (48, .bool (decide ((x24 : Int) < ((l18 0).i)))), (49, .slice A6 n6 c6), (50, .int .i64 ((l12 0).i)), (51, .string ((l19 0).s)), (52, .slice (some ⟨(l20 0).n, 0, none⟩) 1 1), (53, .slice ((l21 0).A) ((l21 0).n) ((l21 0).c)), (54, .int .i64 (IntKind.wrap .i64 (x24 + 1))), (55, (u 55)), (56, (u 56)), (57, (u 57)), (58, (u 58)), (59, (u 59)), (60, (u 60))]))))))
             (.stop k_script_line_1 (t_script_line_1 y5 y22 A6 n6 c6 (IntKind.wrap .i64 (x24 + 1)) (jl [(0, (u 0)), (1, (u 1)), (2, (u 2)), (3, (u 3)), (4, (u 4)), (7, .int .i64 x24), (8, .int .i64 ((l12 0).i)), (9, (u 9)), (10, (u 10)), (11, (u 11)), (12, (u 12)), (13, (u 13)), (14, (u 14)), (15, (u 15)), (16, (u 16)), (17, (u 17)), (18, (u 18)), (19, (u 19)), (20, (u 20)), (21, (u 21)), (25, .bool (decide ((x24 : Int) < 3))), (26, .int .i64 x24), (27, .pointer (some ((l11 0).a))), (28, .int .i64 ((l12 0).i)), (29, .bool (decide (((l12 0).i : Int) > 1000000000))), (30, .int .i64 x24), (31, .pointer (some ⟨y5, 1, none⟩)), (32, .int .i64 ((l13 0).i)), (33, .bool (decide ((x24 : Int) ≥ ((l13 0).i)))), (34, .bool true), (35, .int .i64 ((l12 0).i)), (36, .bool (((l12 0).i : Int) != 0)), (37, .bool (((l12 0).i : Int) != 0)), (38, .int .i64 ((l12 0).i)), (39, .bool (decide (((l12 0).i : Int) < 0))), (40, .bool false), (41, .int .i64 ((l12 0).i)), (42, .bool (decide (((l12 0).i : Int) > 1000000000))), (43, .bool (decide (((l12 0).i : Int) > 1000000000))), (44, .bool (decide ((x24 : Int) < ((l18 0).i)))), (45, .int .i64 x24), (46, .pointer (some ⟨y5, 1, none⟩)), (47, .int .i64 ((l18 0).i)), (48, .bool (decide ((x24 : Int) < ((l18 0).i)))), (49, (u 49)), (50, (u 50)), (51, (u 51)), (52, (u 52)), (53, (u 53)), (54, .int .i64 (IntKind.wrap .i64 (x24 + 1))), (55, (u 55)), (56, (u 56)), (57, (u 57)), (58, (u 58)), (59, (u 59)), (60, (u 60))]))))))))
        (.ite (decide (((l12 0).i : Int) < 0))
         (.done (.tuple #[.string (ByteArray.mk #[]), .bool false]))
         (.ite (decide (((l12 0).i : Int) > 1000000000))
          (.done (.tuple #[.string (ByteArray.mk #[]), .bool false]))
          (.rd (Instr.loadAt 3 (.pointer (some ⟨y5, 1, none⟩))) (.one (.sc (.int .i64))) fun l22 =>
           (.ite (decide ((x24 : Int) < ((l22 0).i)))
            (.call 41 [.int .i64 ((l12 0).i)] (.one (.sc (.str))) fun l23 => -- strconv_Itoa
             (.sem (Instr.buildSlice 45 1 #[(0, .string ((l23 0).s))]) (.one (.sc (.row 1))) fun l24 =>
              (.nx (builtin .append #[45, 45] 45 #[false, false] #[.slice A6 n6 c6, .slice (some ⟨(l24 0).n, 0, none⟩) 1 1]) (.one (.sc (.sl))) fun l25 =>
               (.stop k_script_line_1 (t_script_line_1 y5 y22 ((l25 0).A) ((l25 0).n) ((l25 0).c) (IntKind.wrap .i64 (x24 + 1)) (jl [(0, (u 0)), (1, (u 1)), (2, (u 2)), (3, (u 3)), (4, (u 4)), (7, .int .i64 x24), (8, .int .i64 ((l12 0).i)), (9, (u 9)), (10, (u 10)), (11, (u 11)), (12, (u 12)), (13, (u 13)), (14, (u 14)), (15, (u 15)), (16, (u 16)), (17, (u 17)), (18, (u 18)), (19, (u 19)), (20, (u 20)), (21, (u 21)), (25, .bool (decide ((x24 : Int) < 3))), (26, .int .i64 x24), (27, .pointer (some ((l11 0).a))), (28, .int .i64 ((l12 0).i)), (29, .bool (decide (((l12 0).i : Int) > 1000000000))), (30, .int .i64 x24), (31, .pointer (some ⟨y5, 1, none⟩)), (32, .int .i64 ((l13 0).i)), (33, .bool (decide ((x24 : Int) ≥ ((l13 0).i)))), (34, .bool false), (35, undef), (36, undef), (37, .bool false), (38, .int .i64 ((l12 0).i)), (39, .bool (decide (((l12 0).i : Int) < 0))), (40, .bool false), (41, .int .i64 ((l12 0).i)), (42, .bool (decide (((l12 0).i : Int) > 1000000000))), (43, .bool (decide (((l12 0).i : Int) > 1000000000))), (44, .bool (decide ((x24 : Int) < ((l22 0).i)))), (45, .int .i64 x24), (46, .pointer (some ⟨y5, 1, none⟩)), (47, .int .i64 ((l22 0).i)), (48, .bool (decide ((x24 : Int) < ((l22 0).i)))), (49, .slice A6 n6 c6), (50, .int .i64 ((l12 0).i)), (51, .string ((l23 0).s)), (52, .slice (some ⟨(l24 0).n, 0, none⟩) 1 1), (53, .slice ((l25 0).A) ((l25 0).n) ((l25 0).c)), (54, .int .i64 (IntKind.wrap .i64 (x24 + 1))), (55, (u 55)), (56, (u 56)), (57, (u 57)), (58, (u 58)), (59, (u 59)), (60, (u 60))]))))))
            (.stop k_script_line_1 (t_script_line_1 y5 y22 A6 n6 c6 (IntKind.wrap .i64 (x24 + 1)) (jl [(0, (u 0)), (1, (u 1)), (2, (u 2)), (3, (u 3)), (4, (u 4)), (7, .int .i64 x24), (8, .int .i64 ((l12 0).i)), (9, (u 9)), (10, (u 10)), (11, (u 11)), (12, (u 12)), (13, (u 13)), (14, (u 14)), (15, (u 15)), (16, (u 16)), (17, (u 17)), (18, (u 18)), (19, (u 19)), (20, (u 20)), (21, (u 21)), (25, .bool (decide ((x24 : Int) < 3))), (26, .int .i64 x24), (27, .pointer (some ((l11 0).a))), (28, .int .i64 ((l12 0).i)), (29, .bool (decide (((l12 0).i : Int) > 1000000000))), (30, .int .i64 x24), (31, .pointer (some ⟨y5, 1, none⟩)), (32, .int .i64 ((l13 0).i)), (33, .bool (decide ((x24 : Int) ≥ ((l13 0).i)))), (34, .bool false), (35, undef), (36, undef), (37, .bool false), (38, .int .i64 ((l12 0).i)), (39, .bool (decide (((l12 0).i : Int) < 0))), (40, .bool false), (41, .int .i64 ((l12 0).i)), (42, .bool (decide (((l12 0).i : Int) > 1000000000))), (43, .bool (decide (((l12 0).i : Int) > 1000000000))), (44, .bool (decide ((x24 : Int) < ((l22 0).i)))), (45, .int .i64 x24), (46, .pointer (some ⟨y5, 1, none⟩)), (47, .int .i64 ((l22 0).i)), (48, .bool (decide ((x24 : Int) < ((l22 0).i)))), (49, (u 49)), (50, (u 50)), (51, (u 51)), (52, (u 52)), (53, (u 53)), (54, .int .i64 (IntKind.wrap .i64 (x24 + 1))), (55, (u 55)), (56, (u 56)), (57, (u 57)), (58, (u 58)), (59, (u 59)), (60, (u 60))])))))))))))
    (.rd (Instr.loadAt 58 (.pointer (some ⟨y5, 0, none⟩))) (.one (.agg [.str, .int .i64])) fun l26 =>
     (.rdn (eqN .neq 58 (.tmp 0) (.tmp 0) (.agg #[.string ((l26 0).s), .int .i64 ((l26 1).i)]) (.agg #[.string (ByteArray.mk #[]), .int .i64 0])) (.one (.sc (.bool))) fun l27 =>
      (.call 42 [.slice A6 n6 c6, .string (ByteArray.mk #[32])] (.one (.sc (.str))) fun l28 => -- strings_Join
       (.pin (eqN .neq 58 (.tmp 0) (.tmp 0) (.agg #[.string ((l26 0).s), .int .i64 ((l26 1).i)]) (.agg #[.string (ByteArray.mk #[]), .int .i64 0])) (.bool ((l27 0).b))
        (.pin (vN (Instr.loadAt 58 (.pointer (some ⟨y5, 0, none⟩)))) (.agg #[.string ((l26 0).s), .int .i64 ((l26 1).i)])
         (.rdn (binN .add 9 (.string ((l28 0).s)) (.string (ByteArray.mk #[10]))) (.one (.sc (.str))) fun l29 =>
          (.done (.tuple #[.string ((l29 0).s), .bool ((l27 0).b)]))))))))) h) : Wp Tryd.prog 22 k_script_line_1 (t_script_line_1 y5 y22 A6 n6 c6 x24 u) I h Q :=
  of_tree (cfg := g_script_line) 1000 (by kernel_rfl) Tryd.func22 rfl Tryd.checked.mixed hh
/-! ### strings_Builder_WriteString: function 23 of Go -/
abbrev F_strings_Builder_WriteString : FuncId := 23
noncomputable def c_strings_Builder_WriteString : Code := (Tryd.f23.body).getD .skip
noncomputable def g_strings_Builder_WriteString : Cfg := { sh := shs, fsh := fshs, results := [.tmp 4, .tmp 5], hint := fun _ _ => none, ord := fun _ => none, pre := fun _ => [], un := fun _ _ _ => false }
set_option maxRecDepth 100000 in
set_option maxHeartbeats 4000000 in
theorem r_strings_Builder_WriteString (a0 : Addr) (a1 : ByteArray) {I : Ctx} {h : Mem} {Q : Value → Mem → Prop}
  (hh : holds Tryd.prog 23 I (cl_ Q)
   (.call 43 [.pointer (some a0)] (.tup []) fun l1 => -- strings_Builder_copyCheck
    (.rd (Instr.loadAt 47 (.pointer (some (a0.add 1)))) (.one (.sc (.sl))) fun l2 =>
     (.nx (builtin .append #[47, 9] 47 #[false, false] #[.slice ((l2 0).A) ((l2 0).n) ((l2 0).c), .string a1]) (.one (.sc (.sl))) fun l3 =>
      (.unit (Instr.storeAt 47 (.pointer (some (a0.add 1))) (.slice ((l3 0).A) ((l3 0).n) ((l3 0).c)))
       (.done (.tuple #[.int .i64 ((a1.size : Nat) : Int), .nilIface])))))) h) : Fn Tryd.prog 23 #[.pointer (some a0), .string a1] I h Q :=
  Wp.fn (args := [.pointer (some a0), .string a1]) Tryd.func23 rfl (by kernel_rfl) (of_tree (cfg := g_strings_Builder_WriteString) 1000 (by kernel_rfl) Tryd.func23 rfl Tryd.checked.mixed hh)
theorem ca_strings_Builder_WriteString : callable Tryd.prog 23 := ⟨_, Tryd.func23, by kernel_rfl, by kernel_rfl⟩
/-! ### strings_Builder_String: function 24 of Go -/
abbrev F_strings_Builder_String : FuncId := 24
noncomputable def c_strings_Builder_String : Code := (Tryd.f24.body).getD .skip
def p_strings_Builder_String : Nat → List (List Nat) := fun r => match r with | 1 => [[], [0], [0, 1], [0, 1, 2], [0, 1, 2, 3], [], [5], [5, 6], [5, 6, 7], [5, 6, 7, 8], [0, 1, 2, 3, 4, 5, 6, 7, 8, 9], [0, 1, 2, 3, 4, 5, 6, 7, 8, 9, 10]] | _ => []
noncomputable def g_strings_Builder_String : Cfg := { sh := shs, fsh := fshs, results := [.tmp 2], hint := fun _ _ => none, ord := fun r => match r with | 1 => some [0, 1, 2, 3, 5, 6, 7, 8, 9, 4, 10, 11] | _ => none, pre := p_strings_Builder_String, un := unOf p_strings_Builder_String }
set_option maxRecDepth 100000 in
set_option maxHeartbeats 4000000 in
theorem r_strings_Builder_String (a0 : Addr) {I : Ctx} {h : Mem} {Q : Value → Mem → Prop}
  (hh : holds Tryd.prog 24 I (cl_ Q)
   (.rd (Instr.loadAt 47 (.pointer (some (a0.add 1)))) (.one (.sc (.sl))) fun l1 =>
    (.rd (Instr.loadAt 47 (.pointer (some (a0.add 1)))) (.one (.sc (.sl))) fun l2 =>
     (.nx (builtin .unsafeSliceData #[47] 75 #[false] #[.slice ((l1 0).A) ((l1 0).n) ((l1 0).c)]) (.one (.sc (.ptr))) fun l3 =>
      (.pin (vN (Instr.loadAt 47 (.pointer (some (a0.add 1))))) (.slice ((l2 0).A) ((l2 0).n) ((l2 0).c))
       (.nx (builtin .unsafeString #[75, 3] 9 #[false, false] #[.pointer ((l3 0).A), .int .i64 (((l2 0).n : Nat) : Int)]) (.one (.sc (.str))) fun l4 =>
        (.done (.string ((l4 0).s)))))))) h) : Fn Tryd.prog 24 #[.pointer (some a0)] I h Q :=
  Wp.fn (args := [.pointer (some a0)]) Tryd.func24 rfl (by kernel_rfl) (of_tree (cfg := g_strings_Builder_String) 1000 (by kernel_rfl) Tryd.func24 rfl Tryd.checked.mixed hh)
theorem ca_strings_Builder_String : callable Tryd.prog 24 := ⟨_, Tryd.func24, by kernel_rfl, by kernel_rfl⟩
/-! ### script_of: function 25 of Go -/
abbrev F_script_of : FuncId := 25
noncomputable def c_script_of : Code := (Tryd.f25.body).getD .skip
noncomputable def g_script_of : Cfg := { sh := shs, fsh := fshs, results := [.cell 2 58], hint := fun _ _ => none, ord := fun _ => none, pre := fun _ => [], un := fun _ _ _ => false }
set_option maxRecDepth 100000 in
set_option maxHeartbeats 4000000 in
theorem r_script_of (a0 : Int) {I : Ctx} {h : Mem} {Q : Value → Mem → Prop}
  (hh : holds Tryd.prog 25 I (cl_ Q)
   (.sem (Instr.alloc 58 true (.tuple #[])) shBlk fun l1 =>
    (.call 35 [] (.one (.agg [.str, .int .i64, .str, .int .i64, .str, .int .i64, .str, .int .i64, .str, .int .i64, .str, .int .i64, .str, .int .i64, .str, .int .i64, .str, .int .i64])) fun l2 => -- script_forms
     (.sem (Instr.alloc 66 true (.tuple #[])) shBlk fun l3 =>
      (.unit (Instr.storeAt 66 (.pointer (some ⟨(l3 0).n, 0, none⟩)) (.agg #[.string ((l2 0).s), .int .i64 ((l2 1).i), .string ((l2 2).s), .int .i64 ((l2 3).i), .string ((l2 4).s), .int .i64 ((l2 5).i), .string ((l2 6).s), .int .i64 ((l2 7).i), .string ((l2 8).s), .int .i64 ((l2 9).i), .string ((l2 10).s), .int .i64 ((l2 11).i), .string ((l2 12).s), .int .i64 ((l2 13).i), .string ((l2 14).s), .int .i64 ((l2 15).i), .string ((l2 16).s), .int .i64 ((l2 17).i)]))
       (.ite (decide ((a0 : Int) < 0))
        (.unit (Instr.storeAt 58 (.pointer (some ⟨(l1 0).n, 0, none⟩)) (.agg #[.string (ByteArray.mk #[]), .int .i64 0]))
         (.rd (loadVar 58 ⟨(l1 0).n, 0, none⟩) (.one (.agg [.str, .int .i64])) fun l4 =>
          (.done (.agg #[.string ((l4 0).s), .int .i64 ((l4 1).i)]))))
        (.ite (decide ((a0 : Int) ≥ 9))
         (.unit (Instr.storeAt 58 (.pointer (some ⟨(l1 0).n, 0, none⟩)) (.agg #[.string (ByteArray.mk #[]), .int .i64 0]))
          (.rd (loadVar 58 ⟨(l1 0).n, 0, none⟩) (.one (.agg [.str, .int .i64])) fun l5 =>
           (.done (.agg #[.string ((l5 0).s), .int .i64 ((l5 1).i)]))))
         (.rd (Instr.indexAt 66 (.pointer (some ⟨(l3 0).n, 0, none⟩)) (.int .i64 a0)) (.one (.sc (.padr))) fun l6 =>
          (.rd (Instr.loadAt 58 (.pointer (some ((l6 0).a)))) (.one (.agg [.str, .int .i64])) fun l7 =>
           (.unit (Instr.storeAt 58 (.pointer (some ⟨(l1 0).n, 0, none⟩)) (.agg #[.string ((l7 0).s), .int .i64 ((l7 1).i)]))
            (.rd (loadVar 58 ⟨(l1 0).n, 0, none⟩) (.one (.agg [.str, .int .i64])) fun l8 =>
             (.done (.agg #[.string ((l8 0).s), .int .i64 ((l8 1).i)])))))))))))) h) : Fn Tryd.prog 25 #[.int .i64 a0] I h Q :=
  Wp.fn (args := [.int .i64 a0]) Tryd.func25 rfl (by kernel_rfl) (of_tree (cfg := g_script_of) 1000 (by kernel_rfl) Tryd.func25 rfl Tryd.checked.mixed hh)
theorem ca_script_of : callable Tryd.prog 25 := ⟨_, Tryd.func25, by kernel_rfl, by kernel_rfl⟩
/-! ### octroiref23_May: function 26 of Go -/
abbrev F_octroiref23_May : FuncId := 26
noncomputable def c_octroiref23_May : Code := (Tryd.f26.body).getD .skip
noncomputable def g_octroiref23_May : Cfg := { sh := shs, fsh := fshs, results := [.tmp 2], hint := fun _ _ => none, ord := fun _ => none, pre := fun _ => [], un := fun _ _ _ => false }
noncomputable def k_octroiref23_May_1 : List Item := [.code (bd (bd (sr (sl (sr (sr (sr (sr c_octroiref23_May)))))))), .inLoop (bd (bd (sr (sl (sr (sr (sr (sr c_octroiref23_May)))))))), .inBlock 0, .code (sr (sr (sr (sr (sr c_octroiref23_May)))))]
noncomputable def t_octroiref23_May_1 (y3 : Int) (Ay4 : Option Addr) (ny4 : Nat) (cy4 : Nat) (x5 : Int) (u : Nat → Value) : List Value := [(u 0), (u 1), (u 2), .int .i64 y3, .slice Ay4 ny4 cy4, .int .i64 x5, (u 6), (u 7), (u 8), (u 9), (u 10), (u 11), (u 12), (u 13), (u 14), (u 15), (u 16), (u 17), (u 18), (u 19), (u 20), (u 21), (u 22), (u 23), (u 24), (u 25), (u 26), (u 27), (u 28), (u 29), (u 30), (u 31), (u 32), (u 33), (u 34), (u 35), (u 36), (u 37), (u 38), (u 39), (u 40), (u 41), (u 42), (u 43), (u 44), (u 45)]
set_option maxRecDepth 100000 in
set_option maxHeartbeats 4000000 in
theorem r_octroiref23_May (a0_0 : Int) (a0_1 : Int) (a0_2 : Int) (a0_3 : Int) {I : Ctx} {h : Mem} {Q : Value → Mem → Prop}
  (hh : holds Tryd.prog 26 I (cl_ Q)
   (.sem (Instr.box 35 (.agg #[.int .i64 a0_0, .int .i64 a0_1, .int .i64 a0_2, .int .i64 a0_3])) shBlk fun l1 =>
    (.rd (Instr.loadAt 3 (.pointer (some ⟨(l1 0).n, 0, none⟩))) (.one (.sc (.int .i64))) fun l2 =>
     (.call 17 [.int .i64 ((l2 0).i)] (.one (.sc (.int .i64))) fun l3 => -- octroiref23_Numbers
      (.ite (((l3 0).i : Int) == 0)
       (.done (.bool false))
       (.rd (Instr.loadAt 35 (.pointer (some ⟨(l1 0).n, 0, none⟩))) (.one (.agg [.int .i64, .int .i64, .int .i64, .int .i64])) fun l4 =>
        (.call 44 [.agg #[.int .i64 ((l4 0).i), .int .i64 ((l4 1).i), .int .i64 ((l4 2).i), .int .i64 ((l4 3).i)]] (.one (.sc (.sl))) fun l5 => -- octroiref23_numbers
         (.stop k_octroiref23_May_1 (t_octroiref23_May_1 ((l3 0).i) ((l5 0).A) ((l5 0).n) ((l5 0).c) 0 (jl [(0, .agg #[.int .i64 a0_0, .int .i64 a0_1, .int .i64 a0_2, .int .i64 a0_3]), (1, .pointer (some ⟨(l1 0).n, 0, none⟩)), (2, .bool false), (6, .pointer (some ⟨(l1 0).n, 0, none⟩)), (7, .int .i64 ((l2 0).i)), (8, .int .i64 ((l3 0).i)), (9, .int .i64 ((l3 0).i)), (10, .bool (((l3 0).i : Int) == 0)), (11, .agg #[.int .i64 ((l4 0).i), .int .i64 ((l4 1).i), .int .i64 ((l4 2).i), .int .i64 ((l4 3).i)]), (12, .slice ((l5 0).A) ((l5 0).n) ((l5 0).c)), (13, undef), (14, undef), (15, undef), (16, undef), (17, undef), (18, undef), (19, undef), (20, undef), (21, undef), (22, undef), (23, undef), (24, undef), (25, undef), (26, undef), (27, undef), (28, undef), (29, undef), (30, undef), (31, undef), (32, undef), (33, undef), (34, undef), (35, undef), (36, undef), (37, undef), (38, undef), (39, undef), (40, undef), (41, undef), (42, undef), (43, undef), (44, undef), (45, undef)]))))))))) h) : Fn Tryd.prog 26 #[.agg #[.int .i64 a0_0, .int .i64 a0_1, .int .i64 a0_2, .int .i64 a0_3]] I h Q :=
  Wp.fn (args := [.agg #[.int .i64 a0_0, .int .i64 a0_1, .int .i64 a0_2, .int .i64 a0_3]]) Tryd.func26 rfl (by kernel_rfl) (of_tree (cfg := g_octroiref23_May) 1000 (by kernel_rfl) Tryd.func26 rfl Tryd.checked.mixed hh)
theorem ca_octroiref23_May : callable Tryd.prog 26 := ⟨_, Tryd.func26, by kernel_rfl, by kernel_rfl⟩
set_option maxRecDepth 100000 in
set_option maxHeartbeats 4000000 in
theorem r_octroiref23_May_1 (y3 : Int) (Ay4 : Option Addr) (ny4 : Nat) (cy4 : Nat) (x5 : Int) (u : Nat → Value) {I : Ctx} {h : Mem} {Q : Value → Mem → Prop}
  (hh : holds Tryd.prog 26 I Q
   (.ite (decide ((x5 : Int) < 3))
    (.ite (decide ((x5 : Int) < y3))
     (.rd (Instr.indexAt 73 (.slice Ay4 ny4 cy4) (.int .i64 x5)) (.one (.sc (.padr))) fun l6 =>
      (.rd (Instr.loadAt 3 (.pointer (some ((l6 0).a)))) (.one (.sc (.int .i64))) fun l7 =>
       (.ite (decide (((l7 0).i : Int) < 0))
        (.done (.bool false))
        (.rd (Instr.indexAt 73 (.slice Ay4 ny4 cy4) (.int .i64 x5)) (.one (.sc (.padr))) fun l8 =>
         (.rd (Instr.loadAt 3 (.pointer (some ((l8 0).a)))) (.one (.sc (.int .i64))) fun l9 =>
          (.ite (decide (((l9 0).i : Int) > 1000000000))
           (.done (.bool false))
           (.ite (decide ((x5 : Int) ≥ y3))
            (.rd (Instr.indexAt 73 (.slice Ay4 ny4 cy4) (.int .i64 x5)) (.one (.sc (.padr))) fun l10 =>
             (.rd (Instr.loadAt 3 (.pointer (some ((l10 0).a)))) (.one (.sc (.int .i64))) fun l11 =>
              (.ite (((l11 0).i : Int) != 0)
               (.done (.bool false))
               (.stop k_octroiref23_May_1 (t_octroiref23_May_1 y3 Ay4 ny4 cy4 (IntKind.wrap .i64 (x5 + 1)) (jl [(0, (u 0)), (1, (u 1)), (2, (u 2)), (6, (u 6)), (7, (u 7)), (8, (u 8)), (9, (u 9)), (10, (u 10)), (11, (u 11)), (12, (u 12)), (13, .int .i64 x5), (14, .bool (decide ((x5 : Int) < 3))), (15, .int .i64 x5), (16, .int .i64 (IntKind.wrap .i64 (x5 + 1))), (17, .int .i64 x5), (18, .int .i64 y3), (19, .bool (decide ((x5 : Int) < y3))), (20, .bool true), (21, .slice Ay4 ny4 cy4), (22, .int .i64 x5), (23, .pointer (some ((l6 0).a))), (24, .int .i64 ((l7 0).i)), (25, .bool (decide (((l7 0).i : Int) < 0))), (26, .bool false), (27, .slice Ay4 ny4 cy4), (28, .int .i64 x5), (29, .pointer (some ((l8 0).a))), (30, .int .i64 ((l9 0).i)), (31, .bool (decide (((l9 0).i : Int) > 1000000000))), (32, .bool (decide (((l9 0).i : Int) > 1000000000))), (33, .bool (decide (((l9 0).i : Int) > 1000000000))), (34, .bool false), (35, .int .i64 x5), (36, .int .i64 y3), (37, .bool (decide ((x5 : Int) ≥ y3))), (38, .bool true), (39, .slice Ay4 ny4 cy4), (40, .int .i64 x5), (41, .pointer (some ((l10 0).a))), (42, .int .i64 ((l11 0).i)), (43, .bool (((l11 0).i : Int) != 0)), (44, .bool (((l11 0).i : Int) != 0)), (45, .bool (((l11 0).i : Int) != 0))]))))))
            (.stop k_octroiref23_May_1 (t_octroiref23_May_1 y3 Ay4 ny4 cy4 (IntKind.wrap .i64 (x5 + 1)) (jl [(0, (u 0)), (1, (u 1)), (2, (u 2)), (6, (u 6)), (7, (u 7)), (8, (u 8)), (9, (u 9)), (10, (u 10)), (11, (u 11)), (12, (u 12)), (13, .int .i64 x5), (14, .bool (decide ((x5 : Int) < 3))), (15, .int .i64 x5), (16, .int .i64 (IntKind.wrap .i64 (x5 + 1))), (17, .int .i64 x5), (18, .int .i64 y3), (19, .bool (decide ((x5 : Int) < y3))), (20, .bool true), (21, .slice Ay4 ny4 cy4), (22, .int .i64 x5), (23, .pointer (some ((l6 0).a))), (24, .int .i64 ((l7 0).i)), (25, .bool (decide (((l7 0).i : Int) < 0))), (26, .bool false), (27, .slice Ay4 ny4 cy4), (28, .int .i64 x5), (29, .pointer (some ((l8 0).a))), (30, .int .i64 ((l9 0).i)), (31, .bool (decide (((l9 0).i : Int) > 1000000000))), (32, .bool (decide (((l9 0).i : Int) > 1000000000))), (33, .bool (decide (((l9 0).i : Int) > 1000000000))), (34, .bool false), (35, .int .i64 x5), (36, .int .i64 y3), (37, .bool (decide ((x5 : Int) ≥ y3))), (38, .bool false), (39, undef), (40, undef), (41, undef), (42, undef), (43, undef), (44, .bool false), (45, .bool false)]))))))))))
     (.ite (decide ((x5 : Int) ≥ y3))
      (.rd (Instr.indexAt 73 (.slice Ay4 ny4 cy4) (.int .i64 x5)) (.one (.sc (.padr))) fun l12 =>
       (.rd (Instr.loadAt 3 (.pointer (some ((l12 0).a)))) (.one (.sc (.int .i64))) fun l13 =>
        (.ite (((l13 0).i : Int) != 0)
         (.done (.bool false))
         (.stop k_octroiref23_May_1 (t_octroiref23_May_1 y3 Ay4 ny4 cy4 (IntKind.wrap .i64 (x5 + 1)) (jl [(0, (u 0)), (1, (u 1)), (2, (u 2)), (6, (u 6)), (7, (u 7)), (8, (u 8)), (9, (u 9)), (10, (u 10)), (11, (u 11)), (12, (u 12)), (13, .int .i64 x5), (14, .bool (decide ((x5 : Int) < 3))), (15, .int .i64 x5), (16, .int .i64 (IntKind.wrap .i64 (x5 + 1))), (17, .int .i64 x5), (18, .int .i64 y3), (19, .bool (decide ((x5 : Int) < y3))), (20, .bool false), (21, undef), (22, undef), (23, undef), (24, undef), (25, undef), (26, undef), (27, undef), (28, undef), (29, undef), (30, undef), (31, undef), (32, undef), (33, .bool false), (34, .bool false), (35, .int .i64 x5), (36, .int .i64 y3), (37, .bool (decide ((x5 : Int) ≥ y3))), (38, .bool true), (39, .slice Ay4 ny4 cy4), (40, .int .i64 x5), (41, .pointer (some ((l12 0).a))), (42, .int .i64 ((l13 0).i)), (43, .bool (((l13 0).i : Int) != 0)), (44, .bool (((l13 0).i : Int) != 0)), (45, .bool (((l13 0).i : Int) != 0))]))))))
      (.stop k_octroiref23_May_1 (t_octroiref23_May_1 y3 Ay4 ny4 cy4 (IntKind.wrap .i64 (x5 + 1)) (jl [(0, (u 0)), (1, (u 1)), (2, (u 2)), (6, (u 6)), (7, (u 7)), (8, (u 8)), (9, (u 9)), (10, (u 10)), (11, (u 11)), (12, (u 12)), (13, .int .i64 x5), (14, .bool (decide ((x5 : Int) < 3))), (15, .int .i64 x5), (16, .int .i64 (IntKind.wrap .i64 (x5 + 1))), (17, .int .i64 x5), (18, .int .i64 y3), (19, .bool (decide ((x5 : Int) < y3))), (20, .bool false), (21, undef), (22, undef), (23, undef), (24, undef), (25, undef), (26, undef), (27, undef), (28, undef), (29, undef), (30, undef), (31, undef), (32, undef), (33, .bool false), (34, .bool false), (35, .int .i64 x5), (36, .int .i64 y3), (37, .bool (decide ((x5 : Int) ≥ y3))), (38, .bool false), (39, undef), (40, undef), (41, undef), (42, undef), (43, undef), (44, .bool false), (45, .bool false)])))))
    (.done (.bool true))) h) : Wp Tryd.prog 26 k_octroiref23_May_1 (t_octroiref23_May_1 y3 Ay4 ny4 cy4 x5 u) I h Q :=
  of_tree (cfg := g_octroiref23_May) 1000 (by kernel_rfl) Tryd.func26 rfl Tryd.checked.mixed hh
/-! ### octroiref23_line: function 27 of Go -/
abbrev F_octroiref23_line : FuncId := 27
noncomputable def c_octroiref23_line : Code := (Tryd.f27.body).getD .skip
noncomputable def g_octroiref23_line : Cfg := { sh := shs, fsh := fshs, results := [.tmp 2], hint := fun r i => match r, i with | 6, 1 => some (true, .one (.sc (.str))) | 6, 7 => some (true, .one (.sc (.str))) | 7, 1 => some (true, .one (.sc (.str))) | _, _ => none, ord := fun _ => none, pre := fun _ => [], un := fun _ _ _ => false }
noncomputable def k_octroiref23_line_1 : List Item := [.code (bd (bd (sr (sl (sr (sr (sr c_octroiref23_line))))))), .inLoop (bd (bd (sr (sl (sr (sr (sr c_octroiref23_line))))))), .inBlock 0, .code (sr (sr (sr (sr c_octroiref23_line))))]
noncomputable def t_octroiref23_line_1 (y1 : Nat) (Ay4 : Option Addr) (ny4 : Nat) (cy4 : Nat) (x3 : ByteArray) (x5 : Int) (u : Nat → Value) : List Value := [(u 0), .pointer (some ⟨y1, 0, none⟩), (u 2), .string x3, .slice Ay4 ny4 cy4, .int .i64 x5, (u 6), (u 7), (u 8), (u 9), (u 10), (u 11), (u 12), (u 13), (u 14), (u 15), (u 16), (u 17), (u 18), (u 19), (u 20), (u 21), (u 22), (u 23), (u 24), (u 25), (u 26), (u 27)]
set_option maxRecDepth 100000 in
set_option maxHeartbeats 4000000 in
theorem r_octroiref23_line (a0_0 : Int) (a0_1 : Int) (a0_2 : Int) (a0_3 : Int) {I : Ctx} {h : Mem} {Q : Value → Mem → Prop}
  (hh : holds Tryd.prog 27 I (cl_ Q)
   (.sem (Instr.box 35 (.agg #[.int .i64 a0_0, .int .i64 a0_1, .int .i64 a0_2, .int .i64 a0_3])) shBlk fun l1 =>
    (.rd (Instr.loadAt 3 (.pointer (some ⟨(l1 0).n, 0, none⟩))) (.one (.sc (.int .i64))) fun l2 =>
     (.call 16 [.int .i64 ((l2 0).i)] (.one (.sc (.str))) fun l3 => -- octroiref23_Word
      (.rd (Instr.loadAt 35 (.pointer (some ⟨(l1 0).n, 0, none⟩))) (.one (.agg [.int .i64, .int .i64, .int .i64, .int .i64])) fun l4 =>
       (.call 44 [.agg #[.int .i64 ((l4 0).i), .int .i64 ((l4 1).i), .int .i64 ((l4 2).i), .int .i64 ((l4 3).i)]] (.one (.sc (.sl))) fun l5 => -- octroiref23_numbers
        (.stop k_octroiref23_line_1 (t_octroiref23_line_1 ((l1 0).n) ((l5 0).A) ((l5 0).n) ((l5 0).c) ((l3 0).s) 0 (jl [(0, .agg #[.int .i64 a0_0, .int .i64 a0_1, .int .i64 a0_2, .int .i64 a0_3]), (2, .string (ByteArray.mk #[])), (6, .pointer (some ⟨(l1 0).n, 0, none⟩)), (7, .int .i64 ((l2 0).i)), (8, .string ((l3 0).s)), (9, .agg #[.int .i64 ((l4 0).i), .int .i64 ((l4 1).i), .int .i64 ((l4 2).i), .int .i64 ((l4 3).i)]), (10, .slice ((l5 0).A) ((l5 0).n) ((l5 0).c)), (11, undef), (12, undef), (13, undef), (14, undef), (15, undef), (16, undef), (17, undef), (18, undef), (19, undef), (20, undef), (21, undef), (22, undef), (23, undef), (24, undef), (25, undef), (26, undef), (27, undef)])))))))) h) : Fn Tryd.prog 27 #[.agg #[.int .i64 a0_0, .int .i64 a0_1, .int .i64 a0_2, .int .i64 a0_3]] I h Q :=
  Wp.fn (args := [.agg #[.int .i64 a0_0, .int .i64 a0_1, .int .i64 a0_2, .int .i64 a0_3]]) Tryd.func27 rfl (by kernel_rfl) (of_tree (cfg := g_octroiref23_line) 1000 (by kernel_rfl) Tryd.func27 rfl Tryd.checked.mixed hh)
theorem ca_octroiref23_line : callable Tryd.prog 27 := ⟨_, Tryd.func27, by kernel_rfl, by kernel_rfl⟩
set_option maxRecDepth 100000 in
set_option maxHeartbeats 4000000 in
theorem r_octroiref23_line_1 (y1 : Nat) (Ay4 : Option Addr) (ny4 : Nat) (cy4 : Nat) (x3 : ByteArray) (x5 : Int) (u : Nat → Value) {I : Ctx} {h : Mem} {Q : Value → Mem → Prop}
  (hh : holds Tryd.prog 27 I Q
   (.rd (Instr.loadAt 3 (.pointer (some ⟨y1, 0, none⟩))) (.one (.sc (.int .i64))) fun l6 =>
    (.call 17 [.int .i64 ((l6 0).i)] (.one (.sc (.int .i64))) fun l7 => -- octroiref23_Numbers
     (.ite (decide ((x5 : Int) < ((l7 0).i)))
      (.rdn (binN .add 9 (.string x3) (.string (ByteArray.mk #[32]))) (.one (.sc (.str))) fun l8 =>
       (.rd (Instr.indexAt 73 (.slice Ay4 ny4 cy4) (.int .i64 x5)) (.one (.sc (.padr))) fun l9 =>
        (.rd (Instr.loadAt 3 (.pointer (some ((l9 0).a)))) (.one (.sc (.int .i64))) fun l10 =>
         (.call 45 [.int .i64 ((l10 0).i)] (.one (.sc (.str))) fun l11 => -- octroiref23_digits
          (.rdn (binN .add 9 (.string ((l8 0).s)) (.string ((l11 0).s))) (.one (.sc (.str))) fun l12 =>
           (.stop k_octroiref23_line_1 (t_octroiref23_line_1 y1 Ay4 ny4 cy4 ((l12 0).s) (IntKind.wrap .i64 (x5 + 1)) (jl [(0, (u 0)), (2, (u 2)), (6, (u 6)), (7, (u 7)), (8, (u 8)), (9, (u 9)), (10, (u 10)), (11, .int .i64 x5), (12, .pointer (some ⟨y1, 0, none⟩)), (13, .int .i64 ((l6 0).i)), (14, .int .i64 ((l7 0).i)), (15, .bool (decide ((x5 : Int) < ((l7 0).i)))), (16, .int .i64 x5), (17, .int .i64 (IntKind.wrap .i64 (x5 + 1))), (18, .string x3), (19, .string ((l8 0).s)), (20, .slice Ay4 ny4 cy4), (21, .int .i64 x5), (22, .pointer (some ((l9 0).a))), (23, .int .i64 ((l10 0).i)), (24, .string ((l11 0).s)), (25, .string ((l12 0).s)), (26, (u 26)), (27, (u 27))]))))))))
      (.rdn (binN .add 9 (.string x3) (.string (ByteArray.mk #[10]))) (.one (.sc (.str))) fun l13 =>
       (.done (.string ((l13 0).s))))))) h) : Wp Tryd.prog 27 k_octroiref23_line_1 (t_octroiref23_line_1 y1 Ay4 ny4 cy4 x3 x5 u) I h Q :=
  of_tree (cfg := g_octroiref23_line) 1000 (by kernel_rfl) Tryd.func27 rfl Tryd.checked.mixed hh
/-! ### unicode_utf8_RuneCountInString -/
abbrev F_unicode_utf8_RuneCountInString : FuncId := 28
theorem ca_unicode_utf8_RuneCountInString : callable Tryd.prog 28 := ⟨_, Tryd.func28, by kernel_rfl, by kernel_rfl⟩
/-! ### strings_Index -/
abbrev F_strings_Index : FuncId := 30
theorem ca_strings_Index : callable Tryd.prog 30 := ⟨_, Tryd.func30, by kernel_rfl, by kernel_rfl⟩
/-! ### strings_Lines_fn1: function 31 of Go -/
abbrev F_strings_Lines_fn1 : FuncId := 31
noncomputable def c_strings_Lines_fn1 : Code := (Tryd.f31.body).getD .skip
def p_strings_Lines_fn1 : Nat → List (List Nat) := fun r => match r with | 4 => [[], [], [1], [0, 1, 2], [], [], [5], [4, 5, 6], [0, 1, 2, 3], [0, 1, 2, 3, 4, 5, 6, 7, 8]] | _ => []
noncomputable def g_strings_Lines_fn1 : Cfg := { sh := shs, fsh := fshs, results := [], hint := fun _ _ => none, ord := fun r => match r with | 4 => some [0, 1, 2, 3, 4, 5, 6, 7, 8, 9] | _ => none, pre := p_strings_Lines_fn1, un := unOf p_strings_Lines_fn1 }
noncomputable def k_strings_Lines_fn1_1 : List Item := [.code (bd (bd c_strings_Lines_fn1)), .inLoop (bd (bd c_strings_Lines_fn1)), .inBlock 0]
noncomputable def t_strings_Lines_fn1_1 (ly : Nat) (g0 : Nat) (u : Nat → Value) : List Value := [.func (.yield ly) #[] #[], .pointer (some ⟨g0, 0, none⟩), undef, (u 3), (u 4), (u 5), (u 6), (u 7), (u 8), (u 9), (u 10), (u 11), (u 12), (u 13), (u 14), (u 15), (u 16), (u 17), (u 18), (u 19), (u 20), (u 21), (u 22), (u 23), (u 24)]
set_option maxRecDepth 100000 in
set_option maxHeartbeats 4000000 in
theorem r_strings_Lines_fn1 (ly : Nat) (g0 : Nat) {I : Ctx} {h : Mem} {Q : Value → Mem → Prop}
  (hh : holds Tryd.prog 31 I (cl_ Q)
   (.stop k_strings_Lines_fn1_1 (t_strings_Lines_fn1_1 ly g0 (jl [(3, undef), (4, undef), (5, undef), (6, undef), (7, undef), (8, undef), (9, undef), (10, undef), (11, undef), (12, undef), (13, undef), (14, undef), (15, undef), (16, undef), (17, undef), (18, undef), (19, undef), (20, undef), (21, undef), (22, undef), (23, undef), (24, undef)]))) h) : Fn Tryd.prog 31 #[.func (.yield ly) #[] #[], .pointer (some ⟨g0, 0, none⟩)] I h Q :=
  Wp.fn (args := [.func (.yield ly) #[] #[], .pointer (some ⟨g0, 0, none⟩)]) Tryd.func31 rfl (by kernel_rfl) (of_tree (cfg := g_strings_Lines_fn1) 1000 (by kernel_rfl) Tryd.func31 rfl Tryd.checked.mixed hh)
theorem ca_strings_Lines_fn1 : callable Tryd.prog 31 := ⟨_, Tryd.func31, by kernel_rfl, by kernel_rfl⟩
set_option maxRecDepth 100000 in
set_option maxHeartbeats 4000000 in
theorem r_strings_Lines_fn1_1 (ly : Nat) (g0 : Nat) (u : Nat → Value) {I : Ctx} {h : Mem} {Q : Value → Mem → Prop}
  (hh : holds Tryd.prog 31 I Q
   (.rd (Instr.loadAt 9 (.pointer (some ⟨g0, 0, none⟩))) (.one (.sc (.str))) fun l1 =>
    (.ite (decide ((((((l1 0).s).size : Nat) : Int) : Int) > 0))
     (.rd (Instr.loadAt 9 (.pointer (some ⟨g0, 0, none⟩))) (.one (.sc (.str))) fun l2 =>
      (.call 32 [.string ((l2 0).s), .int .u8 10] (.one (.sc (.int .i64))) fun l3 => -- strings_IndexByte
       (.ite (decide (((l3 0).i : Int) ≥ 0))
        (.rd (Instr.loadAt 9 (.pointer (some ⟨g0, 0, none⟩))) (.one (.sc (.str))) fun l4 =>
         (.rd (Instr.sliceAt 9 (.string ((l4 0).s)) none (some (.int .i64 (IntKind.wrap .i64 (((l3 0).i) + 1)))) none) (.one (.sc (.str))) fun l5 =>
          (.rd (Instr.loadAt 9 (.pointer (some ⟨g0, 0, none⟩))) (.one (.sc (.str))) fun l6 =>
           (.rd (Instr.sliceAt 9 (.string ((l6 0).s)) (some (.int .i64 (IntKind.wrap .i64 (((l3 0).i) + 1)))) none none) (.one (.sc (.str))) fun l7 =>
            (.unit (Instr.storeAt 9 (.pointer (some ⟨g0, 0, none⟩)) (.string ((l7 0).s)))
             (.yld ly [.string ((l5 0).s)] fun l8 =>
              (.ite (!l8)
               (.done (undef))
               (.stop k_strings_Lines_fn1_1 (t_strings_Lines_fn1_1 ly g0 (jl [(3, .string ((l5 0).s)), (4, .int .i64 ((l3 0).i)), (5, .string ((l1 0).s)), (6, .int .i64 ((((l1 0).s).size : Nat) : Int)), (7, .bool (decide ((((((l1 0).s).size : Nat) : Int) : Int) > 0))), (8, .string ((l2 0).s)), (9, .int .i64 ((l3 0).i)), (10, .int .i64 ((l3 0).i)), (11, .bool (decide (((l3 0).i : Int) ≥ 0))), (12, .string ((l4 0).s)), (13, .int .i64 ((l3 0).i)), (14, .int .i64 (IntKind.wrap .i64 (((l3 0).i) + 1))), (15, .string ((l5 0).s)), (16, .string ((l6 0).s)), (17, .int .i64 ((l3 0).i)), (18, .int .i64 (IntKind.wrap .i64 (((l3 0).i) + 1))), (19, .string ((l7 0).s)), (20, (u 20)), (21, .func (.yield ly) #[] #[]), (22, .string ((l5 0).s)), (23, .bool l8), (24, .bool (!l8))]))))))))))
        (.rd (Instr.loadAt 9 (.pointer (some ⟨g0, 0, none⟩))) (.one (.sc (.str))) fun l9 =>
         (.unit (Instr.storeAt 9 (.pointer (some ⟨g0, 0, none⟩)) (.string (ByteArray.mk #[])))
          (.yld ly [.string ((l9 0).s)] fun l10 =>
           (.ite (!l10)
            (.done (undef))
            (.stop k_strings_Lines_fn1_1 (t_strings_Lines_fn1_1 ly g0 (jl [(3, .string ((l9 0).s)), (4, .int .i64 ((l3 0).i)), (5, .string ((l1 0).s)), (6, .int .i64 ((((l1 0).s).size : Nat) : Int)), (7, .bool (decide ((((((l1 0).s).size : Nat) : Int) : Int) > 0))), (8, .string ((l2 0).s)), (9, .int .i64 ((l3 0).i)), (10, .int .i64 ((l3 0).i)), (11, .bool (decide (((l3 0).i : Int) ≥ 0))), (12, (u 12)), (13, (u 13)), (14, (u 14)), (15, (u 15)), (16, (u 16)), (17, (u 17)), (18, (u 18)), (19, (u 19)), (20, .string ((l9 0).s)), (21, .func (.yield ly) #[] #[]), (22, .string ((l9 0).s)), (23, .bool l10), (24, .bool (!l10))]))))))))))
     (.done (undef)))) h) : Wp Tryd.prog 31 k_strings_Lines_fn1_1 (t_strings_Lines_fn1_1 ly g0 u) I h Q :=
  of_tree (cfg := g_strings_Lines_fn1) 1000 (by kernel_rfl) Tryd.func31 rfl Tryd.checked.mixed hh
/-! ### strings_IndexByte -/
abbrev F_strings_IndexByte : FuncId := 32
theorem ca_strings_IndexByte : callable Tryd.prog 32 := ⟨_, Tryd.func32, by kernel_rfl, by kernel_rfl⟩
/-! ### strings_Split -/
abbrev F_strings_Split : FuncId := 33
theorem ca_strings_Split : callable Tryd.prog 33 := ⟨_, Tryd.func33, by kernel_rfl, by kernel_rfl⟩
/-! ### strings_TrimSuffix -/
abbrev F_strings_TrimSuffix : FuncId := 34
theorem ca_strings_TrimSuffix : callable Tryd.prog 34 := ⟨_, Tryd.func34, by kernel_rfl, by kernel_rfl⟩
/-! ### script_forms: function 35 of Go -/
abbrev F_script_forms : FuncId := 35
noncomputable def c_script_forms : Code := (Tryd.f35.body).getD .skip
noncomputable def g_script_forms : Cfg := { sh := shs, fsh := fshs, results := [.cell 0 66], hint := fun _ _ => none, ord := fun _ => none, pre := fun _ => [], un := fun _ _ _ => false }
set_option maxRecDepth 100000 in
set_option maxHeartbeats 4000000 in
theorem r_script_forms  {I : Ctx} {h : Mem} {Q : Value → Mem → Prop}
  (hh : holds Tryd.prog 35 I (cl_ Q)
   (.sem (Instr.alloc 66 true (.tuple #[])) shBlk fun l1 =>
    (.unit (Instr.storeAt 66 (.pointer (some ⟨(l1 0).n, 0, none⟩)) (.agg #[.string (ByteArray.mk #[116, 105, 99, 107]), .int .i64 2, .string (ByteArray.mk #[100, 101, 108, 105, 118, 101, 114]), .int .i64 1, .string (ByteArray.mk #[108, 111, 115, 101]), .int .i64 1, .string (ByteArray.mk #[100, 111, 117, 98, 108, 101]), .int .i64 1, .string (ByteArray.mk #[100, 111, 119, 110]), .int .i64 1, .string (ByteArray.mk #[117, 112]), .int .i64 1, .string (ByteArray.mk #[111, 119, 110]), .int .i64 3, .string (ByteArray.mk #[100, 114, 111, 112]), .int .i64 3, .string (ByteArray.mk #[99, 114, 97, 115, 104]), .int .i64 1]))
     (.rd (loadVar 66 ⟨(l1 0).n, 0, none⟩) (.one (.agg [.str, .int .i64, .str, .int .i64, .str, .int .i64, .str, .int .i64, .str, .int .i64, .str, .int .i64, .str, .int .i64, .str, .int .i64, .str, .int .i64])) fun l2 =>
      (.done (.agg #[.string ((l2 0).s), .int .i64 ((l2 1).i), .string ((l2 2).s), .int .i64 ((l2 3).i), .string ((l2 4).s), .int .i64 ((l2 5).i), .string ((l2 6).s), .int .i64 ((l2 7).i), .string ((l2 8).s), .int .i64 ((l2 9).i), .string ((l2 10).s), .int .i64 ((l2 11).i), .string ((l2 12).s), .int .i64 ((l2 13).i), .string ((l2 14).s), .int .i64 ((l2 15).i), .string ((l2 16).s), .int .i64 ((l2 17).i)]))))) h) : Fn Tryd.prog 35 #[] I h Q :=
  Wp.fn (args := []) Tryd.func35 rfl (by kernel_rfl) (of_tree (cfg := g_script_forms) 1000 (by kernel_rfl) Tryd.func35 rfl Tryd.checked.mixed hh)
theorem ca_script_forms : callable Tryd.prog 35 := ⟨_, Tryd.func35, by kernel_rfl, by kernel_rfl⟩
/-! ### slices_IndexFunc_form: function 36 of Go -/
abbrev F_slices_IndexFunc_form : FuncId := 36
noncomputable def c_slices_IndexFunc_form : Code := (Tryd.f36.body).getD .skip
noncomputable def g_slices_IndexFunc_form : Cfg := { sh := shs, fsh := fshs, results := [.tmp 4], hint := fun _ _ => none, ord := fun _ => none, pre := fun _ => [], un := fun _ _ _ => false }
noncomputable def k_slices_IndexFunc_form_1 : List Item := [.code (bd (bd (sr (sl (sr c_slices_IndexFunc_form))))), .inLoop (bd (bd (sr (sl (sr c_slices_IndexFunc_form))))), .inBlock 0, .code (sr (sr c_slices_IndexFunc_form))]
noncomputable def t_slices_IndexFunc_form_1 (Aa0 : Option Addr) (na0 : Nat) (ca0 : Nat) (d0 : Nat) (x8 : Int) (u : Nat → Value) : List Value := [.slice Aa0 na0 ca0, .func (.func 37) #[] #[.pointer (some ⟨d0, 0, none⟩)], undef, undef, (u 4), (u 5), (u 6), .int .i64 ((na0 : Nat) : Int), .int .i64 x8, (u 9), (u 10), (u 11), (u 12), (u 13), (u 14), (u 15), (u 16), (u 17), (u 18)]
set_option maxRecDepth 100000 in
set_option maxHeartbeats 4000000 in
theorem r_slices_IndexFunc_form (Aa0 : Option Addr) (na0 : Nat) (ca0 : Nat) (d0 : Nat) {I : Ctx} {h : Mem} {Q : Value → Mem → Prop}
  (hh : holds Tryd.prog 36 I (cl_ Q)
   (.stop k_slices_IndexFunc_form_1 (t_slices_IndexFunc_form_1 Aa0 na0 ca0 d0 0 (jl [(4, .int .i64 0), (5, undef), (6, .slice Aa0 na0 ca0), (9, undef), (10, undef), (11, undef), (12, undef), (13, undef), (14, undef), (15, undef), (16, undef), (17, undef), (18, undef)]))) h) : Fn Tryd.prog 36 #[.slice Aa0 na0 ca0, .func (.func 37) #[] #[.pointer (some ⟨d0, 0, none⟩)]] I h Q :=
  Wp.fn (args := [.slice Aa0 na0 ca0, .func (.func 37) #[] #[.pointer (some ⟨d0, 0, none⟩)]]) Tryd.func36 rfl (by kernel_rfl) (of_tree (cfg := g_slices_IndexFunc_form) 1000 (by kernel_rfl) Tryd.func36 rfl Tryd.checked.mixed hh)
theorem ca_slices_IndexFunc_form : callable Tryd.prog 36 := ⟨_, Tryd.func36, by kernel_rfl, by kernel_rfl⟩
set_option maxRecDepth 100000 in
set_option maxHeartbeats 4000000 in
theorem r_slices_IndexFunc_form_1 (Aa0 : Option Addr) (na0 : Nat) (ca0 : Nat) (d0 : Nat) (x8 : Int) (u : Nat → Value) {I : Ctx} {h : Mem} {Q : Value → Mem → Prop}
  (hh : holds Tryd.prog 36 I Q
   (.ite (decide ((x8 : Int) < ((na0 : Nat) : Int)))
    (.rd (Instr.indexAt 69 (.slice Aa0 na0 ca0) (.int .i64 x8)) (.one (.sc (.padr))) fun l1 =>
     (.rd (Instr.loadAt 58 (.pointer (some ((l1 0).a)))) (.one (.agg [.str, .int .i64])) fun l2 =>
      (.call 37 [.agg #[.string ((l2 0).s), .int .i64 ((l2 1).i)], .pointer (some ⟨d0, 0, none⟩)] (.one (.sc (.bool))) fun l3 => -- script_read_fn1
       (.ite ((l3 0).b)
        (.done (.int .i64 x8))
        (.stop k_slices_IndexFunc_form_1 (t_slices_IndexFunc_form_1 Aa0 na0 ca0 d0 (IntKind.wrap .i64 (x8 + 1)) (jl [(4, (u 4)), (5, .int .i64 x8), (6, (u 6)), (9, .bool (decide ((x8 : Int) < ((na0 : Nat) : Int)))), (10, .int .i64 x8), (11, .func (.func 37) #[] #[.pointer (some ⟨d0, 0, none⟩)]), (12, .slice Aa0 na0 ca0), (13, .int .i64 x8), (14, .pointer (some ((l1 0).a))), (15, .agg #[.string ((l2 0).s), .int .i64 ((l2 1).i)]), (16, .bool ((l3 0).b)), (17, (u 17)), (18, .int .i64 (IntKind.wrap .i64 (x8 + 1)))])))))))
    (.done (.int .i64 (-1)))) h) : Wp Tryd.prog 36 k_slices_IndexFunc_form_1 (t_slices_IndexFunc_form_1 Aa0 na0 ca0 d0 x8 u) I h Q :=
  of_tree (cfg := g_slices_IndexFunc_form) 1000 (by kernel_rfl) Tryd.func36 rfl Tryd.checked.mixed hh
/-! ### script_read_fn1: function 37 of Go -/
abbrev F_script_read_fn1 : FuncId := 37
noncomputable def c_script_read_fn1 : Code := (Tryd.f37.body).getD .skip
def p_script_read_fn1 : Nat → List (List Nat) := fun r => match r with | 1 => [[], [0], [], [2], [2, 3], [0, 1, 2, 3, 4], [0, 1, 2, 3, 4, 5]] | _ => []
noncomputable def g_script_read_fn1 : Cfg := { sh := shs, fsh := fshs, results := [.tmp 3], hint := fun _ _ => none, ord := fun r => match r with | 1 => some [0, 1, 2, 3, 4, 5, 6] | _ => none, pre := p_script_read_fn1, un := unOf p_script_read_fn1 }
set_option maxRecDepth 100000 in
set_option maxHeartbeats 4000000 in
theorem r_script_read_fn1 (a0_0 : ByteArray) (a0_1 : Int) (g0 : Nat) {I : Ctx} {h : Mem} {Q : Value → Mem → Prop}
  (hh : holds Tryd.prog 37 I (cl_ Q)
   (.sem (Instr.box 58 (.agg #[.string a0_0, .int .i64 a0_1])) shBlk fun l1 =>
    (.rd (Instr.loadAt 9 (.pointer (some ⟨(l1 0).n, 0, none⟩))) (.one (.sc (.str))) fun l2 =>
     (.rd (Instr.loadAt 45 (.pointer (some ⟨g0, 0, none⟩))) (.one (.sc (.sl))) fun l3 =>
      (.rd (Instr.indexAt 45 (.slice ((l3 0).A) ((l3 0).n) ((l3 0).c)) (.int .i64 0)) (.one (.sc (.padr))) fun l4 =>
       (.rd (Instr.loadAt 9 (.pointer (some ((l4 0).a)))) (.one (.sc (.str))) fun l5 =>
        (.done (.bool (((l2 0).s).toList == ((l5 0).s).toList)))))))) h) : Fn Tryd.prog 37 #[.agg #[.string a0_0, .int .i64 a0_1], .pointer (some ⟨g0, 0, none⟩)] I h Q :=
  Wp.fn (args := [.agg #[.string a0_0, .int .i64 a0_1], .pointer (some ⟨g0, 0, none⟩)]) Tryd.func37 rfl (by kernel_rfl) (of_tree (cfg := g_script_read_fn1) 1000 (by kernel_rfl) Tryd.func37 rfl Tryd.checked.mixed hh)
theorem ca_script_read_fn1 : callable Tryd.prog 37 := ⟨_, Tryd.func37, by kernel_rfl, by kernel_rfl⟩
/-! ### strconv_Atoi -/
abbrev F_strconv_Atoi : FuncId := 38
theorem ca_strconv_Atoi : callable Tryd.prog 38 := ⟨_, Tryd.func38, by kernel_rfl, by kernel_rfl⟩
/-! ### octroiref23_words: function 39 of Go -/
abbrev F_octroiref23_words : FuncId := 39
noncomputable def c_octroiref23_words : Code := (Tryd.f39.body).getD .skip
noncomputable def g_octroiref23_words : Cfg := { sh := shs, fsh := fshs, results := [.tmp 2], hint := fun r i => match r, i with | 9, 5 => some (true, .one (.sc (.str))) | 9, 6 => some (true, .one (.sc (.str))) | _, _ => none, ord := fun _ => none, pre := fun _ => [], un := fun _ _ _ => false }
noncomputable def k_octroiref23_words_1 : List Item := [.code (bd (bd (sr (sl (sr (sr (sr c_octroiref23_words))))))), .inLoop (bd (bd (sr (sl (sr (sr (sr c_octroiref23_words))))))), .inBlock 0, .code (sr (sr (sr (sr c_octroiref23_words))))]
noncomputable def t_octroiref23_words_1 (a0 : ByteArray) (A3 : Option Addr) (n3 : Nat) (c3 : Nat) (x4 : ByteArray) (x5 : Int) (u : Nat → Value) : List Value := [.string a0, undef, (u 2), .slice A3 n3 c3, .string x4, .int .i64 x5, (u 6), (u 7), (u 8), (u 9), (u 10), (u 11), (u 12), (u 13), (u 14), (u 15), (u 16), (u 17), (u 18), (u 19), (u 20), (u 21), (u 22), (u 23), (u 24), (u 25), (u 26), (u 27), (u 28), (u 29), (u 30)]
set_option maxRecDepth 100000 in
set_option maxHeartbeats 4000000 in
theorem r_octroiref23_words (a0 : ByteArray) {I : Ctx} {h : Mem} {Q : Value → Mem → Prop}
  (hh : holds Tryd.prog 39 I (cl_ Q)
   (.stop k_octroiref23_words_1 (t_octroiref23_words_1 a0 none 0 0 (ByteArray.mk #[]) 0 (jl [(2, .slice none 0 0), (6, undef), (7, undef), (8, undef), (9, undef), (10, undef), (11, undef), (12, undef), (13, undef), (14, undef), (15, undef), (16, undef), (17, undef), (18, undef), (19, undef), (20, undef), (21, undef), (22, undef), (23, undef), (24, undef), (25, undef), (26, undef), (27, undef), (28, undef), (29, undef), (30, undef)]))) h) : Fn Tryd.prog 39 #[.string a0] I h Q :=
  Wp.fn (args := [.string a0]) Tryd.func39 rfl (by kernel_rfl) (of_tree (cfg := g_octroiref23_words) 1000 (by kernel_rfl) Tryd.func39 rfl Tryd.checked.mixed hh)
theorem ca_octroiref23_words : callable Tryd.prog 39 := ⟨_, Tryd.func39, by kernel_rfl, by kernel_rfl⟩
set_option maxRecDepth 100000 in
set_option maxHeartbeats 4000000 in
theorem r_octroiref23_words_1 (a0 : ByteArray) (A3 : Option Addr) (n3 : Nat) (c3 : Nat) (x4 : ByteArray) (x5 : Int) (u : Nat → Value) {I : Ctx} {h : Mem} {Q : Value → Mem → Prop}
  (hh : holds Tryd.prog 39 I Q
   (.ite (decide ((x5 : Int) < ((a0.size : Nat) : Int)))
    (.rd (Instr.index 9 (.string a0) (.int .i64 x5)) (.one (.sc (.int .u8))) fun l1 =>
     (.ite (((l1 0).i : Int) == 32)
      (.sem (Instr.buildSlice 45 1 #[(0, .string x4)]) (.one (.sc (.row 1))) fun l2 =>
       (.nx (builtin .append #[45, 45] 45 #[false, false] #[.slice A3 n3 c3, .slice (some ⟨(l2 0).n, 0, none⟩) 1 1]) (.one (.sc (.sl))) fun l3 =>
        (.stop k_octroiref23_words_1 (t_octroiref23_words_1 a0 ((l3 0).A) ((l3 0).n) ((l3 0).c) (ByteArray.mk #[]) (IntKind.wrap .i64 (x5 + 1)) (jl [(2, (u 2)), (6, .int .i64 x5), (7, .string a0), (8, .int .i64 ((a0.size : Nat) : Int)), (9, .bool (decide ((x5 : Int) < ((a0.size : Nat) : Int)))), (10, .int .i64 x5), (11, .int .i64 (IntKind.wrap .i64 (x5 + 1))), (12, .string a0), (13, .int .i64 x5), (14, .int .u8 ((l1 0).i)), (15, .bool (((l1 0).i : Int) == 32)), (16, .slice A3 n3 c3), (17, .string x4), (18, .slice (some ⟨(l2 0).n, 0, none⟩) 1 1), (19, .slice ((l3 0).A) ((l3 0).n) ((l3 0).c)), (20, (u 20)), (21, (u 21)), (22, (u 22)), (23, (u 23)), (24, (u 24)), (25, (u 25)), (26, (u 26)), (27, (u 27)), (28, (u 28)), (29, (u 29)), (30, (u 30))])))))
      (.rd (Instr.index 9 (.string a0) (.int .i64 x5)) (.one (.sc (.int .u8))) fun l4 =>
       (.sem (Instr.buildSlice 47 1 #[(0, .int .u8 ((l4 0).i))]) (.one (.sc (.row 1))) fun l5 =>
        (.rdn (convN 47 9 (.slice (some ⟨(l5 0).n, 0, none⟩) 1 1)) (.one (.sc (.str))) fun l6 =>
         (.rdn (binN .add 9 (.string x4) (.string ((l6 0).s))) (.one (.sc (.str))) fun l7 =>
          (.stop k_octroiref23_words_1 (t_octroiref23_words_1 a0 A3 n3 c3 ((l7 0).s) (IntKind.wrap .i64 (x5 + 1)) (jl [(2, (u 2)), (6, .int .i64 x5), (7, .string a0), (8, .int .i64 ((a0.size : Nat) : Int)), (9, .bool (decide ((x5 : Int) < ((a0.size : Nat) : Int)))), (10, .int .i64 x5), (11, .int .i64 (IntKind.wrap .i64 (x5 + 1))), (12, .string a0), (13, .int .i64 x5), (14, .int .u8 ((l1 0).i)), (15, .bool (((l1 0).i : Int) == 32)), (16, (u 16)), (17, (u 17)), (18, (u 18)), (19, (u 19)), (20, .string x4), (21, .string a0), (22, .int .i64 x5), (23, .int .u8 ((l4 0).i)), (24, .slice (some ⟨(l5 0).n, 0, none⟩) 1 1), (25, .string ((l6 0).s)), (26, .string ((l7 0).s)), (27, (u 27)), (28, (u 28)), (29, (u 29)), (30, (u 30))])))))))))
    (.sem (Instr.buildSlice 45 1 #[(0, .string x4)]) (.one (.sc (.row 1))) fun l8 =>
     (.nx (builtin .append #[45, 45] 45 #[false, false] #[.slice A3 n3 c3, .slice (some ⟨(l8 0).n, 0, none⟩) 1 1]) (.one (.sc (.sl))) fun l9 =>
      (.done (.slice ((l9 0).A) ((l9 0).n) ((l9 0).c)))))) h) : Wp Tryd.prog 39 k_octroiref23_words_1 (t_octroiref23_words_1 a0 A3 n3 c3 x4 x5 u) I h Q :=
  of_tree (cfg := g_octroiref23_words) 1000 (by kernel_rfl) Tryd.func39 rfl Tryd.checked.mixed hh
/-! ### octroiref23_number: function 40 of Go -/
abbrev F_octroiref23_number : FuncId := 40
noncomputable def c_octroiref23_number : Code := (Tryd.f40.body).getD .skip
noncomputable def g_octroiref23_number : Cfg := { sh := shs, fsh := fshs, results := [.tmp 2], hint := fun _ _ => none, ord := fun _ => none, pre := fun _ => [], un := fun _ _ _ => false }
noncomputable def k_octroiref23_number_1 : List Item := [.code (bd (bd (sr (sl (sr (sr (sr c_octroiref23_number))))))), .inLoop (bd (bd (sr (sl (sr (sr (sr c_octroiref23_number))))))), .inBlock 0, .code (sr (sr (sr (sr c_octroiref23_number))))]
noncomputable def t_octroiref23_number_1 (a0 : ByteArray) (x3 : Int) (x4 : Int) (u : Nat → Value) : List Value := [.string a0, undef, (u 2), .int .i64 x3, .int .i64 x4, (u 5), (u 6), (u 7), (u 8), (u 9), (u 10), (u 11), (u 12), (u 13), (u 14), (u 15), (u 16), (u 17), (u 18), (u 19), (u 20), (u 21), (u 22), (u 23), (u 24), (u 25), (u 26), (u 27), (u 28), (u 29), (u 30), (u 31), (u 32), (u 33), (u 34), (u 35), (u 36), (u 37)]
set_option maxRecDepth 100000 in
set_option maxHeartbeats 4000000 in
theorem r_octroiref23_number (a0 : ByteArray) {I : Ctx} {h : Mem} {Q : Value → Mem → Prop}
  (hh : holds Tryd.prog 40 I (cl_ Q)
   (.ite ((((a0.size : Nat) : Int) : Int) == 0)
    (.done (.int .i64 (-1)))
    (.ite (decide ((((a0.size : Nat) : Int) : Int) > 10))
     (.done (.int .i64 (-1)))
     (.stop k_octroiref23_number_1 (t_octroiref23_number_1 a0 0 0 (jl [(2, .int .i64 0), (5, .string a0), (6, .int .i64 ((a0.size : Nat) : Int)), (7, .bool ((((a0.size : Nat) : Int) : Int) == 0)), (8, .bool false), (9, .string a0), (10, .int .i64 ((a0.size : Nat) : Int)), (11, .bool (decide ((((a0.size : Nat) : Int) : Int) > 10))), (12, .bool (decide ((((a0.size : Nat) : Int) : Int) > 10))), (13, undef), (14, undef), (15, undef), (16, undef), (17, undef), (18, undef), (19, undef), (20, undef), (21, undef), (22, undef), (23, undef), (24, undef), (25, undef), (26, undef), (27, undef), (28, undef), (29, undef), (30, undef), (31, undef), (32, undef), (33, undef), (34, undef), (35, undef), (36, undef), (37, undef)]))))) h) : Fn Tryd.prog 40 #[.string a0] I h Q :=
  Wp.fn (args := [.string a0]) Tryd.func40 rfl (by kernel_rfl) (of_tree (cfg := g_octroiref23_number) 1000 (by kernel_rfl) Tryd.func40 rfl Tryd.checked.mixed hh)
theorem ca_octroiref23_number : callable Tryd.prog 40 := ⟨_, Tryd.func40, by kernel_rfl, by kernel_rfl⟩
set_option maxRecDepth 100000 in
set_option maxHeartbeats 4000000 in
theorem r_octroiref23_number_1 (a0 : ByteArray) (x3 : Int) (x4 : Int) (u : Nat → Value) {I : Ctx} {h : Mem} {Q : Value → Mem → Prop}
  (hh : holds Tryd.prog 40 I Q
   (.ite (decide ((x4 : Int) < ((a0.size : Nat) : Int)))
    (.rd (Instr.index 9 (.string a0) (.int .i64 x4)) (.one (.sc (.int .u8))) fun l1 =>
     (.ite (decide (((l1 0).i : Int) < 48))
      (.done (.int .i64 (-1)))
      (.rd (Instr.index 9 (.string a0) (.int .i64 x4)) (.one (.sc (.int .u8))) fun l2 =>
       (.ite (decide (((l2 0).i : Int) > 57))
        (.done (.int .i64 (-1)))
        (.rd (Instr.index 9 (.string a0) (.int .i64 x4)) (.one (.sc (.int .u8))) fun l3 =>
         (.stop k_octroiref23_number_1 (t_octroiref23_number_1 a0 (IntKind.wrap .i64 ((IntKind.wrap .i64 (10 * x3)) + (IntKind.wrap .i64 (IntKind.wrap .u8 (((l3 0).i) - 48))))) (IntKind.wrap .i64 (x4 + 1)) (jl [(2, (u 2)), (5, (u 5)), (6, (u 6)), (7, (u 7)), (8, (u 8)), (9, (u 9)), (10, (u 10)), (11, (u 11)), (12, (u 12)), (13, .int .i64 x4), (14, .string a0), (15, .int .i64 ((a0.size : Nat) : Int)), (16, .bool (decide ((x4 : Int) < ((a0.size : Nat) : Int)))), (17, .int .i64 x4), (18, .int .i64 (IntKind.wrap .i64 (x4 + 1))), (19, .string a0), (20, .int .i64 x4), (21, .int .u8 ((l1 0).i)), (22, .bool (decide (((l1 0).i : Int) < 48))), (23, .bool false), (24, .string a0), (25, .int .i64 x4), (26, .int .u8 ((l2 0).i)), (27, .bool (decide (((l2 0).i : Int) > 57))), (28, .bool (decide (((l2 0).i : Int) > 57))), (29, .int .i64 x3), (30, .int .i64 (IntKind.wrap .i64 (10 * x3))), (31, .string a0), (32, .int .i64 x4), (33, .int .u8 ((l3 0).i)), (34, .int .u8 (IntKind.wrap .u8 (((l3 0).i) - 48))), (35, .int .i64 (IntKind.wrap .i64 (IntKind.wrap .u8 (((l3 0).i) - 48)))), (36, .int .i64 (IntKind.wrap .i64 ((IntKind.wrap .i64 (10 * x3)) + (IntKind.wrap .i64 (IntKind.wrap .u8 (((l3 0).i) - 48)))))), (37, (u 37))]))))))))
    (.done (.int .i64 x3))) h) : Wp Tryd.prog 40 k_octroiref23_number_1 (t_octroiref23_number_1 a0 x3 x4 u) I h Q :=
  of_tree (cfg := g_octroiref23_number) 1000 (by kernel_rfl) Tryd.func40 rfl Tryd.checked.mixed hh
/-! ### strconv_Itoa -/
abbrev F_strconv_Itoa : FuncId := 41
theorem ca_strconv_Itoa : callable Tryd.prog 41 := ⟨_, Tryd.func41, by kernel_rfl, by kernel_rfl⟩
/-! ### strings_Join -/
abbrev F_strings_Join : FuncId := 42
theorem ca_strings_Join : callable Tryd.prog 42 := ⟨_, Tryd.func42, by kernel_rfl, by kernel_rfl⟩
/-! ### strings_Builder_copyCheck: function 43 of Go -/
abbrev F_strings_Builder_copyCheck : FuncId := 43
noncomputable def c_strings_Builder_copyCheck : Code := (Tryd.f43.body).getD .skip
noncomputable def g_strings_Builder_copyCheck : Cfg := { sh := shs, fsh := fshs, results := [], hint := fun r i => match r, i with | 0, 4 => some (true, .one (.sc (.bool))) | 1, 2 => some (true, .one (.sc (.ptr))) | 1, 3 => some (false, .one (.sc (.ptr))) | 1, 4 => some (true, .one (.sc (.ptr))) | 2, 5 => some (true, .one (.sc (.bool))) | _, _ => none, ord := fun _ => none, pre := fun _ => [], un := fun _ _ _ => false }
set_option maxRecDepth 100000 in
set_option maxHeartbeats 4000000 in
theorem r_strings_Builder_copyCheck (a0 : Addr) {I : Ctx} {h : Mem} {Q : Value → Mem → Prop}
  (hh : holds Tryd.prog 43 I (cl_ Q)
   (.rd (Instr.loadAt 46 (.pointer (some a0))) (.one (.sc (.ptr))) fun l1 =>
    (.rdn (eqN .eql 46 (.tmp 0) (.const (.pointer none)) (.pointer ((l1 0).A)) (.pointer none)) (.one (.sc (.bool))) fun l2 =>
     (.ite ((l2 0).b)
      (.rdn (convN 46 80 (.pointer (some a0))) (.one (.sc (.ptr))) fun l3 =>
       (.nx (callFunc 54 #[.pointer ((l3 0).A)]) (.one (.sc (.ptr))) fun l4 =>
        (.rdn (convN 80 46 (.pointer ((l4 0).A))) (.one (.sc (.ptr))) fun l5 =>
         (.unit (Instr.storeAt 46 (.pointer (some a0)) (.pointer ((l5 0).A)))
          (.done (undef))))))
      (.rd (Instr.loadAt 46 (.pointer (some a0))) (.one (.sc (.ptr))) fun l6 =>
       (.rdn (eqN .neq 46 (.tmp 0) (.tmp 0) (.pointer ((l6 0).A)) (.pointer (some a0))) (.one (.sc (.bool))) fun l7 =>
        (.ite ((l7 0).b)
         (.stuck)
         (.done (undef)))))))) h) : Fn Tryd.prog 43 #[.pointer (some a0)] I h Q :=
  Wp.fn (args := [.pointer (some a0)]) Tryd.func43 rfl (by kernel_rfl) (of_tree (cfg := g_strings_Builder_copyCheck) 1000 (by kernel_rfl) Tryd.func43 rfl Tryd.checked.mixed hh)
theorem ca_strings_Builder_copyCheck : callable Tryd.prog 43 := ⟨_, Tryd.func43, by kernel_rfl, by kernel_rfl⟩
/-! ### octroiref23_numbers: function 44 of Go -/
abbrev F_octroiref23_numbers : FuncId := 44
noncomputable def c_octroiref23_numbers : Code := (Tryd.f44.body).getD .skip
noncomputable def g_octroiref23_numbers : Cfg := { sh := shs, fsh := fshs, results := [.tmp 2], hint := fun _ _ => none, ord := fun _ => none, pre := fun _ => [], un := fun _ _ _ => false }
set_option maxRecDepth 100000 in
set_option maxHeartbeats 4000000 in
theorem r_octroiref23_numbers (a0_0 : Int) (a0_1 : Int) (a0_2 : Int) (a0_3 : Int) {I : Ctx} {h : Mem} {Q : Value → Mem → Prop}
  (hh : holds Tryd.prog 44 I (cl_ Q)
   (.sem (Instr.box 35 (.agg #[.int .i64 a0_0, .int .i64 a0_1, .int .i64 a0_2, .int .i64 a0_3])) shBlk fun l1 =>
    (.rd (Instr.loadAt 3 (.pointer (some ⟨(l1 0).n, 1, none⟩))) (.one (.sc (.int .i64))) fun l2 =>
     (.rd (Instr.loadAt 3 (.pointer (some ⟨(l1 0).n, 2, none⟩))) (.one (.sc (.int .i64))) fun l3 =>
      (.rd (Instr.loadAt 3 (.pointer (some ⟨(l1 0).n, 3, none⟩))) (.one (.sc (.int .i64))) fun l4 =>
       (.sem (Instr.buildSlice 73 3 #[(0, .int .i64 ((l2 0).i)), (1, .int .i64 ((l3 0).i)), (2, .int .i64 ((l4 0).i))]) (.one (.sc (.row 3))) fun l5 =>
        (.done (.slice (some ⟨(l5 0).n, 0, none⟩) 3 3))))))) h) : Fn Tryd.prog 44 #[.agg #[.int .i64 a0_0, .int .i64 a0_1, .int .i64 a0_2, .int .i64 a0_3]] I h Q :=
  Wp.fn (args := [.agg #[.int .i64 a0_0, .int .i64 a0_1, .int .i64 a0_2, .int .i64 a0_3]]) Tryd.func44 rfl (by kernel_rfl) (of_tree (cfg := g_octroiref23_numbers) 1000 (by kernel_rfl) Tryd.func44 rfl Tryd.checked.mixed hh)
theorem ca_octroiref23_numbers : callable Tryd.prog 44 := ⟨_, Tryd.func44, by kernel_rfl, by kernel_rfl⟩
/-! ### octroiref23_digits: function 45 of Go -/
abbrev F_octroiref23_digits : FuncId := 45
noncomputable def c_octroiref23_digits : Code := (Tryd.f45.body).getD .skip
def p_octroiref23_digits : Nat → List (List Nat) := fun r => match r with | 3 => [[], [0], [0, 1], [], [3], [3, 4], [3, 4, 5], [3, 4, 5, 6], [3, 4, 5, 6, 7], [0, 1, 2, 3, 4, 5, 6, 7, 8], [0, 1, 2, 3, 4, 5, 6, 7, 8, 9]] | _ => []
noncomputable def g_octroiref23_digits : Cfg := { sh := shs, fsh := fshs, results := [.tmp 2], hint := fun r i => match r, i with | 2, 4 => some (true, .one (.sc (.str))) | 3, 8 => some (true, .one (.sc (.str))) | 3, 9 => some (true, .one (.sc (.str))) | _, _ => none, ord := fun r => match r with | 3 => some [0, 1, 2, 3, 4, 5, 6, 7, 8, 9, 10] | _ => none, pre := p_octroiref23_digits, un := unOf p_octroiref23_digits, pcall := fun r i => (r == 3 && i == 2) }
set_option maxRecDepth 100000 in
set_option maxHeartbeats 4000000 in
theorem r_octroiref23_digits (a0 : Int) {I : Ctx} {h : Mem} {Q : Value → Mem → Prop}
  (hh : holds Tryd.prog 45 I (cl_ Q)
   (.ite (decide ((a0 : Int) < 10))
    (.sem (Instr.buildSlice 47 1 #[(0, .int .u8 (IntKind.wrap .u8 (IntKind.wrap .i64 (48 + a0))))]) (.one (.sc (.row 1))) fun l1 =>
     (.rdn (convN 47 9 (.slice (some ⟨(l1 0).n, 0, none⟩) 1 1)) (.one (.sc (.str))) fun l2 =>
      (.done (.string ((l2 0).s)))))
    (.pcall 45 [.int .i64 (IntKind.wrap .i64 (Int.tdiv a0 10))] (.one (.sc (.str))) fun l3 => -- octroiref23_digits
     (.sem (Instr.buildSlice 47 1 #[(0, .int .u8 (IntKind.wrap .u8 (IntKind.wrap .i64 (48 + (Int.tmod a0 10)))))]) (.one (.sc (.row 1))) fun l4 =>
      (.rdn (convN 47 9 (.slice (some ⟨(l4 0).n, 0, none⟩) 1 1)) (.one (.sc (.str))) fun l5 =>
       (.rdn (binN .add 9 (.string ((l3 0).s)) (.string ((l5 0).s))) (.one (.sc (.str))) fun l6 =>
        (.done (.string ((l6 0).s)))))))) h) : Fn Tryd.prog 45 #[.int .i64 a0] I h Q :=
  Wp.fn (args := [.int .i64 a0]) Tryd.func45 rfl (by kernel_rfl) (of_tree (cfg := g_octroiref23_digits) 1000 (by kernel_rfl) Tryd.func45 rfl Tryd.checked.mixed hh)
theorem ca_octroiref23_digits : callable Tryd.prog 45 := ⟨_, Tryd.func45, by kernel_rfl, by kernel_rfl⟩
/-! ### internal_stringslite_Index -/
abbrev F_internal_stringslite_Index : FuncId := 46
theorem ca_internal_stringslite_Index : callable Tryd.prog 46 := ⟨_, Tryd.func46, by kernel_rfl, by kernel_rfl⟩
/-! ### internal_stringslite_IndexByte -/
abbrev F_internal_stringslite_IndexByte : FuncId := 47
theorem ca_internal_stringslite_IndexByte : callable Tryd.prog 47 := ⟨_, Tryd.func47, by kernel_rfl, by kernel_rfl⟩
/-! ### strings_genSplit -/
abbrev F_strings_genSplit : FuncId := 48
theorem ca_strings_genSplit : callable Tryd.prog 48 := ⟨_, Tryd.func48, by kernel_rfl, by kernel_rfl⟩
/-! ### internal_stringslite_TrimSuffix -/
abbrev F_internal_stringslite_TrimSuffix : FuncId := 49
theorem ca_internal_stringslite_TrimSuffix : callable Tryd.prog 49 := ⟨_, Tryd.func49, by kernel_rfl, by kernel_rfl⟩
/-! ### internal_strconv_Atoi -/
abbrev F_internal_strconv_Atoi : FuncId := 50
theorem ca_internal_strconv_Atoi : callable Tryd.prog 50 := ⟨_, Tryd.func50, by kernel_rfl, by kernel_rfl⟩
/-! ### strconv_toError -/
abbrev F_strconv_toError : FuncId := 51
theorem ca_strconv_toError : callable Tryd.prog 51 := ⟨_, Tryd.func51, by kernel_rfl, by kernel_rfl⟩
/-! ### internal_strconv_Itoa -/
abbrev F_internal_strconv_Itoa : FuncId := 52
theorem ca_internal_strconv_Itoa : callable Tryd.prog 52 := ⟨_, Tryd.func52, by kernel_rfl, by kernel_rfl⟩
/-! ### strings_Builder_Grow -/
abbrev F_strings_Builder_Grow : FuncId := 53
theorem ca_strings_Builder_Grow : callable Tryd.prog 53 := ⟨_, Tryd.func53, by kernel_rfl, by kernel_rfl⟩
/-! ### internal_bytealg_Cutover -/
abbrev F_internal_bytealg_Cutover : FuncId := 56
theorem ca_internal_bytealg_Cutover : callable Tryd.prog 56 := ⟨_, Tryd.func56, by kernel_rfl, by kernel_rfl⟩
/-! ### internal_bytealg_IndexRabinKarp_string -/
abbrev F_internal_bytealg_IndexRabinKarp_string : FuncId := 57
theorem ca_internal_bytealg_IndexRabinKarp_string : callable Tryd.prog 57 := ⟨_, Tryd.func57, by kernel_rfl, by kernel_rfl⟩
/-! ### strings_explode -/
abbrev F_strings_explode : FuncId := 59
theorem ca_strings_explode : callable Tryd.prog 59 := ⟨_, Tryd.func59, by kernel_rfl, by kernel_rfl⟩
/-! ### internal_stringslite_HasSuffix -/
abbrev F_internal_stringslite_HasSuffix : FuncId := 60
theorem ca_internal_stringslite_HasSuffix : callable Tryd.prog 60 := ⟨_, Tryd.func60, by kernel_rfl, by kernel_rfl⟩
/-! ### internal_strconv_ParseInt -/
abbrev F_internal_strconv_ParseInt : FuncId := 61
theorem ca_internal_strconv_ParseInt : callable Tryd.prog 61 := ⟨_, Tryd.func61, by kernel_rfl, by kernel_rfl⟩
/-! ### strconv_syntaxError -/
abbrev F_strconv_syntaxError : FuncId := 62
theorem ca_strconv_syntaxError : callable Tryd.prog 62 := ⟨_, Tryd.func62, by kernel_rfl, by kernel_rfl⟩
/-! ### strconv_rangeError -/
abbrev F_strconv_rangeError : FuncId := 63
theorem ca_strconv_rangeError : callable Tryd.prog 63 := ⟨_, Tryd.func63, by kernel_rfl, by kernel_rfl⟩
/-! ### strconv_baseError -/
abbrev F_strconv_baseError : FuncId := 64
theorem ca_strconv_baseError : callable Tryd.prog 64 := ⟨_, Tryd.func64, by kernel_rfl, by kernel_rfl⟩
/-! ### strconv_bitSizeError -/
abbrev F_strconv_bitSizeError : FuncId := 65
theorem ca_strconv_bitSizeError : callable Tryd.prog 65 := ⟨_, Tryd.func65, by kernel_rfl, by kernel_rfl⟩
/-! ### internal_strconv_FormatInt -/
abbrev F_internal_strconv_FormatInt : FuncId := 66
theorem ca_internal_strconv_FormatInt : callable Tryd.prog 66 := ⟨_, Tryd.func66, by kernel_rfl, by kernel_rfl⟩
/-! ### strings_Builder_grow -/
abbrev F_strings_Builder_grow : FuncId := 67
theorem ca_strings_Builder_grow : callable Tryd.prog 67 := ⟨_, Tryd.func67, by kernel_rfl, by kernel_rfl⟩
/-! ### internal_bytealg_hashStr_string -/
abbrev F_internal_bytealg_hashStr_string : FuncId := 68
theorem ca_internal_bytealg_hashStr_string : callable Tryd.prog 68 := ⟨_, Tryd.func68, by kernel_rfl, by kernel_rfl⟩
/-! ### unicode_utf8_DecodeRuneInString -/
abbrev F_unicode_utf8_DecodeRuneInString : FuncId := 69
theorem ca_unicode_utf8_DecodeRuneInString : callable Tryd.prog 69 := ⟨_, Tryd.func69, by kernel_rfl, by kernel_rfl⟩
/-! ### internal_strconv_ParseUint -/
abbrev F_internal_strconv_ParseUint : FuncId := 70
theorem ca_internal_strconv_ParseUint : callable Tryd.prog 70 := ⟨_, Tryd.func70, by kernel_rfl, by kernel_rfl⟩
/-! ### internal_stringslite_Clone -/
abbrev F_internal_stringslite_Clone : FuncId := 71
theorem ca_internal_stringslite_Clone : callable Tryd.prog 71 := ⟨_, Tryd.func71, by kernel_rfl, by kernel_rfl⟩
/-! ### errors_New -/
abbrev F_errors_New : FuncId := 72
theorem ca_errors_New : callable Tryd.prog 72 := ⟨_, Tryd.func72, by kernel_rfl, by kernel_rfl⟩
/-! ### internal_strconv_small -/
abbrev F_internal_strconv_small : FuncId := 73
theorem ca_internal_strconv_small : callable Tryd.prog 73 := ⟨_, Tryd.func73, by kernel_rfl, by kernel_rfl⟩
/-! ### internal_strconv_numDigits -/
abbrev F_internal_strconv_numDigits : FuncId := 74
theorem ca_internal_strconv_numDigits : callable Tryd.prog 74 := ⟨_, Tryd.func74, by kernel_rfl, by kernel_rfl⟩
/-! ### internal_strconv_formatBase10 -/
abbrev F_internal_strconv_formatBase10 : FuncId := 75
theorem ca_internal_strconv_formatBase10 : callable Tryd.prog 75 := ⟨_, Tryd.func75, by kernel_rfl, by kernel_rfl⟩
/-! ### internal_strconv_formatBits -/
abbrev F_internal_strconv_formatBits : FuncId := 76
theorem ca_internal_strconv_formatBits : callable Tryd.prog 76 := ⟨_, Tryd.func76, by kernel_rfl, by kernel_rfl⟩
/-! ### unicode_utf8_decodeRuneInStringSlow -/
abbrev F_unicode_utf8_decodeRuneInStringSlow : FuncId := 78
theorem ca_unicode_utf8_decodeRuneInStringSlow : callable Tryd.prog 78 := ⟨_, Tryd.func78, by kernel_rfl, by kernel_rfl⟩
/-! ### internal_strconv_lower -/
abbrev F_internal_strconv_lower : FuncId := 79
theorem ca_internal_strconv_lower : callable Tryd.prog 79 := ⟨_, Tryd.func79, by kernel_rfl, by kernel_rfl⟩
/-! ### internal_strconv_underscoreOK -/
abbrev F_internal_strconv_underscoreOK : FuncId := 80
theorem ca_internal_strconv_underscoreOK : callable Tryd.prog 80 := ⟨_, Tryd.func80, by kernel_rfl, by kernel_rfl⟩
/-! ### internal_strconv_log10Pow2 -/
abbrev F_internal_strconv_log10Pow2 : FuncId := 81
theorem ca_internal_strconv_log10Pow2 : callable Tryd.prog 81 := ⟨_, Tryd.func81, by kernel_rfl, by kernel_rfl⟩
/-! ### math_bits_Len64 -/
abbrev F_math_bits_Len64 : FuncId := 82
theorem ca_math_bits_Len64 : callable Tryd.prog 82 := ⟨_, Tryd.func82, by kernel_rfl, by kernel_rfl⟩
/-! ### internal_strconv_bool2_int -/
abbrev F_internal_strconv_bool2_int : FuncId := 83
theorem ca_internal_strconv_bool2_int : callable Tryd.prog 83 := ⟨_, Tryd.func83, by kernel_rfl, by kernel_rfl⟩
/-! ### internal_strconv_isPowerOfTwo -/
abbrev F_internal_strconv_isPowerOfTwo : FuncId := 84
theorem ca_internal_strconv_isPowerOfTwo : callable Tryd.prog 84 := ⟨_, Tryd.func84, by kernel_rfl, by kernel_rfl⟩
/-! ### math_bits_TrailingZeros -/
abbrev F_math_bits_TrailingZeros : FuncId := 85
theorem ca_math_bits_TrailingZeros : callable Tryd.prog 85 := ⟨_, Tryd.func85, by kernel_rfl, by kernel_rfl⟩
/-! ### math_bits_TrailingZeros32 -/
abbrev F_math_bits_TrailingZeros32 : FuncId := 86
theorem ca_math_bits_TrailingZeros32 : callable Tryd.prog 86 := ⟨_, Tryd.func86, by kernel_rfl, by kernel_rfl⟩
/-! ### math_bits_TrailingZeros64 -/
abbrev F_math_bits_TrailingZeros64 : FuncId := 87
theorem ca_math_bits_TrailingZeros64 : callable Tryd.prog 87 := ⟨_, Tryd.func87, by kernel_rfl, by kernel_rfl⟩
/-! ### gosem_cut_vars: function 117 of Go -/
abbrev F_gosem_cut_vars : FuncId := 117
noncomputable def c_gosem_cut_vars : Code := (Tryd.f117.body).getD .skip
noncomputable def g_gosem_cut_vars : Cfg := { sh := shs, fsh := fshs, results := [], hint := fun _ _ => none, ord := fun _ => none, pre := fun _ => [], un := fun _ _ _ => false }
set_option maxRecDepth 100000 in
set_option maxHeartbeats 4000000 in
theorem r_gosem_cut_vars  {I : Ctx} {h : Mem} {Q : Value → Mem → Prop}
  (hh : holds Tryd.prog 117 I (cl_ Q)
   (.unit (Instr.storeAt 123 (.pointer (some ⟨6, 0, none⟩)) (.agg #[.int .u8 0, .int .u8 1, .int .u8 28, .int .u8 2, .int .u8 29, .int .u8 14, .int .u8 24, .int .u8 3, .int .u8 30, .int .u8 22, .int .u8 20, .int .u8 15, .int .u8 25, .int .u8 17, .int .u8 4, .int .u8 8, .int .u8 31, .int .u8 27, .int .u8 13, .int .u8 23, .int .u8 21, .int .u8 19, .int .u8 16, .int .u8 7, .int .u8 26, .int .u8 12, .int .u8 18, .int .u8 6, .int .u8 11, .int .u8 5, .int .u8 10, .int .u8 9]))
    (.unit (Instr.storeAt 124 (.pointer (some ⟨7, 0, none⟩)) (.agg #[.int .u8 0, .int .u8 1, .int .u8 56, .int .u8 2, .int .u8 57, .int .u8 49, .int .u8 28, .int .u8 3, .int .u8 61, .int .u8 58, .int .u8 42, .int .u8 50, .int .u8 38, .int .u8 29, .int .u8 17, .int .u8 4, .int .u8 62, .int .u8 47, .int .u8 59, .int .u8 36, .int .u8 45, .int .u8 43, .int .u8 51, .int .u8 22, .int .u8 53, .int .u8 39, .int .u8 33, .int .u8 30, .int .u8 24, .int .u8 18, .int .u8 12, .int .u8 5, .int .u8 63, .int .u8 55, .int .u8 48, .int .u8 27, .int .u8 60, .int .u8 41, .int .u8 37, .int .u8 16, .int .u8 46, .int .u8 35, .int .u8 44, .int .u8 21, .int .u8 52, .int .u8 32, .int .u8 23, .int .u8 11, .int .u8 54, .int .u8 26, .int .u8 40, .int .u8 15, .int .u8 34, .int .u8 20, .int .u8 31, .int .u8 10, .int .u8 25, .int .u8 14, .int .u8 19, .int .u8 9, .int .u8 13, .int .u8 8, .int .u8 7, .int .u8 6]))
     (.unit (Instr.storeAt 114 (.pointer (some ⟨3, 0, none⟩)) (.agg #[.int .u64 1, .int .u64 10, .int .u64 100, .int .u64 1000, .int .u64 10000, .int .u64 100000, .int .u64 1000000, .int .u64 10000000, .int .u64 100000000, .int .u64 1000000000, .int .u64 10000000000, .int .u64 100000000000, .int .u64 1000000000000, .int .u64 10000000000000, .int .u64 100000000000000, .int .u64 1000000000000000, .int .u64 10000000000000000, .int .u64 100000000000000000, .int .u64 1000000000000000000, .int .u64 10000000000000000000]))
      (.unit (Instr.storeAt 121 (.pointer (some ⟨5, 0, none⟩)) (.agg #[.int .u8 128, .int .u8 191, .int .u8 160, .int .u8 191, .int .u8 128, .int .u8 159, .int .u8 144, .int .u8 191, .int .u8 128, .int .u8 143, .int .u8 0, .int .u8 0, .int .u8 0, .int .u8 0, .int .u8 0, .int .u8 0, .int .u8 0, .int .u8 0, .int .u8 0, .int .u8 0, .int .u8 0, .int .u8 0, .int .u8 0, .int .u8 0, .int .u8 0, .int .u8 0, .int .u8 0, .int .u8 0, .int .u8 0, .int .u8 0, .int .u8 0, .int .u8 0]))
       (.call 72 [.string (ByteArray.mk #[118, 97, 108, 117, 101, 32, 111, 117, 116, 32, 111, 102, 32, 114, 97, 110, 103, 101])] (.one (.sc (.v))) fun l1 => -- errors_New
        (.unit (Instr.storeAt 53 (.pointer (some ⟨2, 0, none⟩)) ((l1 0).v))
         (.call 72 [.string (ByteArray.mk #[105, 110, 118, 97, 108, 105, 100, 32, 115, 121, 110, 116, 97, 120])] (.one (.sc (.v))) fun l2 => -- errors_New
          (.unit (Instr.storeAt 53 (.pointer (some ⟨1, 0, none⟩)) ((l2 0).v))
           (.done (undef)))))))))) h) : Fn Tryd.prog 117 #[] I h Q :=
  Wp.fn (args := []) Tryd.func117 rfl (by kernel_rfl) (of_tree (cfg := g_gosem_cut_vars) 1000 (by kernel_rfl) Tryd.func117 rfl Tryd.checked.mixed hh)
theorem ca_gosem_cut_vars : callable Tryd.prog 117 := ⟨_, Tryd.func117, by kernel_rfl, by kernel_rfl⟩
end Go.Proofs.YtcafalcmfdnojaaDoorS
