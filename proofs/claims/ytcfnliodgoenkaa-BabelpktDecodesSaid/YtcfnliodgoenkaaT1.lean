import Derived.Test.YtcfnliodgoenkaaT0
set_option linter.unusedVariables false
namespace Go.Proofs.YtcfnliodgoenkaaS
/-! ### octroilaw06_BabelpktEncodes: function 3 of Go -/
abbrev F_octroilaw06_BabelpktEncodes : FuncId := 3
noncomputable def c_octroilaw06_BabelpktEncodes : Code := (Try.f3.body).getD .skip
noncomputable def g_octroilaw06_BabelpktEncodes : Cfg := { sh := shs, fsh := fshs, results := [.tmp 8], hint := fun r i => match r, i with | 6, 3 => some (true, .one (.sc (.str))) | 6, 5 => some (true, .one (.sc (.str))) | _, _ => none, ord := fun _ => none, pre := fun _ => [], un := fun _ _ _ => false }
set_option maxRecDepth 100000 in
set_option maxHeartbeats 4000000 in
theorem r_octroilaw06_BabelpktEncodes (Aa0 : Option Addr) (na0 : Nat) (ca0 : Nat) (a1 : Int) (a2 : Int) (a3 : Int) {I : Ctx} {h : Mem} {Q : Value → Mem → Prop}
  (hh : holds Try.prog 3 I (cl_ Q)
   (.call 11 [] (.one (.sc (.bool))) fun l1 => -- octroilaw06_awake
    (.ite (decide ((((na0 : Nat) : Int) : Int) > 60))
     (.done (.bool ((l1 0).b)))
     (.call 12 [.slice Aa0 na0 ca0] (.tup [(.sc (.sl)), (.sc (.int .i64))]) fun l2 => -- babelpkt_Encode
      (.call 13 [.slice Aa0 na0 ca0] (.tup [(.sc (.sl)), (.sc (.int .i64))]) fun l3 => -- octroiref06_Encode
       (.ite ((l1 0).b)
        (.rdn (convN 25 9 (.slice ((l2 0).A) ((l2 0).n) ((l2 0).c))) (.one (.sc (.str))) fun l4 =>
         (.rdn (convN 25 9 (.slice ((l3 0).A) ((l3 0).n) ((l3 0).c))) (.one (.sc (.str))) fun l5 =>
          (.ite (((l4 0).s).toList == ((l5 0).s).toList)
           (.ite (((l2 1).i : Int) == ((l3 1).i))
            (.call 14 [.int .u32 a1, .int .u32 a2, .int .i64 a3] (.one (.sc (.int .i64))) fun l6 => -- babelpkt_Squeeze
             (.call 15 [.int .u32 a1, .int .u32 a2, .int .i64 a3] (.one (.sc (.int .i64))) fun l7 => -- octroiref06_Squeeze
              (.done (.bool (((l6 0).i : Int) == ((l7 0).i))))))
            (.done (.bool false)))
           (.done (.bool false)))))
        (.done (.bool false))))))) h) : Fn Try.prog 3 #[.slice Aa0 na0 ca0, .int .u32 a1, .int .u32 a2, .int .i64 a3] I h Q :=
  Wp.fn (args := [.slice Aa0 na0 ca0, .int .u32 a1, .int .u32 a2, .int .i64 a3]) Try.func3 rfl (by kernel_rfl) (of_tree (cfg := g_octroilaw06_BabelpktEncodes) 1000 (by kernel_rfl) Try.func3 rfl Try.checked.mixed hh)
theorem ca_octroilaw06_BabelpktEncodes : callable Try.prog 3 := ⟨_, Try.func3, by kernel_rfl, by kernel_rfl⟩
/-! ### octroilaw06_BabelpktSqueezes: function 4 of Go -/
abbrev F_octroilaw06_BabelpktSqueezes : FuncId := 4
noncomputable def c_octroilaw06_BabelpktSqueezes : Code := (Try.f4.body).getD .skip
noncomputable def g_octroilaw06_BabelpktSqueezes : Cfg := { sh := shs, fsh := fshs, results := [.tmp 6], hint := fun _ _ => none, ord := fun _ => none, pre := fun _ => [], un := fun _ _ _ => false }
set_option maxRecDepth 100000 in
set_option maxHeartbeats 4000000 in
theorem r_octroilaw06_BabelpktSqueezes (a0 : Int) (a1 : Int) (a2 : Int) {I : Ctx} {h : Mem} {Q : Value → Mem → Prop}
  (hh : holds Try.prog 4 I (cl_ Q)
   (.call 11 [] (.one (.sc (.bool))) fun l1 => -- octroilaw06_awake
    (.ite (decide ((a2 : Int) < 0))
     (.ite ((l1 0).b)
      (.call 14 [.int .u32 a0, .int .u32 a1, .int .i64 a2] (.one (.sc (.int .i64))) fun l2 => -- babelpkt_Squeeze
       (.done (.bool (((l2 0).i : Int) == 0))))
      (.done (.bool false)))
     (.ite (decide ((a2 : Int) > 4))
      (.ite ((l1 0).b)
       (.call 14 [.int .u32 a0, .int .u32 a1, .int .i64 a2] (.one (.sc (.int .i64))) fun l3 => -- babelpkt_Squeeze
        (.done (.bool (((l3 0).i : Int) == 0))))
       (.done (.bool false)))
      (.call 14 [.int .u32 a0, .int .u32 a1, .int .i64 a2] (.one (.sc (.int .i64))) fun l4 => -- babelpkt_Squeeze
       (.ite ((l1 0).b)
        (.call 14 [.int .u32 a1, .int .u32 a0, .int .i64 a2] (.one (.sc (.int .i64))) fun l5 => -- babelpkt_Squeeze
         (.ite (((l4 0).i : Int) == ((l5 0).i))
          (.ite (decide (((l4 0).i : Int) ≤ a2))
           (.ite (decide (((l4 0).i : Int) ≥ 0))
            (.call 14 [.int .u32 a0, .int .u32 a0, .int .i64 a2] (.one (.sc (.int .i64))) fun l6 => -- babelpkt_Squeeze
             (.ite (((l6 0).i : Int) == a2)
              (.ite (decide (((l4 0).i : Int) < 4))
               (.done (.bool true))
               (.done (.bool ((a0 : Int) == a1))))
              (.done (.bool false))))
            (.done (.bool false)))
           (.done (.bool false)))
          (.done (.bool false))))
        (.done (.bool false))))))) h) : Fn Try.prog 4 #[.int .u32 a0, .int .u32 a1, .int .i64 a2] I h Q :=
  Wp.fn (args := [.int .u32 a0, .int .u32 a1, .int .i64 a2]) Try.func4 rfl (by kernel_rfl) (of_tree (cfg := g_octroilaw06_BabelpktSqueezes) 1000 (by kernel_rfl) Try.func4 rfl Try.checked.mixed hh)
theorem ca_octroilaw06_BabelpktSqueezes : callable Try.prog 4 := ⟨_, Try.func4, by kernel_rfl, by kernel_rfl⟩
/-! ### octroilaw06_BabelpktShort: function 5 of Go -/
abbrev F_octroilaw06_BabelpktShort : FuncId := 5
noncomputable def c_octroilaw06_BabelpktShort : Code := (Try.f5.body).getD .skip
noncomputable def g_octroilaw06_BabelpktShort : Cfg := { sh := shs, fsh := fshs, results := [.tmp 4], hint := fun _ _ => none, ord := fun _ => none, pre := fun _ => [], un := fun _ _ _ => false }
set_option maxRecDepth 100000 in
set_option maxHeartbeats 4000000 in
theorem r_octroilaw06_BabelpktShort (a0_0 : Int) (a0_1 : Int) (a0_2 : Int) (a0_3 : Int) (a0_4 : Int) (a0_5 : Int) (a0_6 : Int) (a0_7 : Int) (a0_8 : Int) (a1 : Int) {I : Ctx} {h : Mem} {Q : Value → Mem → Prop}
  (hh : holds Try.prog 5 I (cl_ Q)
   (.sem (Instr.box 37 (.agg #[.int .i64 a0_0, .int .u16 a0_1, .int .i64 a0_2, .int .i64 a0_3, .int .u32 a0_4, .int .i64 a0_5, .int .u64 a0_6, .int .u16 a0_7, .int .i64 a0_8])) shBlk fun l1 =>
    (.call 11 [] (.one (.sc (.bool))) fun l2 => -- octroilaw06_awake
     (.unit (Instr.storeAt 3 (.pointer (some ⟨(l1 0).n, 0, none⟩)) (.int .i64 2))
      (.rd (Instr.loadAt 37 (.pointer (some ⟨(l1 0).n, 0, none⟩))) (.one (.agg [.int .i64, .int .u16, .int .i64, .int .i64, .int .u32, .int .i64, .int .u64, .int .u16, .int .i64])) fun l3 =>
       (.sem (Instr.alloc 37 true (.tuple #[])) shBlk fun l4 =>
        (.unit (Instr.storeAt 37 (.pointer (some ⟨(l4 0).n, 0, none⟩)) (.agg #[.int .i64 ((l3 0).i), .int .u16 ((l3 1).i), .int .i64 ((l3 2).i), .int .i64 ((l3 3).i), .int .u32 ((l3 4).i), .int .i64 ((l3 5).i), .int .u64 ((l3 6).i), .int .u16 ((l3 7).i), .int .i64 ((l3 8).i)]))
         (.unit (Instr.storeAt 3 (.pointer (some ⟨(l4 0).n, 3, none⟩)) (.int .i64 a1))
          (.rd (Instr.loadAt 37 (.pointer (some ⟨(l1 0).n, 0, none⟩))) (.one (.agg [.int .i64, .int .u16, .int .i64, .int .i64, .int .u32, .int .i64, .int .u64, .int .u16, .int .i64])) fun l5 =>
           (.sem (Instr.buildSlice 22 1 #[(0, .agg #[.int .i64 ((l5 0).i), .int .u16 ((l5 1).i), .int .i64 ((l5 2).i), .int .i64 ((l5 3).i), .int .u32 ((l5 4).i), .int .i64 ((l5 5).i), .int .u64 ((l5 6).i), .int .u16 ((l5 7).i), .int .i64 ((l5 8).i)])]) (.one (.sc (.row 1))) fun l6 =>
            (.call 12 [.slice (some ⟨(l6 0).n, 0, none⟩) 1 1] (.tup [(.sc (.sl)), (.sc (.int .i64))]) fun l7 => -- babelpkt_Encode
             (.rd (Instr.loadAt 37 (.pointer (some ⟨(l1 0).n, 0, none⟩))) (.one (.agg [.int .i64, .int .u16, .int .i64, .int .i64, .int .u32, .int .i64, .int .u64, .int .u16, .int .i64])) fun l8 =>
              (.rd (Instr.loadAt 37 (.pointer (some ⟨(l4 0).n, 0, none⟩))) (.one (.agg [.int .i64, .int .u16, .int .i64, .int .i64, .int .u32, .int .i64, .int .u64, .int .u16, .int .i64])) fun l9 =>
               (.sem (Instr.buildSlice 22 2 #[(0, .agg #[.int .i64 ((l8 0).i), .int .u16 ((l8 1).i), .int .i64 ((l8 2).i), .int .i64 ((l8 3).i), .int .u32 ((l8 4).i), .int .i64 ((l8 5).i), .int .u64 ((l8 6).i), .int .u16 ((l8 7).i), .int .i64 ((l8 8).i)]), (1, .agg #[.int .i64 ((l9 0).i), .int .u16 ((l9 1).i), .int .i64 ((l9 2).i), .int .i64 ((l9 3).i), .int .u32 ((l9 4).i), .int .i64 ((l9 5).i), .int .u64 ((l9 6).i), .int .u16 ((l9 7).i), .int .i64 ((l9 8).i)])]) (.one (.sc (.row 2))) fun l10 =>
                (.call 12 [.slice (some ⟨(l10 0).n, 0, none⟩) 2 2] (.tup [(.sc (.sl)), (.sc (.int .i64))]) fun l11 => -- babelpkt_Encode
                 (.ite (!((l2 0).b))
                  (.done (.bool ((l2 0).b)))
                  (.ite (((l7 1).i : Int) != 0)
                   (.done (.bool ((l2 0).b)))
                   (.ite (((l11 1).i : Int) != 0)
                    (.done (.bool ((l2 0).b)))
                    (.rd (Instr.loadAt 32 (.pointer (some ⟨(l1 0).n, 7, none⟩))) (.one (.sc (.int .u16))) fun l12 =>
                     (.ite (((l12 0).i : Int) != 0)
                      (.done (.bool (((((l11 0).n : Nat) : Int) : Int) == (IntKind.wrap .i64 ((IntKind.wrap .i64 ((((l7 0).n : Nat) : Int) + 12)) + 4)))))
                      (.done (.bool (((((l11 0).n : Nat) : Int) : Int) == (IntKind.wrap .i64 ((IntKind.wrap .i64 ((((l7 0).n : Nat) : Int) + 12)) + 0)))))))))))))))))))))))) h) : Fn Try.prog 5 #[.agg #[.int .i64 a0_0, .int .u16 a0_1, .int .i64 a0_2, .int .i64 a0_3, .int .u32 a0_4, .int .i64 a0_5, .int .u64 a0_6, .int .u16 a0_7, .int .i64 a0_8], .int .i64 a1] I h Q :=
  Wp.fn (args := [.agg #[.int .i64 a0_0, .int .u16 a0_1, .int .i64 a0_2, .int .i64 a0_3, .int .u32 a0_4, .int .i64 a0_5, .int .u64 a0_6, .int .u16 a0_7, .int .i64 a0_8], .int .i64 a1]) Try.func5 rfl (by kernel_rfl) (of_tree (cfg := g_octroilaw06_BabelpktShort) 1000 (by kernel_rfl) Try.func5 rfl Try.checked.mixed hh)
theorem ca_octroilaw06_BabelpktShort : callable Try.prog 5 := ⟨_, Try.func5, by kernel_rfl, by kernel_rfl⟩
/-! ### octroilaw06_BabelpktDecodes: function 6 of Go -/
abbrev F_octroilaw06_BabelpktDecodes : FuncId := 6
noncomputable def c_octroilaw06_BabelpktDecodes : Code := (Try.f6.body).getD .skip
noncomputable def g_octroilaw06_BabelpktDecodes : Cfg := { sh := shs, fsh := fshs, results := [.tmp 2], hint := fun _ _ => none, ord := fun _ => none, pre := fun _ => [], un := fun _ _ _ => false }
set_option maxRecDepth 100000 in
set_option maxHeartbeats 4000000 in
theorem r_octroilaw06_BabelpktDecodes (Aa0 : Option Addr) (na0 : Nat) (ca0 : Nat) {I : Ctx} {h : Mem} {Q : Value → Mem → Prop}
  (hh : holds Try.prog 6 I (cl_ Q)
   (.call 11 [] (.one (.sc (.bool))) fun l1 => -- octroilaw06_awake
    (.ite (decide ((((na0 : Nat) : Int) : Int) > 3000))
     (.done (.bool ((l1 0).b)))
     (.call 16 [.slice Aa0 na0 ca0] (.tup [(.sc (.sl)), (.sc (.int .i64))]) fun l2 => -- babelpkt_Decode
      (.call 17 [.slice Aa0 na0 ca0] (.tup [(.sc (.sl)), (.sc (.int .i64))]) fun l3 => -- octroiref06_Decode
       (.call 18 [.slice ((l2 0).A) ((l2 0).n) ((l2 0).c), .slice ((l3 0).A) ((l3 0).n) ((l3 0).c)] (.one (.sc (.bool))) fun l4 => -- octroiref06_Same
        (.ite ((l1 0).b)
         (.ite ((l4 0).b)
          (.done (.bool (((l2 1).i : Int) == ((l3 1).i))))
          (.done (.bool false)))
         (.done (.bool false)))))))) h) : Fn Try.prog 6 #[.slice Aa0 na0 ca0] I h Q :=
  Wp.fn (args := [.slice Aa0 na0 ca0]) Try.func6 rfl (by kernel_rfl) (of_tree (cfg := g_octroilaw06_BabelpktDecodes) 1000 (by kernel_rfl) Try.func6 rfl Try.checked.mixed hh)
theorem ca_octroilaw06_BabelpktDecodes : callable Try.prog 6 := ⟨_, Try.func6, by kernel_rfl, by kernel_rfl⟩
/-! ### octroilaw06_BabelpktBack: function 7 of Go -/
abbrev F_octroilaw06_BabelpktBack : FuncId := 7
noncomputable def c_octroilaw06_BabelpktBack : Code := (Try.f7.body).getD .skip
noncomputable def g_octroilaw06_BabelpktBack : Cfg := { sh := shs, fsh := fshs, results := [.tmp 2], hint := fun _ _ => none, ord := fun _ => none, pre := fun _ => [], un := fun _ _ _ => false }
set_option maxRecDepth 100000 in
set_option maxHeartbeats 4000000 in
theorem r_octroilaw06_BabelpktBack (Aa0 : Option Addr) (na0 : Nat) (ca0 : Nat) {I : Ctx} {h : Mem} {Q : Value → Mem → Prop}
  (hh : holds Try.prog 7 I (cl_ Q)
   (.call 11 [] (.one (.sc (.bool))) fun l1 => -- octroilaw06_awake
    (.ite (decide ((((na0 : Nat) : Int) : Int) > 60))
     (.done (.bool ((l1 0).b)))
     (.call 12 [.slice Aa0 na0 ca0] (.tup [(.sc (.sl)), (.sc (.int .i64))]) fun l2 => -- babelpkt_Encode
      (.call 16 [.slice ((l2 0).A) ((l2 0).n) ((l2 0).c)] (.tup [(.sc (.sl)), (.sc (.int .i64))]) fun l3 => -- babelpkt_Decode
       (.call 18 [.slice ((l3 0).A) ((l3 0).n) ((l3 0).c), .slice Aa0 na0 ca0] (.one (.sc (.bool))) fun l4 => -- octroiref06_Same
        (.ite (((l2 1).i : Int) != 0)
         (.ite ((l1 0).b)
          (.ite (((((l2 0).n : Nat) : Int) : Int) == 0)
           (.done (.bool (((l3 1).i : Int) == 2)))
           (.done (.bool false)))
          (.done (.bool false)))
         (.ite ((l1 0).b)
          (.ite (((l3 1).i : Int) == 0)
           (.done (.bool ((l4 0).b)))
           (.done (.bool false)))
          (.done (.bool false))))))))) h) : Fn Try.prog 7 #[.slice Aa0 na0 ca0] I h Q :=
  Wp.fn (args := [.slice Aa0 na0 ca0]) Try.func7 rfl (by kernel_rfl) (of_tree (cfg := g_octroilaw06_BabelpktBack) 1000 (by kernel_rfl) Try.func7 rfl Try.checked.mixed hh)
theorem ca_octroilaw06_BabelpktBack : callable Try.prog 7 := ⟨_, Try.func7, by kernel_rfl, by kernel_rfl⟩
/-! ### octroilaw06_BabelpktCuts: function 8 of Go -/
abbrev F_octroilaw06_BabelpktCuts : FuncId := 8
noncomputable def c_octroilaw06_BabelpktCuts : Code := (Try.f8.body).getD .skip
noncomputable def g_octroilaw06_BabelpktCuts : Cfg := { sh := shs, fsh := fshs, results := [.tmp 6], hint := fun _ _ => none, ord := fun _ => none, pre := fun _ => [], un := fun _ _ _ => false }
set_option maxRecDepth 100000 in
set_option maxHeartbeats 4000000 in
theorem r_octroilaw06_BabelpktCuts (Aa0 : Option Addr) (na0 : Nat) (ca0 : Nat) (a1 : Int) (Aa2 : Option Addr) (na2 : Nat) (ca2 : Nat) {I : Ctx} {h : Mem} {Q : Value → Mem → Prop}
  (hh : holds Try.prog 8 I (cl_ Q)
   (.call 11 [] (.one (.sc (.bool))) fun l1 => -- octroilaw06_awake
    (.ite (!((l1 0).b))
     (.done (.bool ((l1 0).b)))
     (.ite (decide ((((na0 : Nat) : Int) : Int) > 40))
      (.done (.bool ((l1 0).b)))
      (.ite (decide ((((na2 : Nat) : Int) : Int) < 1))
       (.done (.bool ((l1 0).b)))
       (.ite (decide ((((na2 : Nat) : Int) : Int) > 100))
        (.done (.bool ((l1 0).b)))
        (.ite (decide ((a1 : Int) < 0))
         (.done (.bool ((l1 0).b)))
         (.call 12 [.slice Aa0 na0 ca0] (.tup [(.sc (.sl)), (.sc (.int .i64))]) fun l2 => -- babelpkt_Encode
          (.ite (((l2 1).i : Int) != 0)
           (.done (.bool true))
           (.ite (decide ((a1 : Int) ≥ (((l2 0).n : Nat) : Int)))
            (.done (.bool true))
            (.nx (builtin .append #[25, 25] 25 #[true, false] #[.slice none 0 0, .slice ((l2 0).A) ((l2 0).n) ((l2 0).c)]) (.one (.sc (.sl))) fun l3 =>
             (.nx (builtin .append #[25, 25] 25 #[false, false] #[.slice ((l3 0).A) ((l3 0).n) ((l3 0).c), .slice Aa2 na2 ca2]) (.one (.sc (.sl))) fun l4 =>
              (.call 16 [.slice ((l4 0).A) ((l4 0).n) ((l4 0).c)] (.tup [(.sc (.sl)), (.sc (.int .i64))]) fun l5 => -- babelpkt_Decode
               (.rd (Instr.sliceAt 25 (.slice ((l2 0).A) ((l2 0).n) ((l2 0).c)) none (some (.int .i64 a1)) none) (.one (.sc (.sl))) fun l6 =>
                (.call 16 [.slice ((l6 0).A) ((l6 0).n) ((l6 0).c)] (.tup [(.sc (.sl)), (.sc (.int .i64))]) fun l7 => -- babelpkt_Decode
                 (.ite (((l5 1).i : Int) == 2)
                  (.done (.bool (((l7 1).i : Int) == 2)))
                  (.done (.bool false))))))))))))))))) h) : Fn Try.prog 8 #[.slice Aa0 na0 ca0, .int .i64 a1, .slice Aa2 na2 ca2] I h Q :=
  Wp.fn (args := [.slice Aa0 na0 ca0, .int .i64 a1, .slice Aa2 na2 ca2]) Try.func8 rfl (by kernel_rfl) (of_tree (cfg := g_octroilaw06_BabelpktCuts) 1000 (by kernel_rfl) Try.func8 rfl Try.checked.mixed hh)
theorem ca_octroilaw06_BabelpktCuts : callable Try.prog 8 := ⟨_, Try.func8, by kernel_rfl, by kernel_rfl⟩
/-! ### octroilaw06_BabelpktAgain: function 9 of Go -/
abbrev F_octroilaw06_BabelpktAgain : FuncId := 9
noncomputable def c_octroilaw06_BabelpktAgain : Code := (Try.f9.body).getD .skip
noncomputable def g_octroilaw06_BabelpktAgain : Cfg := { sh := shs, fsh := fshs, results := [.tmp 2], hint := fun _ _ => none, ord := fun _ => none, pre := fun _ => [], un := fun _ _ _ => false }
set_option maxRecDepth 100000 in
set_option maxHeartbeats 4000000 in
theorem r_octroilaw06_BabelpktAgain (Aa0 : Option Addr) (na0 : Nat) (ca0 : Nat) {I : Ctx} {h : Mem} {Q : Value → Mem → Prop}
  (hh : holds Try.prog 9 I (cl_ Q)
   (.call 11 [] (.one (.sc (.bool))) fun l1 => -- octroilaw06_awake
    (.ite (decide ((((na0 : Nat) : Int) : Int) > 3000))
     (.done (.bool ((l1 0).b)))
     (.call 16 [.slice Aa0 na0 ca0] (.tup [(.sc (.sl)), (.sc (.int .i64))]) fun l2 => -- babelpkt_Decode
      (.ite (((l2 1).i : Int) != 0)
       (.ite ((l1 0).b)
        (.done (.bool (((((l2 0).n : Nat) : Int) : Int) == 0)))
        (.done (.bool false)))
       (.call 12 [.slice ((l2 0).A) ((l2 0).n) ((l2 0).c)] (.tup [(.sc (.sl)), (.sc (.int .i64))]) fun l3 => -- babelpkt_Encode
        (.call 16 [.slice ((l3 0).A) ((l3 0).n) ((l3 0).c)] (.tup [(.sc (.sl)), (.sc (.int .i64))]) fun l4 => -- babelpkt_Decode
         (.call 18 [.slice ((l2 0).A) ((l2 0).n) ((l2 0).c), .slice ((l4 0).A) ((l4 0).n) ((l4 0).c)] (.one (.sc (.bool))) fun l5 => -- octroiref06_Same
          (.ite ((l1 0).b)
           (.ite (((l3 1).i : Int) == 0)
            (.ite (((l4 1).i : Int) == 0)
             (.done (.bool ((l5 0).b)))
             (.done (.bool false)))
            (.done (.bool false)))
           (.done (.bool false)))))))))) h) : Fn Try.prog 9 #[.slice Aa0 na0 ca0] I h Q :=
  Wp.fn (args := [.slice Aa0 na0 ca0]) Try.func9 rfl (by kernel_rfl) (of_tree (cfg := g_octroilaw06_BabelpktAgain) 1000 (by kernel_rfl) Try.func9 rfl Try.checked.mixed hh)
theorem ca_octroilaw06_BabelpktAgain : callable Try.prog 9 := ⟨_, Try.func9, by kernel_rfl, by kernel_rfl⟩
/-! ### octroilaw06_BabelpktStrange: function 10 of Go -/
abbrev F_octroilaw06_BabelpktStrange : FuncId := 10
noncomputable def c_octroilaw06_BabelpktStrange : Code := (Try.f10.body).getD .skip
noncomputable def g_octroilaw06_BabelpktStrange : Cfg := { sh := shs, fsh := fshs, results := [.tmp 6], hint := fun _ _ => none, ord := fun _ => none, pre := fun _ => [], un := fun _ _ _ => false }
set_option maxRecDepth 100000 in
set_option maxHeartbeats 4000000 in
theorem r_octroilaw06_BabelpktStrange (Aa0 : Option Addr) (na0 : Nat) (ca0 : Nat) (a1 : Int) (Aa2 : Option Addr) (na2 : Nat) (ca2 : Nat) {I : Ctx} {h : Mem} {Q : Value → Mem → Prop}
  (hh : holds Try.prog 10 I (cl_ Q)
   (.call 11 [] (.one (.sc (.bool))) fun l1 => -- octroilaw06_awake
    (.ite (!((l1 0).b))
     (.done (.bool ((l1 0).b)))
     (.ite (decide ((((na0 : Nat) : Int) : Int) > 20))
      (.done (.bool ((l1 0).b)))
      (.ite (decide ((((na2 : Nat) : Int) : Int) > 100))
       (.done (.bool ((l1 0).b)))
       (.ite (decide ((a1 : Int) ≥ 4))
        (.ite (decide ((a1 : Int) ≤ 10))
         (.ite ((a1 : Int) != 7)
          (.done (.bool ((l1 0).b)))
          (.call 12 [.slice Aa0 na0 ca0] (.tup [(.sc (.sl)), (.sc (.int .i64))]) fun l2 => -- babelpkt_Encode
           (.ite (((l2 1).i : Int) != 0)
            (.done (.bool true))
            (.sem (Instr.buildSlice 25 1 #[(0, .int .u8 a1)]) (.one (.sc (.row 1))) fun l3 =>
             (.nx (builtin .append #[25, 25] 25 #[false, false] #[.slice ((l2 0).A) ((l2 0).n) ((l2 0).c), .slice (some ⟨(l3 0).n, 0, none⟩) 1 1]) (.one (.sc (.sl))) fun l4 =>
              (.sem (Instr.buildSlice 25 1 #[(0, .int .u8 (IntKind.wrap .u8 ((na2 : Nat) : Int)))]) (.one (.sc (.row 1))) fun l5 =>
               (.nx (builtin .append #[25, 25] 25 #[false, false] #[.slice ((l4 0).A) ((l4 0).n) ((l4 0).c), .slice (some ⟨(l5 0).n, 0, none⟩) 1 1]) (.one (.sc (.sl))) fun l6 =>
                (.nx (builtin .append #[25, 25] 25 #[false, false] #[.slice ((l6 0).A) ((l6 0).n) ((l6 0).c), .slice Aa2 na2 ca2]) (.one (.sc (.sl))) fun l7 =>
                 (.rd (Instr.indexAt 25 (.slice ((l7 0).A) ((l7 0).n) ((l7 0).c)) (.int .i64 2)) (.one (.sc (.padr))) fun l8 =>
                  (.unit (Instr.storeAt 5 (.pointer (some ((l8 0).a))) (.int .u8 (IntKind.wrap .u8 (IntKind.wrap .i64 (Int.tdiv (IntKind.wrap .i64 ((((l7 0).n : Nat) : Int) - 4)) 256)))))
                   (.rd (Instr.indexAt 25 (.slice ((l7 0).A) ((l7 0).n) ((l7 0).c)) (.int .i64 3)) (.one (.sc (.padr))) fun l9 =>
                    (.unit (Instr.storeAt 5 (.pointer (some ((l9 0).a))) (.int .u8 (IntKind.wrap .u8 (Int.tmod (IntKind.wrap .i64 ((((l7 0).n : Nat) : Int) - 4)) 256))))
                     (.call 16 [.slice ((l7 0).A) ((l7 0).n) ((l7 0).c)] (.tup [(.sc (.sl)), (.sc (.int .i64))]) fun l10 => -- babelpkt_Decode
                      (.call 18 [.slice Aa0 na0 ca0, .slice ((l10 0).A) ((l10 0).n) ((l10 0).c)] (.one (.sc (.bool))) fun l11 => -- octroiref06_Same
                       (.ite (((l10 1).i : Int) == 0)
                        (.done (.bool ((l11 0).b)))
                        (.done (.bool false)))))))))))))))))
         (.call 12 [.slice Aa0 na0 ca0] (.tup [(.sc (.sl)), (.sc (.int .i64))]) fun l12 => -- babelpkt_Encode
          (.ite (((l12 1).i : Int) != 0)
           (.done (.bool true))
           (.sem (Instr.buildSlice 25 1 #[(0, .int .u8 a1)]) (.one (.sc (.row 1))) fun l13 =>
            (.nx (builtin .append #[25, 25] 25 #[false, false] #[.slice ((l12 0).A) ((l12 0).n) ((l12 0).c), .slice (some ⟨(l13 0).n, 0, none⟩) 1 1]) (.one (.sc (.sl))) fun l14 =>
             (.sem (Instr.buildSlice 25 1 #[(0, .int .u8 (IntKind.wrap .u8 ((na2 : Nat) : Int)))]) (.one (.sc (.row 1))) fun l15 =>
              (.nx (builtin .append #[25, 25] 25 #[false, false] #[.slice ((l14 0).A) ((l14 0).n) ((l14 0).c), .slice (some ⟨(l15 0).n, 0, none⟩) 1 1]) (.one (.sc (.sl))) fun l16 =>
               (.nx (builtin .append #[25, 25] 25 #[false, false] #[.slice ((l16 0).A) ((l16 0).n) ((l16 0).c), .slice Aa2 na2 ca2]) (.one (.sc (.sl))) fun l17 =>
                (.rd (Instr.indexAt 25 (.slice ((l17 0).A) ((l17 0).n) ((l17 0).c)) (.int .i64 2)) (.one (.sc (.padr))) fun l18 =>
                 (.unit (Instr.storeAt 5 (.pointer (some ((l18 0).a))) (.int .u8 (IntKind.wrap .u8 (IntKind.wrap .i64 (Int.tdiv (IntKind.wrap .i64 ((((l17 0).n : Nat) : Int) - 4)) 256)))))
                  (.rd (Instr.indexAt 25 (.slice ((l17 0).A) ((l17 0).n) ((l17 0).c)) (.int .i64 3)) (.one (.sc (.padr))) fun l19 =>
                   (.unit (Instr.storeAt 5 (.pointer (some ((l19 0).a))) (.int .u8 (IntKind.wrap .u8 (Int.tmod (IntKind.wrap .i64 ((((l17 0).n : Nat) : Int) - 4)) 256))))
                    (.call 16 [.slice ((l17 0).A) ((l17 0).n) ((l17 0).c)] (.tup [(.sc (.sl)), (.sc (.int .i64))]) fun l20 => -- babelpkt_Decode
                     (.call 18 [.slice Aa0 na0 ca0, .slice ((l20 0).A) ((l20 0).n) ((l20 0).c)] (.one (.sc (.bool))) fun l21 => -- octroiref06_Same
                      (.ite (((l20 1).i : Int) == 0)
                       (.done (.bool ((l21 0).b)))
                       (.done (.bool false)))))))))))))))))
        (.call 12 [.slice Aa0 na0 ca0] (.tup [(.sc (.sl)), (.sc (.int .i64))]) fun l22 => -- babelpkt_Encode
         (.ite (((l22 1).i : Int) != 0)
          (.done (.bool true))
          (.sem (Instr.buildSlice 25 1 #[(0, .int .u8 a1)]) (.one (.sc (.row 1))) fun l23 =>
           (.nx (builtin .append #[25, 25] 25 #[false, false] #[.slice ((l22 0).A) ((l22 0).n) ((l22 0).c), .slice (some ⟨(l23 0).n, 0, none⟩) 1 1]) (.one (.sc (.sl))) fun l24 =>
            (.sem (Instr.buildSlice 25 1 #[(0, .int .u8 (IntKind.wrap .u8 ((na2 : Nat) : Int)))]) (.one (.sc (.row 1))) fun l25 =>
             (.nx (builtin .append #[25, 25] 25 #[false, false] #[.slice ((l24 0).A) ((l24 0).n) ((l24 0).c), .slice (some ⟨(l25 0).n, 0, none⟩) 1 1]) (.one (.sc (.sl))) fun l26 =>
              (.nx (builtin .append #[25, 25] 25 #[false, false] #[.slice ((l26 0).A) ((l26 0).n) ((l26 0).c), .slice Aa2 na2 ca2]) (.one (.sc (.sl))) fun l27 =>
               (.rd (Instr.indexAt 25 (.slice ((l27 0).A) ((l27 0).n) ((l27 0).c)) (.int .i64 2)) (.one (.sc (.padr))) fun l28 =>
                (.unit (Instr.storeAt 5 (.pointer (some ((l28 0).a))) (.int .u8 (IntKind.wrap .u8 (IntKind.wrap .i64 (Int.tdiv (IntKind.wrap .i64 ((((l27 0).n : Nat) : Int) - 4)) 256)))))
                 (.rd (Instr.indexAt 25 (.slice ((l27 0).A) ((l27 0).n) ((l27 0).c)) (.int .i64 3)) (.one (.sc (.padr))) fun l29 =>
                  (.unit (Instr.storeAt 5 (.pointer (some ((l29 0).a))) (.int .u8 (IntKind.wrap .u8 (Int.tmod (IntKind.wrap .i64 ((((l27 0).n : Nat) : Int) - 4)) 256))))
                   (.call 16 [.slice ((l27 0).A) ((l27 0).n) ((l27 0).c)] (.tup [(.sc (.sl)), (.sc (.int .i64))]) fun l30 => -- babelpkt_Decode
                    (.call 18 [.slice Aa0 na0 ca0, .slice ((l30 0).A) ((l30 0).n) ((l30 0).c)] (.one (.sc (.bool))) fun l31 => -- octroiref06_Same
                     (.ite (((l30 1).i : Int) == 0)
                      (.done (.bool ((l31 0).b)))
                      (.done (.bool false))))))))))))))))))))) h) : Fn Try.prog 10 #[.slice Aa0 na0 ca0, .int .u8 a1, .slice Aa2 na2 ca2] I h Q :=
  Wp.fn (args := [.slice Aa0 na0 ca0, .int .u8 a1, .slice Aa2 na2 ca2]) Try.func10 rfl (by kernel_rfl) (of_tree (cfg := g_octroilaw06_BabelpktStrange) 1000 (by kernel_rfl) Try.func10 rfl Try.checked.mixed hh)
theorem ca_octroilaw06_BabelpktStrange : callable Try.prog 10 := ⟨_, Try.func10, by kernel_rfl, by kernel_rfl⟩
/-! ### octroilaw06_awake: function 11 of Go -/
abbrev F_octroilaw06_awake : FuncId := 11
noncomputable def c_octroilaw06_awake : Code := (Try.f11.body).getD .skip
noncomputable def g_octroilaw06_awake : Cfg := { sh := shs, fsh := fshs, results := [.tmp 0], hint := fun r i => match r, i with | 2, 4 => some (true, .one (.sc (.str))) | _, _ => none, ord := fun _ => none, pre := fun _ => [], un := fun _ _ _ => false }
set_option maxRecDepth 100000 in
set_option maxHeartbeats 4000000 in
theorem r_octroilaw06_awake  {I : Ctx} {h : Mem} {Q : Value → Mem → Prop}
  (hh : holds Try.prog 11 I (cl_ Q)
   (.sem (Instr.buildSlice 22 1 #[(0, .agg #[.int .i64 0, .int .u16 5, .int .i64 400, .int .i64 0, .int .u32 0, .int .i64 0, .int .u64 0, .int .u16 0, .int .i64 0])]) (.one (.sc (.row 1))) fun l1 =>
    (.call 12 [.slice (some ⟨(l1 0).n, 0, none⟩) 1 1] (.tup [(.sc (.sl)), (.sc (.int .i64))]) fun l2 => -- babelpkt_Encode
     (.ite (((l2 1).i : Int) == 0)
      (.rdn (convN 25 9 (.slice ((l2 0).A) ((l2 0).n) ((l2 0).c))) (.one (.sc (.str))) fun l3 =>
       (.done (.bool (((l3 0).s).toList == (ByteArray.mk #[42, 2, 0, 8, 4, 6, 0, 0, 0, 5, 1, 144]).toList))))
      (.done (.bool false))))) h) : Fn Try.prog 11 #[] I h Q :=
  Wp.fn (args := []) Try.func11 rfl (by kernel_rfl) (of_tree (cfg := g_octroilaw06_awake) 1000 (by kernel_rfl) Try.func11 rfl Try.checked.mixed hh)
theorem ca_octroilaw06_awake : callable Try.prog 11 := ⟨_, Try.func11, by kernel_rfl, by kernel_rfl⟩
/-! ### babelpkt_Encode: function 12 of Go -/
abbrev F_babelpkt_Encode : FuncId := 12
noncomputable def c_babelpkt_Encode : Code := (Try.f12.body).getD .skip
def p_babelpkt_Encode : Nat → List (List Nat) := fun r => match r with | 12 => [[], [], [1], [1, 2], [1, 2, 3], [], [5], [0, 1, 2, 3, 4, 5, 6], [0, 1, 2, 3, 4, 5, 6, 7], [0, 1, 2, 3, 4, 5, 6, 7, 8], [0, 1, 2, 3, 4, 5, 6, 7, 8, 9]] | _ => []
noncomputable def g_babelpkt_Encode : Cfg := { sh := shs, fsh := fshs, results := [.tmp 2, .tmp 3], hint := fun _ _ => none, ord := fun r => match r with | 12 => some [1, 2, 3, 5, 6, 4, 0, 7, 8, 9, 10] | _ => none, pre := p_babelpkt_Encode, un := unOf p_babelpkt_Encode }
noncomputable def k_babelpkt_Encode_1 : List Item := [.code (bd (bd (sr (sl (sr (sr (sr (sr c_babelpkt_Encode)))))))), .inLoop (bd (bd (sr (sl (sr (sr (sr (sr c_babelpkt_Encode)))))))), .inBlock 1, .code (sr (sr (sr (sr (sr c_babelpkt_Encode)))))]
noncomputable def t_babelpkt_Encode_1 (Aa0 : Option Addr) (na0 : Nat) (ca0 : Nat) (y5 : Nat) (x18 : Int) (u : Nat → Value) : List Value := [(u 0), undef, (u 2), (u 3), (u 4), .pointer (some ⟨y5, 0, none⟩), undef, (u 7), (u 8), (u 9), (u 10), (u 11), (u 12), (u 13), (u 14), (u 15), .slice Aa0 na0 ca0, .int .i64 ((na0 : Nat) : Int), .int .i64 x18, (u 19), (u 20), (u 21), (u 22), (u 23), (u 24), (u 25), (u 26), (u 27), (u 28), (u 29), (u 30), (u 31), (u 32), (u 33)]
set_option maxRecDepth 100000 in
set_option maxHeartbeats 4000000 in
theorem r_babelpkt_Encode (Aa0 : Option Addr) (na0 : Nat) (ca0 : Nat) {I : Ctx} {h : Mem} {Q : Value → Mem → Prop}
  (hh : holds Try.prog 12 I (cl_ Q)
   (.ite (decide ((((na0 : Nat) : Int) : Int) > 40))
    (.done (.tuple #[.slice none 0 0, .int .i64 9]))
    (.call 21 [.slice Aa0 na0 ca0, .func (.func 19) #[] #[]] (.one (.sc (.bool))) fun l1 => -- slices_ContainsFunc_BabelTlv
     (.ite ((l1 0).b)
      (.done (.tuple #[.slice none 0 0, .int .i64 1]))
      (.sem (Instr.alloc 49 true (.tuple #[])) shBlk fun l2 =>
       (.stop k_babelpkt_Encode_1 (t_babelpkt_Encode_1 Aa0 na0 ca0 ((l2 0).n) 0 (jl [(0, .slice Aa0 na0 ca0), (2, .slice none 0 0), (3, .int .i64 0), (4, .func (.func 19) #[] #[]), (7, undef), (8, .bool (decide ((((na0 : Nat) : Int) : Int) > 40))), (9, .slice Aa0 na0 ca0), (10, .int .i64 ((na0 : Nat) : Int)), (11, .bool (decide ((((na0 : Nat) : Int) : Int) > 40))), (12, .bool ((l1 0).b)), (13, .slice Aa0 na0 ca0), (14, .func (.func 19) #[] #[]), (15, .bool ((l1 0).b)), (19, undef), (20, undef), (21, undef), (22, undef), (23, undef), (24, undef), (25, undef), (26, undef), (27, undef), (28, undef), (29, undef), (30, undef), (31, undef), (32, undef), (33, undef)]))))))) h) : Fn Try.prog 12 #[.slice Aa0 na0 ca0] I h Q :=
  Wp.fn (args := [.slice Aa0 na0 ca0]) Try.func12 rfl (by kernel_rfl) (of_tree (cfg := g_babelpkt_Encode) 1000 (by kernel_rfl) Try.func12 rfl Try.checked.mixed hh)
theorem ca_babelpkt_Encode : callable Try.prog 12 := ⟨_, Try.func12, by kernel_rfl, by kernel_rfl⟩
set_option maxRecDepth 100000 in
set_option maxHeartbeats 4000000 in
theorem r_babelpkt_Encode_1 (Aa0 : Option Addr) (na0 : Nat) (ca0 : Nat) (y5 : Nat) (x18 : Int) (u : Nat → Value) {I : Ctx} {h : Mem} {Q : Value → Mem → Prop}
  (hh : holds Try.prog 12 I Q
   (.ite (decide ((x18 : Int) < ((na0 : Nat) : Int)))
    (.rd (Instr.indexAt 22 (.slice Aa0 na0 ca0) (.int .i64 x18)) (.one (.sc (.padr))) fun l3 =>
     (.rd (Instr.loadAt 37 (.pointer (some ((l3 0).a)))) (.one (.agg [.int .i64, .int .u16, .int .i64, .int .i64, .int .u32, .int .i64, .int .u64, .int .u16, .int .i64])) fun l4 =>
      (.sem (Instr.alloc 37 true (.tuple #[])) shBlk fun l5 =>
       (.unit (Instr.storeAt 37 (.pointer (some ⟨(l5 0).n, 0, none⟩)) (.agg #[.int .i64 ((l4 0).i), .int .u16 ((l4 1).i), .int .i64 ((l4 2).i), .int .i64 ((l4 3).i), .int .u32 ((l4 4).i), .int .i64 ((l4 5).i), .int .u64 ((l4 6).i), .int .u16 ((l4 7).i), .int .i64 ((l4 8).i)]))
        (.rd (Instr.loadAt 37 (.pointer (some ⟨(l5 0).n, 0, none⟩))) (.one (.agg [.int .i64, .int .u16, .int .i64, .int .i64, .int .u32, .int .i64, .int .u64, .int .u16, .int .i64])) fun l6 =>
         (.call 22 [.pointer (some ⟨y5, 0, none⟩), .agg #[.int .i64 ((l6 0).i), .int .u16 ((l6 1).i), .int .i64 ((l6 2).i), .int .i64 ((l6 3).i), .int .u32 ((l6 4).i), .int .i64 ((l6 5).i), .int .u64 ((l6 6).i), .int .u16 ((l6 7).i), .int .i64 ((l6 8).i)]] (.tup []) fun l7 => -- babelpkt_writer_part
          (.stop k_babelpkt_Encode_1 (t_babelpkt_Encode_1 Aa0 na0 ca0 y5 (IntKind.wrap .i64 (x18 + 1)) (jl [(0, (u 0)), (2, (u 2)), (3, (u 3)), (4, (u 4)), (7, .pointer (some ⟨(l5 0).n, 0, none⟩)), (8, (u 8)), (9, (u 9)), (10, (u 10)), (11, (u 11)), (12, (u 12)), (13, (u 13)), (14, (u 14)), (15, (u 15)), (19, .bool (decide ((x18 : Int) < ((na0 : Nat) : Int)))), (20, .pointer (some ((l3 0).a))), (21, .agg #[.int .i64 ((l4 0).i), .int .u16 ((l4 1).i), .int .i64 ((l4 2).i), .int .i64 ((l4 3).i), .int .u32 ((l4 4).i), .int .i64 ((l4 5).i), .int .u64 ((l4 6).i), .int .u16 ((l4 7).i), .int .i64 ((l4 8).i)]), (22, .agg #[.int .i64 ((l6 0).i), .int .u16 ((l6 1).i), .int .i64 ((l6 2).i), .int .i64 ((l6 3).i), .int .u32 ((l6 4).i), .int .i64 ((l6 5).i), .int .u64 ((l6 6).i), .int .u16 ((l6 7).i), .int .i64 ((l6 8).i)]), (23, undef), (24, .int .i64 (IntKind.wrap .i64 (x18 + 1))), (25, (u 25)), (26, (u 26)), (27, (u 27)), (28, (u 28)), (29, (u 29)), (30, (u 30)), (31, (u 31)), (32, (u 32)), (33, (u 33))])))))))))
    (.rd (Instr.loadAt 25 (.pointer (some ⟨y5, 0, none⟩))) (.one (.sc (.sl))) fun l8 =>
     (.rd (Instr.loadAt 25 (.pointer (some ⟨y5, 0, none⟩))) (.one (.sc (.sl))) fun l9 =>
      (.call 24 [.int .i64 (((l8 0).n : Nat) : Int)] (.one (.sc (.sl))) fun l10 => -- babelpkt_two
       (.pin (vN (Instr.loadAt 25 (.pointer (some ⟨y5, 0, none⟩)))) (.slice ((l9 0).A) ((l9 0).n) ((l9 0).c))
        (.sem (Instr.buildSlice 25 2 #[(0, .int .u8 42), (1, .int .u8 2)]) (.one (.sc (.row 2))) fun l11 =>
         (.sem (Instr.buildSlice 73 3 #[(0, .slice (some ⟨(l11 0).n, 0, none⟩) 2 2), (1, .slice ((l10 0).A) ((l10 0).n) ((l10 0).c)), (2, .slice ((l9 0).A) ((l9 0).n) ((l9 0).c))]) (.one (.sc (.row 3))) fun l12 =>
          (.call 23 [.slice (some ⟨(l12 0).n, 0, none⟩) 3 3] (.one (.sc (.sl))) fun l13 => -- slices_Concat_byte
           (.done (.tuple #[.slice ((l13 0).A) ((l13 0).n) ((l13 0).c), .int .i64 0])))))))))) h) : Wp Try.prog 12 k_babelpkt_Encode_1 (t_babelpkt_Encode_1 Aa0 na0 ca0 y5 x18 u) I h Q :=
  of_tree (cfg := g_babelpkt_Encode) 1000 (by kernel_rfl) Try.func12 rfl Try.checked.mixed hh
/-! ### octroiref06_Encode: function 13 of Go -/
abbrev F_octroiref06_Encode : FuncId := 13
noncomputable def c_octroiref06_Encode : Code := (Try.f13.body).getD .skip
noncomputable def g_octroiref06_Encode : Cfg := { sh := shs, fsh := fshs, results := [.tmp 2, .tmp 3], hint := fun _ _ => none, ord := fun _ => none, pre := fun _ => [], un := fun _ _ _ => false }
noncomputable def k_octroiref06_Encode_1 : List Item := [.code (bd (bd (sr (sl (sr (sr (sr (sr (sr (sr c_octroiref06_Encode)))))))))), .inLoop (bd (bd (sr (sl (sr (sr (sr (sr (sr (sr c_octroiref06_Encode)))))))))), .inBlock 0, .code (sr (sr (sr (sr (sr (sr (sr c_octroiref06_Encode)))))))]
noncomputable def t_octroiref06_Encode_1 (Aa0 : Option Addr) (na0 : Nat) (ca0 : Nat) (A4 : Option Addr) (n4 : Nat) (c4 : Nat) (x5 : Int) (x6 : Bool) (x7 : Int) (x8 : Int) (u : Nat → Value) : List Value := [.slice Aa0 na0 ca0, undef, (u 2), (u 3), .slice A4 n4 c4, .int .u64 x5, .bool x6, .int .u32 x7, .int .i64 x8, (u 9), (u 10), (u 11), (u 12), (u 13), (u 14), (u 15), (u 16), (u 17), (u 18), (u 19), (u 20), (u 21), (u 22), (u 23), (u 24), (u 25), (u 26), (u 27), (u 28), (u 29), (u 30), (u 31), (u 32), (u 33), (u 34), (u 35), (u 36), (u 37), (u 38), (u 39), (u 40), (u 41), (u 42), (u 43), (u 44), (u 45), (u 46), (u 47), (u 48), (u 49), (u 50), (u 51), (u 52), (u 53), (u 54), (u 55), (u 56), (u 57), (u 58), (u 59), (u 60), (u 61), (u 62), (u 63), (u 64), (u 65), (u 66), (u 67), (u 68), (u 69), (u 70), (u 71), (u 72), (u 73), (u 74)]
set_option maxRecDepth 100000 in
set_option maxHeartbeats 4000000 in
theorem r_octroiref06_Encode (Aa0 : Option Addr) (na0 : Nat) (ca0 : Nat) {I : Ctx} {h : Mem} {Q : Value → Mem → Prop}
  (hh : holds Try.prog 13 I (cl_ Q)
   (.ite (decide ((((na0 : Nat) : Int) : Int) > 40))
    (.done (.tuple #[.slice none 0 0, .int .i64 9]))
    (.stop k_octroiref06_Encode_1 (t_octroiref06_Encode_1 Aa0 na0 ca0 none 0 0 0 false 0 0 (jl [(2, .slice none 0 0), (3, .int .i64 0), (9, undef), (10, undef), (11, undef), (12, undef), (13, .slice Aa0 na0 ca0), (14, .int .i64 ((na0 : Nat) : Int)), (15, .bool (decide ((((na0 : Nat) : Int) : Int) > 40))), (16, undef), (17, undef), (18, undef), (19, undef), (20, undef), (21, undef), (22, undef), (23, undef), (24, undef), (25, undef), (26, undef), (27, undef), (28, undef), (29, undef), (30, undef), (31, undef), (32, undef), (33, undef), (34, undef), (35, undef), (36, undef), (37, undef), (38, undef), (39, undef), (40, undef), (41, undef), (42, undef), (43, undef), (44, undef), (45, undef), (46, undef), (47, undef), (48, undef), (49, undef), (50, undef), (51, undef), (52, undef), (53, undef), (54, undef), (55, undef), (56, undef), (57, undef), (58, undef), (59, undef), (60, undef), (61, undef), (62, undef), (63, undef), (64, undef), (65, undef), (66, undef), (67, undef), (68, undef), (69, undef), (70, undef), (71, undef), (72, undef), (73, undef), (74, undef)])))) h) : Fn Try.prog 13 #[.slice Aa0 na0 ca0] I h Q :=
  Wp.fn (args := [.slice Aa0 na0 ca0]) Try.func13 rfl (by kernel_rfl) (of_tree (cfg := g_octroiref06_Encode) 1000 (by kernel_rfl) Try.func13 rfl Try.checked.mixed hh)
theorem ca_octroiref06_Encode : callable Try.prog 13 := ⟨_, Try.func13, by kernel_rfl, by kernel_rfl⟩
set_option maxRecDepth 100000 in
set_option maxHeartbeats 4000000 in
theorem r_octroiref06_Encode_1 (Aa0 : Option Addr) (na0 : Nat) (ca0 : Nat) (A4 : Option Addr) (n4 : Nat) (c4 : Nat) (x5 : Int) (x6 : Bool) (x7 : Int) (x8 : Int) (u : Nat → Value) {I : Ctx} {h : Mem} {Q : Value → Mem → Prop}
  (hh : holds Try.prog 13 I Q
   (.ite (decide ((x8 : Int) < ((na0 : Nat) : Int)))
    (.rd (Instr.indexAt 22 (.slice Aa0 na0 ca0) (.int .i64 x8)) (.one (.sc (.padr))) fun l1 =>
     (.rd (Instr.loadAt 37 (.pointer (some ((l1 0).a)))) (.one (.agg [.int .i64, .int .u16, .int .i64, .int .i64, .int .u32, .int .i64, .int .u64, .int .u16, .int .i64])) fun l2 =>
      (.sem (Instr.alloc 37 true (.tuple #[])) shBlk fun l3 =>
       (.unit (Instr.storeAt 37 (.pointer (some ⟨(l3 0).n, 0, none⟩)) (.agg #[.int .i64 ((l2 0).i), .int .u16 ((l2 1).i), .int .i64 ((l2 2).i), .int .i64 ((l2 3).i), .int .u32 ((l2 4).i), .int .i64 ((l2 5).i), .int .u64 ((l2 6).i), .int .u16 ((l2 7).i), .int .i64 ((l2 8).i)]))
        (.rd (Instr.loadAt 37 (.pointer (some ⟨(l3 0).n, 0, none⟩))) (.one (.agg [.int .i64, .int .u16, .int .i64, .int .i64, .int .u32, .int .i64, .int .u64, .int .u16, .int .i64])) fun l4 =>
         (.call 25 [.agg #[.int .i64 ((l4 0).i), .int .u16 ((l4 1).i), .int .i64 ((l4 2).i), .int .i64 ((l4 3).i), .int .u32 ((l4 4).i), .int .i64 ((l4 5).i), .int .u64 ((l4 6).i), .int .u16 ((l4 7).i), .int .i64 ((l4 8).i)]] (.one (.sc (.bool))) fun l5 => -- octroiref06_May
          (.ite (!((l5 0).b))
           (.done (.tuple #[.slice none 0 0, .int .i64 1]))
           (.rd (Instr.loadAt 3 (.pointer (some ⟨(l3 0).n, 0, none⟩))) (.one (.sc (.int .i64))) fun l6 =>
            (.ite (((l6 0).i : Int) != 2)
             (.rd (Instr.loadAt 37 (.pointer (some ⟨(l3 0).n, 0, none⟩))) (.one (.agg [.int .i64, .int .u16, .int .i64, .int .i64, .int .u32, .int .i64, .int .u64, .int .u16, .int .i64])) fun l7 =>
              (.call 26 [.agg #[.int .i64 ((l7 0).i), .int .u16 ((l7 1).i), .int .i64 ((l7 2).i), .int .i64 ((l7 3).i), .int .u32 ((l7 4).i), .int .i64 ((l7 5).i), .int .u64 ((l7 6).i), .int .u16 ((l7 7).i), .int .i64 ((l7 8).i)]] (.one (.sc (.sl))) fun l8 => -- octroiref06_part
               (.nx (builtin .append #[25, 25] 25 #[false, false] #[.slice A4 n4 c4, .slice ((l8 0).A) ((l8 0).n) ((l8 0).c)]) (.one (.sc (.sl))) fun l9 =>
                (.stop k_octroiref06_Encode_1 (t_octroiref06_Encode_1 Aa0 na0 ca0 ((l9 0).A) ((l9 0).n) ((l9 0).c) x5 x6 x7 (IntKind.wrap .i64 (x8 + 1)) (jl [(2, (u 2)), (3, (u 3)), (9, .pointer (some ⟨(l3 0).n, 0, none⟩)), (10, .bool ((l5 0).b)), (11, (u 11)), (12, (u 12)), (13, (u 13)), (14, (u 14)), (15, (u 15)), (16, .int .i64 x8), (17, .slice Aa0 na0 ca0), (18, .int .i64 ((na0 : Nat) : Int)), (19, .bool (decide ((x8 : Int) < ((na0 : Nat) : Int)))), (20, .int .i64 x8), (21, .int .i64 (IntKind.wrap .i64 (x8 + 1))), (22, .slice Aa0 na0 ca0), (23, .int .i64 x8), (24, .pointer (some ((l1 0).a))), (25, .agg #[.int .i64 ((l2 0).i), .int .u16 ((l2 1).i), .int .i64 ((l2 2).i), .int .i64 ((l2 3).i), .int .u32 ((l2 4).i), .int .i64 ((l2 5).i), .int .u64 ((l2 6).i), .int .u16 ((l2 7).i), .int .i64 ((l2 8).i)]), (26, .agg #[.int .i64 ((l4 0).i), .int .u16 ((l4 1).i), .int .i64 ((l4 2).i), .int .i64 ((l4 3).i), .int .u32 ((l4 4).i), .int .i64 ((l4 5).i), .int .u64 ((l4 6).i), .int .u16 ((l4 7).i), .int .i64 ((l4 8).i)]), (27, .bool ((l5 0).b)), (28, .bool ((l5 0).b)), (29, .bool (!((l5 0).b))), (30, .pointer (some ⟨(l3 0).n, 0, none⟩)), (31, .int .i64 ((l6 0).i)), (32, .bool (((l6 0).i : Int) != 2)), (33, .slice A4 n4 c4), (34, .agg #[.int .i64 ((l7 0).i), .int .u16 ((l7 1).i), .int .i64 ((l7 2).i), .int .i64 ((l7 3).i), .int .u32 ((l7 4).i), .int .i64 ((l7 5).i), .int .u64 ((l7 6).i), .int .u16 ((l7 7).i), .int .i64 ((l7 8).i)]), (35, .slice ((l8 0).A) ((l8 0).n) ((l8 0).c)), (36, .slice ((l9 0).A) ((l9 0).n) ((l9 0).c)), (37, (u 37)), (38, (u 38)), (39, (u 39)), (40, (u 40)), (41, (u 41)), (42, (u 42)), (43, (u 43)), (44, (u 44)), (45, (u 45)), (46, (u 46)), (47, (u 47)), (48, (u 48)), (49, (u 49)), (50, (u 50)), (51, (u 51)), (52, (u 52)), (53, (u 53)), (54, (u 54)), (55, (u 55)), (56, (u 56)), (57, (u 57)), (58, (u 58)), (59, (u 59)), (60, (u 60)), (61, (u 61)), (62, (u 62)), (63, (u 63)), (64, (u 64)), (65, (u 65)), (66, (u 66)), (67, (u 67)), (68, (u 68)), (69, (u 69)), (70, (u 70)), (71, (u 71)), (72, (u 72)), (73, (u 73)), (74, (u 74))]))))))
             (.ite (!x6)
              (.sem (Instr.buildSlice 25 2 #[(0, .int .u8 0), (1, .int .u8 0)]) (.one (.sc (.row 2))) fun l10 =>
               (.rd (Instr.loadAt 35 (.pointer (some ⟨(l3 0).n, 6, none⟩))) (.one (.sc (.int .u64))) fun l11 =>
                (.call 27 [.int .u64 ((l11 0).i)] (.one (.sc (.sl))) fun l12 => -- octroiref06_long
                 (.nx (builtin .append #[25, 25] 25 #[false, false] #[.slice (some ⟨(l10 0).n, 0, none⟩) 2 2, .slice ((l12 0).A) ((l12 0).n) ((l12 0).c)]) (.one (.sc (.sl))) fun l13 =>
                  (.call 28 [.int .u8 6, .slice ((l13 0).A) ((l13 0).n) ((l13 0).c)] (.one (.sc (.sl))) fun l14 => -- octroiref06_tlv
                   (.nx (builtin .append #[25, 25] 25 #[false, false] #[.slice A4 n4 c4, .slice ((l14 0).A) ((l14 0).n) ((l14 0).c)]) (.one (.sc (.sl))) fun l15 =>
                    (.rd (Instr.loadAt 35 (.pointer (some ⟨(l3 0).n, 6, none⟩))) (.one (.sc (.int .u64))) fun l16 =>
                     (.rd (Instr.loadAt 37 (.pointer (some ⟨(l3 0).n, 0, none⟩))) (.one (.agg [.int .i64, .int .u16, .int .i64, .int .i64, .int .u32, .int .i64, .int .u64, .int .u16, .int .i64])) fun l17 =>
                      (.call 29 [.agg #[.int .i64 ((l17 0).i), .int .u16 ((l17 1).i), .int .i64 ((l17 2).i), .int .i64 ((l17 3).i), .int .u32 ((l17 4).i), .int .i64 ((l17 5).i), .int .u64 ((l17 6).i), .int .u16 ((l17 7).i), .int .i64 ((l17 8).i)], .int .u32 x7] (.one (.sc (.sl))) fun l18 => -- octroiref06_update
                       (.call 28 [.int .u8 8, .slice ((l18 0).A) ((l18 0).n) ((l18 0).c)] (.one (.sc (.sl))) fun l19 => -- octroiref06_tlv
                        (.nx (builtin .append #[25, 25] 25 #[false, false] #[.slice ((l15 0).A) ((l15 0).n) ((l15 0).c), .slice ((l19 0).A) ((l19 0).n) ((l19 0).c)]) (.one (.sc (.sl))) fun l20 =>
                         (.rd (Instr.loadAt 23 (.pointer (some ⟨(l3 0).n, 4, none⟩))) (.one (.sc (.int .u32))) fun l21 =>
                          (.stop k_octroiref06_Encode_1 (t_octroiref06_Encode_1 Aa0 na0 ca0 ((l20 0).A) ((l20 0).n) ((l20 0).c) ((l16 0).i) true ((l21 0).i) (IntKind.wrap .i64 (x8 + 1)) (jl [(2, (u 2)), (3, (u 3)), (9, .pointer (some ⟨(l3 0).n, 0, none⟩)), (10, .bool ((l5 0).b)), (11, .slice ((l13 0).A) ((l13 0).n) ((l13 0).c)), (12, (u 12)), (13, (u 13)), (14, (u 14)), (15, (u 15)), (16, .int .i64 x8), (17, .slice Aa0 na0 ca0), (18, .int .i64 ((na0 : Nat) : Int)), (19, .bool (decide ((x8 : Int) < ((na0 : Nat) : Int)))), (20, .int .i64 x8), (21, .int .i64 (IntKind.wrap .i64 (x8 + 1))), (22, .slice Aa0 na0 ca0), (23, .int .i64 x8), (24, .pointer (some ((l1 0).a))), (25, .agg #[.int .i64 ((l2 0).i), .int .u16 ((l2 1).i), .int .i64 ((l2 2).i), .int .i64 ((l2 3).i), .int .u32 ((l2 4).i), .int .i64 ((l2 5).i), .int .u64 ((l2 6).i), .int .u16 ((l2 7).i), .int .i64 ((l2 8).i)]), (26, .agg #[.int .i64 ((l4 0).i), .int .u16 ((l4 1).i), .int .i64 ((l4 2).i), .int .i64 ((l4 3).i), .int .u32 ((l4 4).i), .int .i64 ((l4 5).i), .int .u64 ((l4 6).i), .int .u16 ((l4 7).i), .int .i64 ((l4 8).i)]), (27, .bool ((l5 0).b)), (28, .bool ((l5 0).b)), (29, .bool (!((l5 0).b))), (30, .pointer (some ⟨(l3 0).n, 0, none⟩)), (31, .int .i64 ((l6 0).i)), (32, .bool (((l6 0).i : Int) != 2)), (33, (u 33)), (34, (u 34)), (35, (u 35)), (36, (u 36)), (37, .bool x6), (38, .bool (!x6)), (39, .bool true), (40, undef), (41, undef), (42, undef), (43, undef), (44, .bool true), (45, .slice (some ⟨(l10 0).n, 0, none⟩) 2 2), (46, .slice (some ⟨(l10 0).n, 0, none⟩) 2 2), (47, .pointer (some ⟨(l3 0).n, 6, none⟩)), (48, .int .u64 ((l11 0).i)), (49, .slice ((l12 0).A) ((l12 0).n) ((l12 0).c)), (50, .slice ((l13 0).A) ((l13 0).n) ((l13 0).c)), (51, .slice A4 n4 c4), (52, .slice ((l13 0).A) ((l13 0).n) ((l13 0).c)), (53, .slice ((l14 0).A) ((l14 0).n) ((l14 0).c)), (54, .slice ((l15 0).A) ((l15 0).n) ((l15 0).c)), (55, .pointer (some ⟨(l3 0).n, 6, none⟩)), (56, .int .u64 ((l16 0).i)), (57, .slice ((l15 0).A) ((l15 0).n) ((l15 0).c)), (58, .agg #[.int .i64 ((l17 0).i), .int .u16 ((l17 1).i), .int .i64 ((l17 2).i), .int .i64 ((l17 3).i), .int .u32 ((l17 4).i), .int .i64 ((l17 5).i), .int .u64 ((l17 6).i), .int .u16 ((l17 7).i), .int .i64 ((l17 8).i)]), (59, .int .u32 x7), (60, .slice ((l18 0).A) ((l18 0).n) ((l18 0).c)), (61, .slice ((l19 0).A) ((l19 0).n) ((l19 0).c)), (62, .slice ((l20 0).A) ((l20 0).n) ((l20 0).c)), (63, .pointer (some ⟨(l3 0).n, 4, none⟩)), (64, .pointer (some ⟨(l3 0).n, 4, none⟩)), (65, .int .u32 ((l21 0).i)), (66, (u 66)), (67, (u 67)), (68, (u 68)), (69, (u 69)), (70, (u 70)), (71, (u 71)), (72, (u 72)), (73, (u 73)), (74, (u 74))])))))))))))))))
              (.rd (Instr.loadAt 35 (.pointer (some ⟨(l3 0).n, 6, none⟩))) (.one (.sc (.int .u64))) fun l22 =>
               (.ite ((x5 : Int) != ((l22 0).i))
                (.sem (Instr.buildSlice 25 2 #[(0, .int .u8 0), (1, .int .u8 0)]) (.one (.sc (.row 2))) fun l23 =>
                 (.rd (Instr.loadAt 35 (.pointer (some ⟨(l3 0).n, 6, none⟩))) (.one (.sc (.int .u64))) fun l24 =>
                  (.call 27 [.int .u64 ((l24 0).i)] (.one (.sc (.sl))) fun l25 => -- octroiref06_long
                   (.nx (builtin .append #[25, 25] 25 #[false, false] #[.slice (some ⟨(l23 0).n, 0, none⟩) 2 2, .slice ((l25 0).A) ((l25 0).n) ((l25 0).c)]) (.one (.sc (.sl))) fun l26 =>
                    (.call 28 [.int .u8 6, .slice ((l26 0).A) ((l26 0).n) ((l26 0).c)] (.one (.sc (.sl))) fun l27 => -- octroiref06_tlv
                     (.nx (builtin .append #[25, 25] 25 #[false, false] #[.slice A4 n4 c4, .slice ((l27 0).A) ((l27 0).n) ((l27 0).c)]) (.one (.sc (.sl))) fun l28 =>
                      (.rd (Instr.loadAt 35 (.pointer (some ⟨(l3 0).n, 6, none⟩))) (.one (.sc (.int .u64))) fun l29 =>
                       (.rd (Instr.loadAt 37 (.pointer (some ⟨(l3 0).n, 0, none⟩))) (.one (.agg [.int .i64, .int .u16, .int .i64, .int .i64, .int .u32, .int .i64, .int .u64, .int .u16, .int .i64])) fun l30 =>
                        (.call 29 [.agg #[.int .i64 ((l30 0).i), .int .u16 ((l30 1).i), .int .i64 ((l30 2).i), .int .i64 ((l30 3).i), .int .u32 ((l30 4).i), .int .i64 ((l30 5).i), .int .u64 ((l30 6).i), .int .u16 ((l30 7).i), .int .i64 ((l30 8).i)], .int .u32 x7] (.one (.sc (.sl))) fun l31 => -- octroiref06_update
                         (.call 28 [.int .u8 8, .slice ((l31 0).A) ((l31 0).n) ((l31 0).c)] (.one (.sc (.sl))) fun l32 => -- octroiref06_tlv
                          (.nx (builtin .append #[25, 25] 25 #[false, false] #[.slice ((l28 0).A) ((l28 0).n) ((l28 0).c), .slice ((l32 0).A) ((l32 0).n) ((l32 0).c)]) (.one (.sc (.sl))) fun l33 =>
                           (.rd (Instr.loadAt 23 (.pointer (some ⟨(l3 0).n, 4, none⟩))) (.one (.sc (.int .u32))) fun l34 =>
                            (.stop k_octroiref06_Encode_1 (t_octroiref06_Encode_1 Aa0 na0 ca0 ((l33 0).A) ((l33 0).n) ((l33 0).c) ((l29 0).i) true ((l34 0).i) (IntKind.wrap .i64 (x8 + 1)) (jl [(2, (u 2)), (3, (u 3)), (9, .pointer (some ⟨(l3 0).n, 0, none⟩)), (10, .bool ((l5 0).b)), (11, .slice ((l26 0).A) ((l26 0).n) ((l26 0).c)), (12, (u 12)), (13, (u 13)), (14, (u 14)), (15, (u 15)), (16, .int .i64 x8), (17, .slice Aa0 na0 ca0), (18, .int .i64 ((na0 : Nat) : Int)), (19, .bool (decide ((x8 : Int) < ((na0 : Nat) : Int)))), (20, .int .i64 x8), (21, .int .i64 (IntKind.wrap .i64 (x8 + 1))), (22, .slice Aa0 na0 ca0), (23, .int .i64 x8), (24, .pointer (some ((l1 0).a))), (25, .agg #[.int .i64 ((l2 0).i), .int .u16 ((l2 1).i), .int .i64 ((l2 2).i), .int .i64 ((l2 3).i), .int .u32 ((l2 4).i), .int .i64 ((l2 5).i), .int .u64 ((l2 6).i), .int .u16 ((l2 7).i), .int .i64 ((l2 8).i)]), (26, .agg #[.int .i64 ((l4 0).i), .int .u16 ((l4 1).i), .int .i64 ((l4 2).i), .int .i64 ((l4 3).i), .int .u32 ((l4 4).i), .int .i64 ((l4 5).i), .int .u64 ((l4 6).i), .int .u16 ((l4 7).i), .int .i64 ((l4 8).i)]), (27, .bool ((l5 0).b)), (28, .bool ((l5 0).b)), (29, .bool (!((l5 0).b))), (30, .pointer (some ⟨(l3 0).n, 0, none⟩)), (31, .int .i64 ((l6 0).i)), (32, .bool (((l6 0).i : Int) != 2)), (33, (u 33)), (34, (u 34)), (35, (u 35)), (36, (u 36)), (37, .bool x6), (38, .bool (!x6)), (39, .bool false), (40, .int .u64 x5), (41, .pointer (some ⟨(l3 0).n, 6, none⟩)), (42, .int .u64 ((l22 0).i)), (43, .bool ((x5 : Int) != ((l22 0).i))), (44, .bool ((x5 : Int) != ((l22 0).i))), (45, .slice (some ⟨(l23 0).n, 0, none⟩) 2 2), (46, .slice (some ⟨(l23 0).n, 0, none⟩) 2 2), (47, .pointer (some ⟨(l3 0).n, 6, none⟩)), (48, .int .u64 ((l24 0).i)), (49, .slice ((l25 0).A) ((l25 0).n) ((l25 0).c)), (50, .slice ((l26 0).A) ((l26 0).n) ((l26 0).c)), (51, .slice A4 n4 c4), (52, .slice ((l26 0).A) ((l26 0).n) ((l26 0).c)), (53, .slice ((l27 0).A) ((l27 0).n) ((l27 0).c)), (54, .slice ((l28 0).A) ((l28 0).n) ((l28 0).c)), (55, .pointer (some ⟨(l3 0).n, 6, none⟩)), (56, .int .u64 ((l29 0).i)), (57, .slice ((l28 0).A) ((l28 0).n) ((l28 0).c)), (58, .agg #[.int .i64 ((l30 0).i), .int .u16 ((l30 1).i), .int .i64 ((l30 2).i), .int .i64 ((l30 3).i), .int .u32 ((l30 4).i), .int .i64 ((l30 5).i), .int .u64 ((l30 6).i), .int .u16 ((l30 7).i), .int .i64 ((l30 8).i)]), (59, .int .u32 x7), (60, .slice ((l31 0).A) ((l31 0).n) ((l31 0).c)), (61, .slice ((l32 0).A) ((l32 0).n) ((l32 0).c)), (62, .slice ((l33 0).A) ((l33 0).n) ((l33 0).c)), (63, .pointer (some ⟨(l3 0).n, 4, none⟩)), (64, .pointer (some ⟨(l3 0).n, 4, none⟩)), (65, .int .u32 ((l34 0).i)), (66, (u 66)), (67, (u 67)), (68, (u 68)), (69, (u 69)), (70, (u 70)), (71, (u 71)), (72, (u 72)), (73, (u 73)), (74, (u 74))])))))))))))))))
                (.rd (Instr.loadAt 37 (.pointer (some ⟨(l3 0).n, 0, none⟩))) (.one (.agg [.int .i64, .int .u16, .int .i64, .int .i64, .int .u32, .int .i64, .int .u64, .int .u16, .int .i64])) fun l35 =>
                 (.call 29 [.agg #[.int .i64 ((l35 0).i), .int .u16 ((l35 1).i), .int .i64 ((l35 2).i), .int .i64 ((l35 3).i), .int .u32 ((l35 4).i), .int .i64 ((l35 5).i), .int .u64 ((l35 6).i), .int .u16 ((l35 7).i), .int .i64 ((l35 8).i)], .int .u32 x7] (.one (.sc (.sl))) fun l36 => -- octroiref06_update
                  (.call 28 [.int .u8 8, .slice ((l36 0).A) ((l36 0).n) ((l36 0).c)] (.one (.sc (.sl))) fun l37 => -- octroiref06_tlv
                   (.nx (builtin .append #[25, 25] 25 #[false, false] #[.slice A4 n4 c4, .slice ((l37 0).A) ((l37 0).n) ((l37 0).c)]) (.one (.sc (.sl))) fun l38 =>
                    (.rd (Instr.loadAt 23 (.pointer (some ⟨(l3 0).n, 4, none⟩))) (.one (.sc (.int .u32))) fun l39 =>
                     (.stop k_octroiref06_Encode_1 (t_octroiref06_Encode_1 Aa0 na0 ca0 ((l38 0).A) ((l38 0).n) ((l38 0).c) x5 x6 ((l39 0).i) (IntKind.wrap .i64 (x8 + 1)) (jl [(2, (u 2)), (3, (u 3)), (9, .pointer (some ⟨(l3 0).n, 0, none⟩)), (10, .bool ((l5 0).b)), (11, (u 11)), (12, (u 12)), (13, (u 13)), (14, (u 14)), (15, (u 15)), (16, .int .i64 x8), (17, .slice Aa0 na0 ca0), (18, .int .i64 ((na0 : Nat) : Int)), (19, .bool (decide ((x8 : Int) < ((na0 : Nat) : Int)))), (20, .int .i64 x8), (21, .int .i64 (IntKind.wrap .i64 (x8 + 1))), (22, .slice Aa0 na0 ca0), (23, .int .i64 x8), (24, .pointer (some ((l1 0).a))), (25, .agg #[.int .i64 ((l2 0).i), .int .u16 ((l2 1).i), .int .i64 ((l2 2).i), .int .i64 ((l2 3).i), .int .u32 ((l2 4).i), .int .i64 ((l2 5).i), .int .u64 ((l2 6).i), .int .u16 ((l2 7).i), .int .i64 ((l2 8).i)]), (26, .agg #[.int .i64 ((l4 0).i), .int .u16 ((l4 1).i), .int .i64 ((l4 2).i), .int .i64 ((l4 3).i), .int .u32 ((l4 4).i), .int .i64 ((l4 5).i), .int .u64 ((l4 6).i), .int .u16 ((l4 7).i), .int .i64 ((l4 8).i)]), (27, .bool ((l5 0).b)), (28, .bool ((l5 0).b)), (29, .bool (!((l5 0).b))), (30, .pointer (some ⟨(l3 0).n, 0, none⟩)), (31, .int .i64 ((l6 0).i)), (32, .bool (((l6 0).i : Int) != 2)), (33, (u 33)), (34, (u 34)), (35, (u 35)), (36, (u 36)), (37, .bool x6), (38, .bool (!x6)), (39, .bool false), (40, .int .u64 x5), (41, .pointer (some ⟨(l3 0).n, 6, none⟩)), (42, .int .u64 ((l22 0).i)), (43, .bool ((x5 : Int) != ((l22 0).i))), (44, .bool ((x5 : Int) != ((l22 0).i))), (45, (u 45)), (46, (u 46)), (47, (u 47)), (48, (u 48)), (49, (u 49)), (50, (u 50)), (51, (u 51)), (52, (u 52)), (53, (u 53)), (54, (u 54)), (55, (u 55)), (56, (u 56)), (57, .slice A4 n4 c4), (58, .agg #[.int .i64 ((l35 0).i), .int .u16 ((l35 1).i), .int .i64 ((l35 2).i), .int .i64 ((l35 3).i), .int .u32 ((l35 4).i), .int .i64 ((l35 5).i), .int .u64 ((l35 6).i), .int .u16 ((l35 7).i), .int .i64 ((l35 8).i)]), (59, .int .u32 x7), (60, .slice ((l36 0).A) ((l36 0).n) ((l36 0).c)), (61, .slice ((l37 0).A) ((l37 0).n) ((l37 0).c)), (62, .slice ((l38 0).A) ((l38 0).n) ((l38 0).c)), (63, .pointer (some ⟨(l3 0).n, 4, none⟩)), (64, .pointer (some ⟨(l3 0).n, 4, none⟩)), (65, .int .u32 ((l39 0).i)), (66, (u 66)), (67, (u 67)), (68, (u 68)), (69, (u 69)), (70, (u 70)), (71, (u 71)), (72, (u 72)), (73, (u 73)), (74, (u 74))]))))))))))))))))))))
    (.sem (Instr.buildSlice 25 2 #[(0, .int .u8 42), (1, .int .u8 2)]) (.one (.sc (.row 2))) fun l40 =>
     (.call 30 [.int .i64 ((n4 : Nat) : Int)] (.one (.sc (.sl))) fun l41 => -- octroiref06_two
      (.nx (builtin .append #[25, 25] 25 #[false, false] #[.slice (some ⟨(l40 0).n, 0, none⟩) 2 2, .slice ((l41 0).A) ((l41 0).n) ((l41 0).c)]) (.one (.sc (.sl))) fun l42 =>
       (.nx (builtin .append #[25, 25] 25 #[false, false] #[.slice ((l42 0).A) ((l42 0).n) ((l42 0).c), .slice A4 n4 c4]) (.one (.sc (.sl))) fun l43 =>
        (.done (.tuple #[.slice ((l43 0).A) ((l43 0).n) ((l43 0).c), .int .i64 0]))))))) h) : Wp Try.prog 13 k_octroiref06_Encode_1 (t_octroiref06_Encode_1 Aa0 na0 ca0 A4 n4 c4 x5 x6 x7 x8 u) I h Q :=
  of_tree (cfg := g_octroiref06_Encode) 1000 (by kernel_rfl) Try.func13 rfl Try.checked.mixed hh
/-! ### babelpkt_Squeeze: function 14 of Go -/
abbrev F_babelpkt_Squeeze : FuncId := 14
noncomputable def c_babelpkt_Squeeze : Code := (Try.f14.body).getD .skip
def p_babelpkt_Squeeze : Nat → List (List Nat) := fun r => match r with | 5 => [[], [], [0, 1], [0, 1, 2], [0, 1, 2, 3], [0, 1, 2, 3], [0, 1, 2, 3, 4, 5], [0, 1, 2, 3, 4, 5, 6], [0, 1, 2, 3], [0, 1, 2, 3], [0, 1, 2, 3, 8, 9], [0, 1, 2, 3, 8, 9, 10], [0, 1, 2, 3, 4, 5, 6, 7, 8, 9, 10, 11], [0, 1, 2, 3, 4, 5, 6, 7, 8, 9, 10, 11, 12]] | _ => []
noncomputable def g_babelpkt_Squeeze : Cfg := { sh := shs, fsh := fshs, results := [.tmp 6], hint := fun _ _ => none, ord := fun r => match r with | 5 => some [0, 1, 2, 3, 4, 5, 6, 7, 8, 9, 10, 11, 12, 13] | _ => none, pre := p_babelpkt_Squeeze, un := unOf p_babelpkt_Squeeze }
noncomputable def k_babelpkt_Squeeze_1 : List Item := [.code (bd (bd (sl (sr (sr (sr (sr c_babelpkt_Squeeze))))))), .inLoop (bd (bd (sl (sr (sr (sr (sr c_babelpkt_Squeeze))))))), .inBlock 0, .code (sr (sr (sr (sr (sr c_babelpkt_Squeeze)))))]
noncomputable def t_babelpkt_Squeeze_1 (a2 : Int) (Ay7 : Option Addr) (ny7 : Nat) (cy7 : Nat) (Ay8 : Option Addr) (ny8 : Nat) (cy8 : Nat) (x9 : Int) (u : Nat → Value) : List Value := [(u 0), (u 1), .int .i64 a2, undef, undef, undef, (u 6), .slice Ay7 ny7 cy7, .slice Ay8 ny8 cy8, .int .i64 x9, (u 10), (u 11), (u 12), (u 13), (u 14), (u 15), (u 16), (u 17), (u 18), (u 19), (u 20), (u 21), (u 22), (u 23), (u 24), (u 25), (u 26), (u 27), (u 28), (u 29), (u 30), (u 31), (u 32), (u 33), (u 34), (u 35), (u 36)]
set_option maxRecDepth 100000 in
set_option maxHeartbeats 4000000 in
theorem r_babelpkt_Squeeze (a0 : Int) (a1 : Int) (a2 : Int) {I : Ctx} {h : Mem} {Q : Value → Mem → Prop}
  (hh : holds Try.prog 14 I (cl_ Q)
   (.ite (decide ((a2 : Int) < 0))
    (.done (.int .i64 0))
    (.ite (decide ((a2 : Int) > 4))
     (.done (.int .i64 0))
     (.call 31 [.int .u32 a0] (.one (.sc (.sl))) fun l1 => -- num_Put32
      (.call 31 [.int .u32 a1] (.one (.sc (.sl))) fun l2 => -- num_Put32
       (.stop k_babelpkt_Squeeze_1 (t_babelpkt_Squeeze_1 a2 ((l1 0).A) ((l1 0).n) ((l1 0).c) ((l2 0).A) ((l2 0).n) ((l2 0).c) 0 (jl [(0, .int .u32 a0), (1, .int .u32 a1), (6, .int .i64 0), (10, .int .i64 a2), (11, .bool (decide ((a2 : Int) < 0))), (12, .bool false), (13, .int .i64 a2), (14, .bool (decide ((a2 : Int) > 4))), (15, .bool (decide ((a2 : Int) > 4))), (16, .int .u32 a0), (17, .slice ((l1 0).A) ((l1 0).n) ((l1 0).c)), (18, .int .u32 a1), (19, .slice ((l2 0).A) ((l2 0).n) ((l2 0).c)), (20, undef), (21, undef), (22, undef), (23, undef), (24, undef), (25, undef), (26, undef), (27, undef), (28, undef), (29, undef), (30, undef), (31, undef), (32, undef), (33, undef), (34, undef), (35, undef), (36, undef)]))))))) h) : Fn Try.prog 14 #[.int .u32 a0, .int .u32 a1, .int .i64 a2] I h Q :=
  Wp.fn (args := [.int .u32 a0, .int .u32 a1, .int .i64 a2]) Try.func14 rfl (by kernel_rfl) (of_tree (cfg := g_babelpkt_Squeeze) 1000 (by kernel_rfl) Try.func14 rfl Try.checked.mixed hh)
theorem ca_babelpkt_Squeeze : callable Try.prog 14 := ⟨_, Try.func14, by kernel_rfl, by kernel_rfl⟩
set_option maxRecDepth 100000 in
set_option maxHeartbeats 4000000 in
theorem r_babelpkt_Squeeze_1 (a2 : Int) (Ay7 : Option Addr) (ny7 : Nat) (cy7 : Nat) (Ay8 : Option Addr) (ny8 : Nat) (cy8 : Nat) (x9 : Int) (u : Nat → Value) {I : Ctx} {h : Mem} {Q : Value → Mem → Prop}
  (hh : holds Try.prog 14 I Q
   (.ite (decide ((x9 : Int) < a2))
    (.rd (Instr.indexAt 25 (.slice Ay7 ny7 cy7) (.int .i64 x9)) (.one (.sc (.padr))) fun l3 =>
     (.rd (Instr.loadAt 5 (.pointer (some ((l3 0).a)))) (.one (.sc (.int .u8))) fun l4 =>
      (.rd (Instr.indexAt 25 (.slice Ay8 ny8 cy8) (.int .i64 x9)) (.one (.sc (.padr))) fun l5 =>
       (.rd (Instr.loadAt 5 (.pointer (some ((l5 0).a)))) (.one (.sc (.int .u8))) fun l6 =>
        (.ite (((l4 0).i : Int) == ((l6 0).i))
         (.stop k_babelpkt_Squeeze_1 (t_babelpkt_Squeeze_1 a2 Ay7 ny7 cy7 Ay8 ny8 cy8 (IntKind.wrap .i64 (x9 + 1)) (jl [(0, (u 0)), (1, (u 1)), (6, (u 6)), (10, (u 10)), (11, (u 11)), (12, (u 12)), (13, (u 13)), (14, (u 14)), (15, (u 15)), (16, (u 16)), (17, (u 17)), (18, (u 18)), (19, (u 19)), (20, .int .i64 x9), (21, .int .i64 a2), (22, .bool (decide ((x9 : Int) < a2))), (23, .bool true), (24, .slice Ay7 ny7 cy7), (25, .int .i64 x9), (26, .pointer (some ((l3 0).a))), (27, .int .u8 ((l4 0).i)), (28, .slice Ay8 ny8 cy8), (29, .int .i64 x9), (30, .pointer (some ((l5 0).a))), (31, .int .u8 ((l6 0).i)), (32, .bool (((l4 0).i : Int) == ((l6 0).i))), (33, .bool (((l4 0).i : Int) == ((l6 0).i))), (34, .int .i64 x9), (35, .int .i64 (IntKind.wrap .i64 (x9 + 1))), (36, (u 36))])))
         (.done (.int .i64 x9)))))))
    (.done (.int .i64 x9))) h) : Wp Try.prog 14 k_babelpkt_Squeeze_1 (t_babelpkt_Squeeze_1 a2 Ay7 ny7 cy7 Ay8 ny8 cy8 x9 u) I h Q :=
  of_tree (cfg := g_babelpkt_Squeeze) 1000 (by kernel_rfl) Try.func14 rfl Try.checked.mixed hh
/-! ### octroiref06_Squeeze: function 15 of Go -/
abbrev F_octroiref06_Squeeze : FuncId := 15
noncomputable def c_octroiref06_Squeeze : Code := (Try.f15.body).getD .skip
def p_octroiref06_Squeeze : Nat → List (List Nat) := fun r => match r with | 6 => [[], [], [0, 1], [0, 1, 2], [0, 1, 2, 3], [0, 1, 2, 3], [0, 1, 2, 3, 4, 5], [0, 1, 2, 3, 4, 5, 6], [0, 1, 2, 3], [0, 1, 2, 3], [0, 1, 2, 3, 8, 9], [0, 1, 2, 3, 8, 9, 10], [0, 1, 2, 3, 4, 5, 6, 7, 8, 9, 10, 11], [0, 1, 2, 3, 4, 5, 6, 7, 8, 9, 10, 11, 12]] | _ => []
noncomputable def g_octroiref06_Squeeze : Cfg := { sh := shs, fsh := fshs, results := [.tmp 6], hint := fun _ _ => none, ord := fun r => match r with | 6 => some [0, 1, 2, 3, 4, 5, 6, 7, 8, 9, 10, 11, 12, 13] | _ => none, pre := p_octroiref06_Squeeze, un := unOf p_octroiref06_Squeeze }
noncomputable def k_octroiref06_Squeeze_1 : List Item := [.code (bd (bd (sl (sr (sr (sr (sr (sr c_octroiref06_Squeeze)))))))), .inLoop (bd (bd (sl (sr (sr (sr (sr (sr c_octroiref06_Squeeze)))))))), .inBlock 0, .code (sr (sr (sr (sr (sr (sr c_octroiref06_Squeeze))))))]
noncomputable def t_octroiref06_Squeeze_1 (a2 : Int) (Ay7 : Option Addr) (ny7 : Nat) (cy7 : Nat) (Ay8 : Option Addr) (ny8 : Nat) (cy8 : Nat) (x9 : Int) (u : Nat → Value) : List Value := [(u 0), (u 1), .int .i64 a2, undef, undef, undef, (u 6), .slice Ay7 ny7 cy7, .slice Ay8 ny8 cy8, .int .i64 x9, (u 10), (u 11), (u 12), (u 13), (u 14), (u 15), (u 16), (u 17), (u 18), (u 19), (u 20), (u 21), (u 22), (u 23), (u 24), (u 25), (u 26), (u 27), (u 28), (u 29), (u 30), (u 31), (u 32), (u 33), (u 34), (u 35), (u 36)]
set_option maxRecDepth 100000 in
set_option maxHeartbeats 4000000 in
theorem r_octroiref06_Squeeze (a0 : Int) (a1 : Int) (a2 : Int) {I : Ctx} {h : Mem} {Q : Value → Mem → Prop}
  (hh : holds Try.prog 15 I (cl_ Q)
   (.ite (decide ((a2 : Int) < 0))
    (.done (.int .i64 0))
    (.ite (decide ((a2 : Int) > 4))
     (.done (.int .i64 0))
     (.call 32 [.int .u32 a0, .int .i64 4] (.one (.sc (.sl))) fun l1 => -- octroiref06_addr
      (.call 32 [.int .u32 a1, .int .i64 4] (.one (.sc (.sl))) fun l2 => -- octroiref06_addr
       (.stop k_octroiref06_Squeeze_1 (t_octroiref06_Squeeze_1 a2 ((l1 0).A) ((l1 0).n) ((l1 0).c) ((l2 0).A) ((l2 0).n) ((l2 0).c) 0 (jl [(0, .int .u32 a0), (1, .int .u32 a1), (6, .int .i64 0), (10, .int .i64 a2), (11, .bool (decide ((a2 : Int) < 0))), (12, .bool false), (13, .int .i64 a2), (14, .bool (decide ((a2 : Int) > 4))), (15, .bool (decide ((a2 : Int) > 4))), (16, .int .u32 a0), (17, .slice ((l1 0).A) ((l1 0).n) ((l1 0).c)), (18, .int .u32 a1), (19, .slice ((l2 0).A) ((l2 0).n) ((l2 0).c)), (20, undef), (21, undef), (22, undef), (23, undef), (24, undef), (25, undef), (26, undef), (27, undef), (28, undef), (29, undef), (30, undef), (31, undef), (32, undef), (33, undef), (34, undef), (35, undef), (36, undef)]))))))) h) : Fn Try.prog 15 #[.int .u32 a0, .int .u32 a1, .int .i64 a2] I h Q :=
  Wp.fn (args := [.int .u32 a0, .int .u32 a1, .int .i64 a2]) Try.func15 rfl (by kernel_rfl) (of_tree (cfg := g_octroiref06_Squeeze) 1000 (by kernel_rfl) Try.func15 rfl Try.checked.mixed hh)
theorem ca_octroiref06_Squeeze : callable Try.prog 15 := ⟨_, Try.func15, by kernel_rfl, by kernel_rfl⟩
set_option maxRecDepth 100000 in
set_option maxHeartbeats 4000000 in
theorem r_octroiref06_Squeeze_1 (a2 : Int) (Ay7 : Option Addr) (ny7 : Nat) (cy7 : Nat) (Ay8 : Option Addr) (ny8 : Nat) (cy8 : Nat) (x9 : Int) (u : Nat → Value) {I : Ctx} {h : Mem} {Q : Value → Mem → Prop}
  (hh : holds Try.prog 15 I Q
   (.ite (decide ((x9 : Int) < a2))
    (.rd (Instr.indexAt 25 (.slice Ay7 ny7 cy7) (.int .i64 x9)) (.one (.sc (.padr))) fun l3 =>
     (.rd (Instr.loadAt 5 (.pointer (some ((l3 0).a)))) (.one (.sc (.int .u8))) fun l4 =>
      (.rd (Instr.indexAt 25 (.slice Ay8 ny8 cy8) (.int .i64 x9)) (.one (.sc (.padr))) fun l5 =>
       (.rd (Instr.loadAt 5 (.pointer (some ((l5 0).a)))) (.one (.sc (.int .u8))) fun l6 =>
        (.ite (((l4 0).i : Int) == ((l6 0).i))
         (.stop k_octroiref06_Squeeze_1 (t_octroiref06_Squeeze_1 a2 Ay7 ny7 cy7 Ay8 ny8 cy8 (IntKind.wrap .i64 (x9 + 1)) (jl [(0, (u 0)), (1, (u 1)), (6, (u 6)), (10, (u 10)), (11, (u 11)), (12, (u 12)), (13, (u 13)), (14, (u 14)), (15, (u 15)), (16, (u 16)), (17, (u 17)), (18, (u 18)), (19, (u 19)), (20, .int .i64 x9), (21, .int .i64 a2), (22, .bool (decide ((x9 : Int) < a2))), (23, .bool true), (24, .slice Ay7 ny7 cy7), (25, .int .i64 x9), (26, .pointer (some ((l3 0).a))), (27, .int .u8 ((l4 0).i)), (28, .slice Ay8 ny8 cy8), (29, .int .i64 x9), (30, .pointer (some ((l5 0).a))), (31, .int .u8 ((l6 0).i)), (32, .bool (((l4 0).i : Int) == ((l6 0).i))), (33, .bool (((l4 0).i : Int) == ((l6 0).i))), (34, .int .i64 x9), (35, .int .i64 (IntKind.wrap .i64 (x9 + 1))), (36, (u 36))])))
         (.done (.int .i64 x9)))))))
    (.done (.int .i64 x9))) h) : Wp Try.prog 15 k_octroiref06_Squeeze_1 (t_octroiref06_Squeeze_1 a2 Ay7 ny7 cy7 Ay8 ny8 cy8 x9 u) I h Q :=
  of_tree (cfg := g_octroiref06_Squeeze) 1000 (by kernel_rfl) Try.func15 rfl Try.checked.mixed hh
/-! ### babelpkt_Decode: function 16 of Go -/
abbrev F_babelpkt_Decode : FuncId := 16
noncomputable def c_babelpkt_Decode : Code := (Try.f16.body).getD .skip
def p_babelpkt_Decode : Nat → List (List Nat) := fun r => match r with | 9 => [[], [0], [0, 1], [0, 1, 2], [0, 1, 2, 3], [0, 1, 2, 3, 4], [0, 1, 2, 3, 4, 5], [0, 1, 2, 3], [0, 1, 2, 3, 7], [0, 1, 2, 3, 7, 8], [0, 1, 2, 3, 7, 8, 9], [0, 1, 2, 3, 4, 5, 6, 7, 8, 9, 10], [0, 1, 2, 3, 4, 5, 6, 7, 8, 9, 10, 11], [0, 1, 2, 3, 4, 5, 6, 7, 8, 9, 10, 11, 12], [0, 1, 2, 3, 4, 5, 6, 7, 8, 9, 10, 11, 12, 13], [0, 1, 2, 3, 4, 5, 6, 7, 8, 9, 10, 11, 12, 13, 14], [0, 1, 2, 3, 4, 5, 6, 7, 8, 9, 10, 11, 12, 13, 14, 15], [0, 1, 2, 3, 4, 5, 6, 7, 8, 9, 10, 11, 12, 13], [0, 1, 2, 3, 4, 5, 6, 7, 8, 9, 10, 11, 12, 13], [0, 1, 2, 3, 4, 5, 6, 7, 8, 9, 10, 11, 12, 13, 18], [0, 1, 2, 3, 4, 5, 6, 7, 8, 9, 10, 11, 12, 13, 18, 19], [0, 1, 2, 3, 4, 5, 6, 7, 8, 9, 10, 11, 12, 13, 18, 19, 20], [0, 1, 2, 3, 4, 5, 6, 7, 8, 9, 10, 11, 12, 13, 18, 19, 20, 21], [0, 1, 2, 3, 4, 5, 6, 7, 8, 9, 10, 11, 12, 13, 17, 18, 19, 20, 21, 22], [0, 1, 2, 3, 4, 5, 6, 7, 8, 9, 10, 11, 12, 13, 14, 15, 16, 17, 18, 19, 20, 21, 22, 23], [0, 1, 2, 3, 4, 5, 6, 7, 8, 9, 10, 11, 12, 13, 14, 15, 16, 17, 18, 19, 20, 21, 22, 23, 24], [0, 1, 2, 3, 4, 5, 6, 7, 8, 9, 10, 11, 12, 13, 14, 15, 16, 17, 18, 19, 20, 21, 22, 23, 24, 25], [0, 1, 2, 3, 4, 5, 6, 7, 8, 9, 10, 11, 12, 13, 14, 15, 16, 17, 18, 19, 20, 21, 22, 23, 24, 25, 26]] | _ => []
noncomputable def g_babelpkt_Decode : Cfg := { sh := shs, fsh := fshs, results := [.tmp 2, .tmp 3], hint := fun _ _ => none, ord := fun r => match r with | 9 => some [0, 1, 2, 3, 4, 5, 6, 7, 8, 9, 10, 11, 12, 13, 14, 15, 16, 17, 18, 19, 20, 21, 22, 23, 24, 25, 26, 27] | _ => none, pre := p_babelpkt_Decode, un := unOf p_babelpkt_Decode }
noncomputable def k_babelpkt_Decode_1 : List Item := [.code (sr (sr (sr (sr (bd (sr c_babelpkt_Decode)))))), .inScope (bd (sr c_babelpkt_Decode))]
noncomputable def t_babelpkt_Decode_1 (y4 : Nat) (A0 : Option Addr) (n0 : Nat) (c0 : Nat) (u : Nat → Value) : List Value := [.slice A0 n0 c0, undef, (u 2), (u 3), .pointer (some ⟨y4, 0, none⟩), (u 5), (u 6), (u 7), (u 8), (u 9), (u 10), (u 11), (u 12), (u 13), (u 14), (u 15), (u 16), (u 17), (u 18), (u 19), (u 20), (u 21), (u 22), (u 23), (u 24), (u 25), (u 26), (u 27), (u 28), (u 29), (u 30), (u 31), (u 32), (u 33), (u 34), (u 35), (u 36), (u 37), (u 38), (u 39), (u 40), (u 41), (u 42), (u 43), (u 44), (u 45), (u 46), (u 47), (u 48), (u 49), (u 50), (u 51), (u 52), (u 53), (u 54), (u 55), (u 56), (u 57), (u 58), (u 59), (u 60), (u 61), (u 62), (u 63), (u 64), (u 65), (u 66), (u 67), (u 68), (u 69), (u 70), (u 71), (u 72), (u 73), (u 74), (u 75), (u 76), (u 77), (u 78), (u 79), (u 80)]
noncomputable def k_babelpkt_Decode_2 : List Item := [.code (sl (sr (sr (sr (sr (bd (sr c_babelpkt_Decode))))))), .code (sr (sr (sr (sr (sr (bd (sr c_babelpkt_Decode))))))), .inScope (bd (sr c_babelpkt_Decode))]
noncomputable def t_babelpkt_Decode_2 (y4 : Nat) (A0 : Option Addr) (n0 : Nat) (c0 : Nat) (u : Nat → Value) : List Value := [.slice A0 n0 c0, undef, (u 2), (u 3), .pointer (some ⟨y4, 0, none⟩), (u 5), (u 6), (u 7), (u 8), (u 9), (u 10), (u 11), (u 12), (u 13), (u 14), (u 15), (u 16), (u 17), (u 18), (u 19), (u 20), (u 21), (u 22), (u 23), (u 24), (u 25), (u 26), (u 27), (u 28), (u 29), (u 30), (u 31), (u 32), (u 33), (u 34), (u 35), (u 36), (u 37), (u 38), (u 39), (u 40), (u 41), (u 42), (u 43), (u 44), (u 45), (u 46), (u 47), (u 48), (u 49), (u 50), (u 51), (u 52), (u 53), (u 54), (u 55), (u 56), (u 57), (u 58), (u 59), (u 60), (u 61), (u 62), (u 63), (u 64), (u 65), (u 66), (u 67), (u 68), (u 69), (u 70), (u 71), (u 72), (u 73), (u 74), (u 75), (u 76), (u 77), (u 78), (u 79), (u 80)]
set_option maxRecDepth 100000 in
set_option maxHeartbeats 4000000 in
theorem r_babelpkt_Decode (Aa0 : Option Addr) (na0 : Nat) (ca0 : Nat) {I : Ctx} {h : Mem} {Q : Value → Mem → Prop}
  (hh : holds Try.prog 16 I (cl_ Q)
   (.ite (decide ((((na0 : Nat) : Int) : Int) < 4))
    (.done (.tuple #[.slice none 0 0, .int .i64 2]))
    (.rd (Instr.indexAt 25 (.slice Aa0 na0 ca0) (.int .i64 0)) (.one (.sc (.padr))) fun l1 =>
     (.rd (Instr.loadAt 5 (.pointer (some ((l1 0).a)))) (.one (.sc (.int .u8))) fun l2 =>
      (.ite (((l2 0).i : Int) != 42)
       (.done (.tuple #[.slice none 0 0, .int .i64 2]))
       (.rd (Instr.indexAt 25 (.slice Aa0 na0 ca0) (.int .i64 1)) (.one (.sc (.padr))) fun l3 =>
        (.rd (Instr.loadAt 5 (.pointer (some ((l3 0).a)))) (.one (.sc (.int .u8))) fun l4 =>
         (.ite (((l4 0).i : Int) != 2)
          (.done (.tuple #[.slice none 0 0, .int .i64 2]))
          (.call 33 [.slice Aa0 na0 ca0, .int .i64 2] (.one (.sc (.int .i64))) fun l5 => -- babelpkt_at2
           (.ite (((l5 0).i : Int) != (IntKind.wrap .i64 (((na0 : Nat) : Int) - 4)))
            (.done (.tuple #[.slice none 0 0, .int .i64 2]))
            (.sem (Instr.alloc 61 true (.tuple #[])) shBlk fun l6 =>
             (.rd (Instr.sliceAt 25 (.slice Aa0 na0 ca0) (some (.int .i64 4)) none none) (.one (.sc (.sl))) fun l7 =>
              (.stop k_babelpkt_Decode_1 (t_babelpkt_Decode_1 ((l6 0).n) ((l7 0).A) ((l7 0).n) ((l7 0).c) (jl [(2, .slice none 0 0), (3, .int .i64 0), (5, .slice Aa0 na0 ca0), (6, .int .i64 ((na0 : Nat) : Int)), (7, .bool (decide ((((na0 : Nat) : Int) : Int) < 4))), (8, .bool false), (9, .slice Aa0 na0 ca0), (10, .pointer (some ((l1 0).a))), (11, .int .u8 ((l2 0).i)), (12, .bool (((l2 0).i : Int) != 42)), (13, .bool (((l2 0).i : Int) != 42)), (14, .bool false), (15, .slice Aa0 na0 ca0), (16, .pointer (some ((l3 0).a))), (17, .int .u8 ((l4 0).i)), (18, .bool (((l4 0).i : Int) != 2)), (19, .bool (((l4 0).i : Int) != 2)), (20, .bool false), (21, .slice Aa0 na0 ca0), (22, .int .i64 ((l5 0).i)), (23, .slice Aa0 na0 ca0), (24, .int .i64 ((na0 : Nat) : Int)), (25, .int .i64 (IntKind.wrap .i64 (((na0 : Nat) : Int) - 4))), (26, .bool (((l5 0).i : Int) != (IntKind.wrap .i64 (((na0 : Nat) : Int) - 4)))), (27, .bool (((l5 0).i : Int) != (IntKind.wrap .i64 (((na0 : Nat) : Int) - 4)))), (28, .slice Aa0 na0 ca0), (29, .slice ((l7 0).A) ((l7 0).n) ((l7 0).c)), (30, undef), (31, undef), (32, undef), (33, undef), (34, undef), (35, undef), (36, undef), (37, undef), (38, undef), (39, undef), (40, undef), (41, undef), (42, undef), (43, undef), (44, undef), (45, undef), (46, undef), (47, undef), (48, undef), (49, undef), (50, undef), (51, undef), (52, undef), (53, undef), (54, undef), (55, undef), (56, undef), (57, undef), (58, undef), (59, undef), (60, undef), (61, undef), (62, undef), (63, undef), (64, undef), (65, undef), (66, undef), (67, undef), (68, undef), (69, undef), (70, undef), (71, undef), (72, undef), (73, undef), (74, undef), (75, undef), (76, undef), (77, undef), (78, undef), (79, undef), (80, undef)])))))))))))))) h) : Fn Try.prog 16 #[.slice Aa0 na0 ca0] I h Q :=
  Wp.fn (args := [.slice Aa0 na0 ca0]) Try.func16 rfl (by kernel_rfl) (of_tree (cfg := g_babelpkt_Decode) 1000 (by kernel_rfl) Try.func16 rfl Try.checked.mixed hh)
theorem ca_babelpkt_Decode : callable Try.prog 16 := ⟨_, Try.func16, by kernel_rfl, by kernel_rfl⟩
set_option maxRecDepth 100000 in
set_option maxHeartbeats 4000000 in
theorem r_babelpkt_Decode_1 (y4 : Nat) (A0 : Option Addr) (n0 : Nat) (c0 : Nat) (u : Nat → Value) {I : Ctx} {h : Mem} {Q : Value → Mem → Prop}
  (hh : holds Try.prog 16 I Q
   (.ite ((((n0 : Nat) : Int) : Int) == 0)
    (.rd (Instr.loadAt 22 (.pointer (some ⟨y4, 4, none⟩))) (.one (.sc (.sl))) fun l8 =>
     (.ite (decide (((((l8 0).n : Nat) : Int) : Int) > 40))
      (.done (.tuple #[.slice none 0 0, .int .i64 9]))
      (.ite ((((n0 : Nat) : Int) : Int) == 0)
       (.rd (Instr.loadAt 22 (.pointer (some ⟨y4, 4, none⟩))) (.one (.sc (.sl))) fun l9 =>
        (.done (.tuple #[.slice ((l9 0).A) ((l9 0).n) ((l9 0).c), .int .i64 0])))
       (.ite (decide ((((n0 : Nat) : Int) : Int) < 2))
        (.done (.tuple #[.slice none 0 0, .int .i64 2]))
        (.rd (Instr.indexAt 25 (.slice A0 n0 c0) (.int .i64 1)) (.one (.sc (.padr))) fun l10 =>
         (.rd (Instr.loadAt 5 (.pointer (some ((l10 0).a)))) (.one (.sc (.int .u8))) fun l11 =>
          (.ite (decide ((IntKind.wrap .i64 (((n0 : Nat) : Int) - 2) : Int) < (IntKind.wrap .i64 ((l11 0).i))))
           (.done (.tuple #[.slice none 0 0, .int .i64 2]))
           (.rd (Instr.indexAt 25 (.slice A0 n0 c0) (.int .i64 0)) (.one (.sc (.padr))) fun l12 =>
            (.rd (Instr.loadAt 5 (.pointer (some ((l12 0).a)))) (.one (.sc (.int .u8))) fun l13 =>
             (.rd (Instr.indexAt 25 (.slice A0 n0 c0) (.int .i64 1)) (.one (.sc (.padr))) fun l14 =>
              (.rd (Instr.loadAt 5 (.pointer (some ((l14 0).a)))) (.one (.sc (.int .u8))) fun l15 =>
               (.rd (Instr.sliceAt 25 (.slice A0 n0 c0) (some (.int .i64 2)) (some (.int .i64 (IntKind.wrap .i64 (2 + (IntKind.wrap .i64 ((l15 0).i)))))) none) (.one (.sc (.sl))) fun l16 =>
                (.call 34 [.pointer (some ⟨y4, 0, none⟩), .int .u8 ((l13 0).i), .slice ((l16 0).A) ((l16 0).n) ((l16 0).c)] (.one (.sc (.bool))) fun l17 => -- babelpkt_reader_take
                 (.ite (!((l17 0).b))
                  (.done (.tuple #[.slice none 0 0, .int .i64 2]))
                  (.rd (Instr.indexAt 25 (.slice A0 n0 c0) (.int .i64 1)) (.one (.sc (.padr))) fun l18 =>
                   (.rd (Instr.loadAt 5 (.pointer (some ((l18 0).a)))) (.one (.sc (.int .u8))) fun l19 =>
                    (.rd (Instr.sliceAt 25 (.slice A0 n0 c0) (some (.int .i64 (IntKind.wrap .i64 (2 + (IntKind.wrap .i64 ((l19 0).i)))))) none none) (.one (.sc (.sl))) fun l20 =>
                     (.stop k_babelpkt_Decode_2 (t_babelpkt_Decode_2 y4 ((l20 0).A) ((l20 0).n) ((l20 0).c) (jl [(2, (u 2)), (3, (u 3)), (5, (u 5)), (6, (u 6)), (7, (u 7)), (8, (u 8)), (9, (u 9)), (10, (u 10)), (11, (u 11)), (12, (u 12)), (13, (u 13)), (14, (u 14)), (15, (u 15)), (16, (u 16)), (17, (u 17)), (18, (u 18)), (19, (u 19)), (20, (u 20)), (21, (u 21)), (22, (u 22)), (23, (u 23)), (24, (u 24)), (25, (u 25)), (26, (u 26)), (27, (u 27)), (28, (u 28)), (29, (u 29)), (30, .bool (decide (((((l8 0).n : Nat) : Int) : Int) > 40))), (31, .slice A0 n0 c0), (32, .int .i64 ((n0 : Nat) : Int)), (33, .bool ((((n0 : Nat) : Int) : Int) == 0)), (34, .bool true), (35, .pointer (some ⟨y4, 4, none⟩)), (36, .slice ((l8 0).A) ((l8 0).n) ((l8 0).c)), (37, .int .i64 (((l8 0).n : Nat) : Int)), (38, .bool (decide (((((l8 0).n : Nat) : Int) : Int) > 40))), (39, .bool (decide (((((l8 0).n : Nat) : Int) : Int) > 40))), (40, .bool ((((n0 : Nat) : Int) : Int) == 0)), (41, .slice A0 n0 c0), (42, .int .i64 ((n0 : Nat) : Int)), (43, .bool ((((n0 : Nat) : Int) : Int) == 0)), (44, (u 44)), (45, (u 45)), (46, .bool (!((l17 0).b))), (47, .slice A0 n0 c0), (48, .int .i64 ((n0 : Nat) : Int)), (49, .bool (decide ((((n0 : Nat) : Int) : Int) < 2))), (50, .bool false), (51, .slice A0 n0 c0), (52, .int .i64 ((n0 : Nat) : Int)), (53, .int .i64 (IntKind.wrap .i64 (((n0 : Nat) : Int) - 2))), (54, .slice A0 n0 c0), (55, .pointer (some ((l10 0).a))), (56, .int .u8 ((l11 0).i)), (57, .int .i64 (IntKind.wrap .i64 ((l11 0).i))), (58, .bool (decide ((IntKind.wrap .i64 (((n0 : Nat) : Int) - 2) : Int) < (IntKind.wrap .i64 ((l11 0).i))))), (59, .bool (decide ((IntKind.wrap .i64 (((n0 : Nat) : Int) - 2) : Int) < (IntKind.wrap .i64 ((l11 0).i))))), (60, .bool false), (61, .slice A0 n0 c0), (62, .pointer (some ((l12 0).a))), (63, .int .u8 ((l13 0).i)), (64, .slice A0 n0 c0), (65, .slice A0 n0 c0), (66, .pointer (some ((l14 0).a))), (67, .int .u8 ((l15 0).i)), (68, .int .i64 (IntKind.wrap .i64 ((l15 0).i))), (69, .int .i64 (IntKind.wrap .i64 (2 + (IntKind.wrap .i64 ((l15 0).i))))), (70, .slice ((l16 0).A) ((l16 0).n) ((l16 0).c)), (71, .bool ((l17 0).b)), (72, .bool (!((l17 0).b))), (73, .bool (!((l17 0).b))), (74, .slice A0 n0 c0), (75, .slice A0 n0 c0), (76, .pointer (some ((l18 0).a))), (77, .int .u8 ((l19 0).i)), (78, .int .i64 (IntKind.wrap .i64 ((l19 0).i))), (79, .int .i64 (IntKind.wrap .i64 (2 + (IntKind.wrap .i64 ((l19 0).i))))), (80, .slice ((l20 0).A) ((l20 0).n) ((l20 0).c))]))))))))))))))))))))
    (.ite ((((n0 : Nat) : Int) : Int) == 0)
     (.rd (Instr.loadAt 22 (.pointer (some ⟨y4, 4, none⟩))) (.one (.sc (.sl))) fun l21 =>
      (.done (.tuple #[.slice ((l21 0).A) ((l21 0).n) ((l21 0).c), .int .i64 0])))
     (.ite (decide ((((n0 : Nat) : Int) : Int) < 2))
      (.done (.tuple #[.slice none 0 0, .int .i64 2]))
      (.rd (Instr.indexAt 25 (.slice A0 n0 c0) (.int .i64 1)) (.one (.sc (.padr))) fun l22 =>
       (.rd (Instr.loadAt 5 (.pointer (some ((l22 0).a)))) (.one (.sc (.int .u8))) fun l23 =>
        (.ite (decide ((IntKind.wrap .i64 (((n0 : Nat) : Int) - 2) : Int) < (IntKind.wrap .i64 ((l23 0).i))))
         (.done (.tuple #[.slice none 0 0, .int .i64 2]))
         (.rd (Instr.indexAt 25 (.slice A0 n0 c0) (.int .i64 0)) (.one (.sc (.padr))) fun l24 =>
          (.rd (Instr.loadAt 5 (.pointer (some ((l24 0).a)))) (.one (.sc (.int .u8))) fun l25 =>
           (.rd (Instr.indexAt 25 (.slice A0 n0 c0) (.int .i64 1)) (.one (.sc (.padr))) fun l26 =>
            (.rd (Instr.loadAt 5 (.pointer (some ((l26 0).a)))) (.one (.sc (.int .u8))) fun l27 =>
             (.rd (Instr.sliceAt 25 (.slice A0 n0 c0) (some (.int .i64 2)) (some (.int .i64 (IntKind.wrap .i64 (2 + (IntKind.wrap .i64 ((l27 0).i)))))) none) (.one (.sc (.sl))) fun l28 =>
              (.call 34 [.pointer (some ⟨y4, 0, none⟩), .int .u8 ((l25 0).i), .slice ((l28 0).A) ((l28 0).n) ((l28 0).c)] (.one (.sc (.bool))) fun l29 => -- babelpkt_reader_take
               (.ite (!((l29 0).b))
                (.done (.tuple #[.slice none 0 0, .int .i64 2]))
                (.rd (Instr.indexAt 25 (.slice A0 n0 c0) (.int .i64 1)) (.one (.sc (.padr))) fun l30 =>
                 (.rd (Instr.loadAt 5 (.pointer (some ((l30 0).a)))) (.one (.sc (.int .u8))) fun l31 =>
                  (.rd (Instr.sliceAt 25 (.slice A0 n0 c0) (some (.int .i64 (IntKind.wrap .i64 (2 + (IntKind.wrap .i64 ((l31 0).i)))))) none none) (.one (.sc (.sl))) fun l32 =>
                   (.stop k_babelpkt_Decode_2 (t_babelpkt_Decode_2 y4 ((l32 0).A) ((l32 0).n) ((l32 0).c) (jl [(2, (u 2)), (3, (u 3)), (5, (u 5)), (6, (u 6)), (7, (u 7)), (8, (u 8)), (9, (u 9)), (10, (u 10)), (11, (u 11)), (12, (u 12)), (13, (u 13)), (14, (u 14)), (15, (u 15)), (16, (u 16)), (17, (u 17)), (18, (u 18)), (19, (u 19)), (20, (u 20)), (21, (u 21)), (22, (u 22)), (23, (u 23)), (24, (u 24)), (25, (u 25)), (26, (u 26)), (27, (u 27)), (28, (u 28)), (29, (u 29)), (30, .bool false), (31, .slice A0 n0 c0), (32, .int .i64 ((n0 : Nat) : Int)), (33, .bool ((((n0 : Nat) : Int) : Int) == 0)), (34, .bool false), (35, undef), (36, undef), (37, undef), (38, undef), (39, .bool false), (40, .bool ((((n0 : Nat) : Int) : Int) == 0)), (41, .slice A0 n0 c0), (42, .int .i64 ((n0 : Nat) : Int)), (43, .bool ((((n0 : Nat) : Int) : Int) == 0)), (44, (u 44)), (45, (u 45)), (46, .bool (!((l29 0).b))), (47, .slice A0 n0 c0), (48, .int .i64 ((n0 : Nat) : Int)), (49, .bool (decide ((((n0 : Nat) : Int) : Int) < 2))), (50, .bool false), (51, .slice A0 n0 c0), (52, .int .i64 ((n0 : Nat) : Int)), (53, .int .i64 (IntKind.wrap .i64 (((n0 : Nat) : Int) - 2))), (54, .slice A0 n0 c0), (55, .pointer (some ((l22 0).a))), (56, .int .u8 ((l23 0).i)), (57, .int .i64 (IntKind.wrap .i64 ((l23 0).i))), (58, .bool (decide ((IntKind.wrap .i64 (((n0 : Nat) : Int) - 2) : Int) < (IntKind.wrap .i64 ((l23 0).i))))), (59, .bool (decide ((IntKind.wrap .i64 (((n0 : Nat) : Int) - 2) : Int) < (IntKind.wrap .i64 ((l23 0).i))))), (60, .bool false), (61, .slice A0 n0 c0), (62, .pointer (some ((l24 0).a))), (63, .int .u8 ((l25 0).i)), (64, .slice A0 n0 c0), (65, .slice A0 n0 c0), (66, .pointer (some ((l26 0).a))), (67, .int .u8 ((l27 0).i)), (68, .int .i64 (IntKind.wrap .i64 ((l27 0).i))), (69, .int .i64 (IntKind.wrap .i64 (2 + (IntKind.wrap .i64 ((l27 0).i))))), (70, .slice ((l28 0).A) ((l28 0).n) ((l28 0).c)), (71, .bool ((l29 0).b)), (72, .bool (!((l29 0).b))), (73, .bool (!((l29 0).b))), (74, .slice A0 n0 c0), (75, .slice A0 n0 c0), (76, .pointer (some ((l30 0).a))), (77, .int .u8 ((l31 0).i)), (78, .int .i64 (IntKind.wrap .i64 ((l31 0).i))), (79, .int .i64 (IntKind.wrap .i64 (2 + (IntKind.wrap .i64 ((l31 0).i))))), (80, .slice ((l32 0).A) ((l32 0).n) ((l32 0).c))]))))))))))))))))))) h) : Wp Try.prog 16 k_babelpkt_Decode_1 (t_babelpkt_Decode_1 y4 A0 n0 c0 u) I h Q :=
  of_tree (cfg := g_babelpkt_Decode) 1000 (by kernel_rfl) Try.func16 rfl Try.checked.mixed hh
set_option maxRecDepth 100000 in
set_option maxHeartbeats 4000000 in
theorem r_babelpkt_Decode_2 (y4 : Nat) (A0 : Option Addr) (n0 : Nat) (c0 : Nat) (u : Nat → Value) {I : Ctx} {h : Mem} {Q : Value → Mem → Prop}
  (hh : holds Try.prog 16 I Q
   (.ite ((((n0 : Nat) : Int) : Int) == 0)
    (.rd (Instr.loadAt 22 (.pointer (some ⟨y4, 4, none⟩))) (.one (.sc (.sl))) fun l33 =>
     (.ite (decide (((((l33 0).n : Nat) : Int) : Int) > 40))
      (.done (.tuple #[.slice none 0 0, .int .i64 9]))
      (.ite ((((n0 : Nat) : Int) : Int) == 0)
       (.rd (Instr.loadAt 22 (.pointer (some ⟨y4, 4, none⟩))) (.one (.sc (.sl))) fun l34 =>
        (.done (.tuple #[.slice ((l34 0).A) ((l34 0).n) ((l34 0).c), .int .i64 0])))
       (.ite (decide ((((n0 : Nat) : Int) : Int) < 2))
        (.done (.tuple #[.slice none 0 0, .int .i64 2]))
        (.rd (Instr.indexAt 25 (.slice A0 n0 c0) (.int .i64 1)) (.one (.sc (.padr))) fun l35 =>
         (.rd (Instr.loadAt 5 (.pointer (some ((l35 0).a)))) (.one (.sc (.int .u8))) fun l36 =>
          (.ite (decide ((IntKind.wrap .i64 (((n0 : Nat) : Int) - 2) : Int) < (IntKind.wrap .i64 ((l36 0).i))))
           (.done (.tuple #[.slice none 0 0, .int .i64 2]))
           (.rd (Instr.indexAt 25 (.slice A0 n0 c0) (.int .i64 0)) (.one (.sc (.padr))) fun l37 =>
            (.rd (Instr.loadAt 5 (.pointer (some ((l37 0).a)))) (.one (.sc (.int .u8))) fun l38 =>
             (.rd (Instr.indexAt 25 (.slice A0 n0 c0) (.int .i64 1)) (.one (.sc (.padr))) fun l39 =>
              (.rd (Instr.loadAt 5 (.pointer (some ((l39 0).a)))) (.one (.sc (.int .u8))) fun l40 =>
               (.rd (Instr.sliceAt 25 (.slice A0 n0 c0) (some (.int .i64 2)) (some (.int .i64 (IntKind.wrap .i64 (2 + (IntKind.wrap .i64 ((l40 0).i)))))) none) (.one (.sc (.sl))) fun l41 =>
                (.call 34 [.pointer (some ⟨y4, 0, none⟩), .int .u8 ((l38 0).i), .slice ((l41 0).A) ((l41 0).n) ((l41 0).c)] (.one (.sc (.bool))) fun l42 => -- babelpkt_reader_take
                 (.ite (!((l42 0).b))
                  (.done (.tuple #[.slice none 0 0, .int .i64 2]))
                  (.rd (Instr.indexAt 25 (.slice A0 n0 c0) (.int .i64 1)) (.one (.sc (.padr))) fun l43 =>
                   (.rd (Instr.loadAt 5 (.pointer (some ((l43 0).a)))) (.one (.sc (.int .u8))) fun l44 =>
                    (.rd (Instr.sliceAt 25 (.slice A0 n0 c0) (some (.int .i64 (IntKind.wrap .i64 (2 + (IntKind.wrap .i64 ((l44 0).i)))))) none none) (.one (.sc (.sl))) fun l45 =>
                     (.stop k_babelpkt_Decode_2 (t_babelpkt_Decode_2 y4 ((l45 0).A) ((l45 0).n) ((l45 0).c) (jl [(2, (u 2)), (3, (u 3)), (5, (u 5)), (6, (u 6)), (7, (u 7)), (8, (u 8)), (9, (u 9)), (10, (u 10)), (11, (u 11)), (12, (u 12)), (13, (u 13)), (14, (u 14)), (15, (u 15)), (16, (u 16)), (17, (u 17)), (18, (u 18)), (19, (u 19)), (20, (u 20)), (21, (u 21)), (22, (u 22)), (23, (u 23)), (24, (u 24)), (25, (u 25)), (26, (u 26)), (27, (u 27)), (28, (u 28)), (29, (u 29)), (30, .bool (decide (((((l33 0).n : Nat) : Int) : Int) > 40))), (31, .slice A0 n0 c0), (32, .int .i64 ((n0 : Nat) : Int)), (33, .bool ((((n0 : Nat) : Int) : Int) == 0)), (34, .bool true), (35, .pointer (some ⟨y4, 4, none⟩)), (36, .slice ((l33 0).A) ((l33 0).n) ((l33 0).c)), (37, .int .i64 (((l33 0).n : Nat) : Int)), (38, .bool (decide (((((l33 0).n : Nat) : Int) : Int) > 40))), (39, .bool (decide (((((l33 0).n : Nat) : Int) : Int) > 40))), (40, .bool ((((n0 : Nat) : Int) : Int) == 0)), (41, .slice A0 n0 c0), (42, .int .i64 ((n0 : Nat) : Int)), (43, .bool ((((n0 : Nat) : Int) : Int) == 0)), (44, (u 44)), (45, (u 45)), (46, .bool (!((l42 0).b))), (47, .slice A0 n0 c0), (48, .int .i64 ((n0 : Nat) : Int)), (49, .bool (decide ((((n0 : Nat) : Int) : Int) < 2))), (50, .bool false), (51, .slice A0 n0 c0), (52, .int .i64 ((n0 : Nat) : Int)), (53, .int .i64 (IntKind.wrap .i64 (((n0 : Nat) : Int) - 2))), (54, .slice A0 n0 c0), (55, .pointer (some ((l35 0).a))), (56, .int .u8 ((l36 0).i)), (57, .int .i64 (IntKind.wrap .i64 ((l36 0).i))), (58, .bool (decide ((IntKind.wrap .i64 (((n0 : Nat) : Int) - 2) : Int) < (IntKind.wrap .i64 ((l36 0).i))))), (59, .bool (decide ((IntKind.wrap .i64 (((n0 : Nat) : Int) - 2) : Int) < (IntKind.wrap .i64 ((l36 0).i))))), (60, .bool false), (61, .slice A0 n0 c0), (62, .pointer (some ((l37 0).a))), (63, .int .u8 ((l38 0).i)), (64, .slice A0 n0 c0), (65, .slice A0 n0 c0), (66, .pointer (some ((l39 0).a))), (67, .int .u8 ((l40 0).i)), (68, .int .i64 (IntKind.wrap .i64 ((l40 0).i))), (69, .int .i64 (IntKind.wrap .i64 (2 + (IntKind.wrap .i64 ((l40 0).i))))), (70, .slice ((l41 0).A) ((l41 0).n) ((l41 0).c)), (71, .bool ((l42 0).b)), (72, .bool (!((l42 0).b))), (73, .bool (!((l42 0).b))), (74, .slice A0 n0 c0), (75, .slice A0 n0 c0), (76, .pointer (some ((l43 0).a))), (77, .int .u8 ((l44 0).i)), (78, .int .i64 (IntKind.wrap .i64 ((l44 0).i))), (79, .int .i64 (IntKind.wrap .i64 (2 + (IntKind.wrap .i64 ((l44 0).i))))), (80, .slice ((l45 0).A) ((l45 0).n) ((l45 0).c))]))))))))))))))))))))
    (.ite ((((n0 : Nat) : Int) : Int) == 0)
     (.rd (Instr.loadAt 22 (.pointer (some ⟨y4, 4, none⟩))) (.one (.sc (.sl))) fun l46 =>
      (.done (.tuple #[.slice ((l46 0).A) ((l46 0).n) ((l46 0).c), .int .i64 0])))
     (.ite (decide ((((n0 : Nat) : Int) : Int) < 2))
      (.done (.tuple #[.slice none 0 0, .int .i64 2]))
      (.rd (Instr.indexAt 25 (.slice A0 n0 c0) (.int .i64 1)) (.one (.sc (.padr))) fun l47 =>
       (.rd (Instr.loadAt 5 (.pointer (some ((l47 0).a)))) (.one (.sc (.int .u8))) fun l48 =>
        (.ite (decide ((IntKind.wrap .i64 (((n0 : Nat) : Int) - 2) : Int) < (IntKind.wrap .i64 ((l48 0).i))))
         (.done (.tuple #[.slice none 0 0, .int .i64 2]))
         (.rd (Instr.indexAt 25 (.slice A0 n0 c0) (.int .i64 0)) (.one (.sc (.padr))) fun l49 =>
          (.rd (Instr.loadAt 5 (.pointer (some ((l49 0).a)))) (.one (.sc (.int .u8))) fun l50 =>
           (.rd (Instr.indexAt 25 (.slice A0 n0 c0) (.int .i64 1)) (.one (.sc (.padr))) fun l51 =>
            (.rd (Instr.loadAt 5 (.pointer (some ((l51 0).a)))) (.one (.sc (.int .u8))) fun l52 =>
             (.rd (Instr.sliceAt 25 (.slice A0 n0 c0) (some (.int .i64 2)) (some (.int .i64 (IntKind.wrap .i64 (2 + (IntKind.wrap .i64 ((l52 0).i)))))) none) (.one (.sc (.sl))) fun l53 =>
              (.call 34 [.pointer (some ⟨y4, 0, none⟩), .int .u8 ((l50 0).i), .slice ((l53 0).A) ((l53 0).n) ((l53 0).c)] (.one (.sc (.bool))) fun l54 => -- babelpkt_reader_take
               (.ite (!((l54 0).b))
                (.done (.tuple #[.slice none 0 0, .int .i64 2]))
                (.rd (Instr.indexAt 25 (.slice A0 n0 c0) (.int .i64 1)) (.one (.sc (.padr))) fun l55 =>
                 (.rd (Instr.loadAt 5 (.pointer (some ((l55 0).a)))) (.one (.sc (.int .u8))) fun l56 =>
                  (.rd (Instr.sliceAt 25 (.slice A0 n0 c0) (some (.int .i64 (IntKind.wrap .i64 (2 + (IntKind.wrap .i64 ((l56 0).i)))))) none none) (.one (.sc (.sl))) fun l57 =>
                   (.stop k_babelpkt_Decode_2 (t_babelpkt_Decode_2 y4 ((l57 0).A) ((l57 0).n) ((l57 0).c) (jl [(2, (u 2)), (3, (u 3)), (5, (u 5)), (6, (u 6)), (7, (u 7)), (8, (u 8)), (9, (u 9)), (10, (u 10)), (11, (u 11)), (12, (u 12)), (13, (u 13)), (14, (u 14)), (15, (u 15)), (16, (u 16)), (17, (u 17)), (18, (u 18)), (19, (u 19)), (20, (u 20)), (21, (u 21)), (22, (u 22)), (23, (u 23)), (24, (u 24)), (25, (u 25)), (26, (u 26)), (27, (u 27)), (28, (u 28)), (29, (u 29)), (30, .bool false), (31, .slice A0 n0 c0), (32, .int .i64 ((n0 : Nat) : Int)), (33, .bool ((((n0 : Nat) : Int) : Int) == 0)), (34, .bool false), (35, undef), (36, undef), (37, undef), (38, undef), (39, .bool false), (40, .bool ((((n0 : Nat) : Int) : Int) == 0)), (41, .slice A0 n0 c0), (42, .int .i64 ((n0 : Nat) : Int)), (43, .bool ((((n0 : Nat) : Int) : Int) == 0)), (44, (u 44)), (45, (u 45)), (46, .bool (!((l54 0).b))), (47, .slice A0 n0 c0), (48, .int .i64 ((n0 : Nat) : Int)), (49, .bool (decide ((((n0 : Nat) : Int) : Int) < 2))), (50, .bool false), (51, .slice A0 n0 c0), (52, .int .i64 ((n0 : Nat) : Int)), (53, .int .i64 (IntKind.wrap .i64 (((n0 : Nat) : Int) - 2))), (54, .slice A0 n0 c0), (55, .pointer (some ((l47 0).a))), (56, .int .u8 ((l48 0).i)), (57, .int .i64 (IntKind.wrap .i64 ((l48 0).i))), (58, .bool (decide ((IntKind.wrap .i64 (((n0 : Nat) : Int) - 2) : Int) < (IntKind.wrap .i64 ((l48 0).i))))), (59, .bool (decide ((IntKind.wrap .i64 (((n0 : Nat) : Int) - 2) : Int) < (IntKind.wrap .i64 ((l48 0).i))))), (60, .bool false), (61, .slice A0 n0 c0), (62, .pointer (some ((l49 0).a))), (63, .int .u8 ((l50 0).i)), (64, .slice A0 n0 c0), (65, .slice A0 n0 c0), (66, .pointer (some ((l51 0).a))), (67, .int .u8 ((l52 0).i)), (68, .int .i64 (IntKind.wrap .i64 ((l52 0).i))), (69, .int .i64 (IntKind.wrap .i64 (2 + (IntKind.wrap .i64 ((l52 0).i))))), (70, .slice ((l53 0).A) ((l53 0).n) ((l53 0).c)), (71, .bool ((l54 0).b)), (72, .bool (!((l54 0).b))), (73, .bool (!((l54 0).b))), (74, .slice A0 n0 c0), (75, .slice A0 n0 c0), (76, .pointer (some ((l55 0).a))), (77, .int .u8 ((l56 0).i)), (78, .int .i64 (IntKind.wrap .i64 ((l56 0).i))), (79, .int .i64 (IntKind.wrap .i64 (2 + (IntKind.wrap .i64 ((l56 0).i))))), (80, .slice ((l57 0).A) ((l57 0).n) ((l57 0).c))]))))))))))))))))))) h) : Wp Try.prog 16 k_babelpkt_Decode_2 (t_babelpkt_Decode_2 y4 A0 n0 c0 u) I h Q :=
  of_tree (cfg := g_babelpkt_Decode) 1000 (by kernel_rfl) Try.func16 rfl Try.checked.mixed hh
/-! ### octroiref06_Decode: function 17 of Go -/
abbrev F_octroiref06_Decode : FuncId := 17
noncomputable def c_octroiref06_Decode : Code := (Try.f17.body).getD .skip
def p_octroiref06_Decode : Nat → List (List Nat) := fun r => match r with | 9 => [[], [], [], [1, 2], [1, 2, 3], [], [], [6], [], [8], [], [8, 9, 10], [5, 6, 7, 8, 9, 10, 11], [0, 1, 2, 3, 4, 5, 6, 7, 8, 9, 10, 11, 12], [0, 1, 2, 3, 4, 5, 6, 7, 8, 9, 10, 11, 12, 13]] | _ => []
noncomputable def g_octroiref06_Decode : Cfg := { sh := shs, fsh := fshs, results := [.tmp 2, .tmp 3], hint := fun _ _ => none, ord := fun r => match r with | 9 => some [0, 1, 2, 3, 4, 5, 6, 7, 8, 9, 10, 11, 12, 13, 14] | _ => none, pre := p_octroiref06_Decode, un := unOf p_octroiref06_Decode }
noncomputable def k_octroiref06_Decode_1 : List Item := [.code (bd (bd (sl (sr (sr (sr (sr c_octroiref06_Decode))))))), .inLoop (bd (bd (sl (sr (sr (sr (sr c_octroiref06_Decode))))))), .inBlock 0, .code (sr (sr (sr (sr (sr c_octroiref06_Decode)))))]
noncomputable def t_octroiref06_Decode_1 (Aa0 : Option Addr) (na0 : Nat) (ca0 : Nat) (y4 : Nat) (x5 : Int) (u : Nat → Value) : List Value := [.slice Aa0 na0 ca0, undef, (u 2), (u 3), .pointer (some ⟨y4, 0, none⟩), .int .i64 x5, (u 6), (u 7), (u 8), (u 9), (u 10), (u 11), (u 12), (u 13), (u 14), (u 15), (u 16), (u 17), (u 18), (u 19), (u 20), (u 21), (u 22), (u 23), (u 24), (u 25), (u 26), (u 27), (u 28), (u 29), (u 30), (u 31), (u 32), (u 33), (u 34), (u 35), (u 36), (u 37), (u 38), (u 39), (u 40), (u 41), (u 42), (u 43), (u 44), (u 45), (u 46), (u 47), (u 48), (u 49), (u 50), (u 51), (u 52), (u 53), (u 54), (u 55), (u 56), (u 57), (u 58), (u 59), (u 60), (u 61), (u 62), (u 63), (u 64), (u 65), (u 66), (u 67), (u 68), (u 69), (u 70), (u 71), (u 72), (u 73), (u 74), (u 75), (u 76), (u 77), (u 78), (u 79), (u 80), (u 81), (u 82), (u 83), (u 84), (u 85), (u 86), (u 87), (u 88), (u 89), (u 90), (u 91)]
set_option maxRecDepth 100000 in
set_option maxHeartbeats 4000000 in
theorem r_octroiref06_Decode (Aa0 : Option Addr) (na0 : Nat) (ca0 : Nat) {I : Ctx} {h : Mem} {Q : Value → Mem → Prop}
  (hh : holds Try.prog 17 I (cl_ Q)
   (.ite (decide ((((na0 : Nat) : Int) : Int) < 4))
    (.done (.tuple #[.slice none 0 0, .int .i64 2]))
    (.rd (Instr.indexAt 25 (.slice Aa0 na0 ca0) (.int .i64 0)) (.one (.sc (.padr))) fun l1 =>
     (.rd (Instr.loadAt 5 (.pointer (some ((l1 0).a)))) (.one (.sc (.int .u8))) fun l2 =>
      (.ite (((l2 0).i : Int) != 42)
       (.done (.tuple #[.slice none 0 0, .int .i64 2]))
       (.rd (Instr.indexAt 25 (.slice Aa0 na0 ca0) (.int .i64 1)) (.one (.sc (.padr))) fun l3 =>
        (.rd (Instr.loadAt 5 (.pointer (some ((l3 0).a)))) (.one (.sc (.int .u8))) fun l4 =>
         (.ite (((l4 0).i : Int) != 2)
          (.done (.tuple #[.slice none 0 0, .int .i64 2]))
          (.call 35 [.slice Aa0 na0 ca0, .int .i64 2] (.one (.sc (.int .i64))) fun l5 => -- octroiref06_num2
           (.ite (((l5 0).i : Int) != (IntKind.wrap .i64 (((na0 : Nat) : Int) - 4)))
            (.done (.tuple #[.slice none 0 0, .int .i64 2]))
            (.sem (Instr.box 65 (.agg #[.int .u64 0, .bool false, .int .u32 0, .slice none 0 0])) shBlk fun l6 =>
             (.stop k_octroiref06_Decode_1 (t_octroiref06_Decode_1 Aa0 na0 ca0 ((l6 0).n) 4 (jl [(2, .slice none 0 0), (3, .int .i64 0), (6, undef), (7, undef), (8, .slice Aa0 na0 ca0), (9, .int .i64 ((na0 : Nat) : Int)), (10, .bool (decide ((((na0 : Nat) : Int) : Int) < 4))), (11, .bool false), (12, .slice Aa0 na0 ca0), (13, .pointer (some ((l1 0).a))), (14, .int .u8 ((l2 0).i)), (15, .bool (((l2 0).i : Int) != 42)), (16, .bool (((l2 0).i : Int) != 42)), (17, .bool false), (18, .slice Aa0 na0 ca0), (19, .pointer (some ((l3 0).a))), (20, .int .u8 ((l4 0).i)), (21, .bool (((l4 0).i : Int) != 2)), (22, .bool (((l4 0).i : Int) != 2)), (23, .bool false), (24, .slice Aa0 na0 ca0), (25, .int .i64 ((l5 0).i)), (26, .slice Aa0 na0 ca0), (27, .int .i64 ((na0 : Nat) : Int)), (28, .int .i64 (IntKind.wrap .i64 (((na0 : Nat) : Int) - 4))), (29, .bool (((l5 0).i : Int) != (IntKind.wrap .i64 (((na0 : Nat) : Int) - 4)))), (30, .bool (((l5 0).i : Int) != (IntKind.wrap .i64 (((na0 : Nat) : Int) - 4)))), (31, .agg #[.int .u64 0, .bool false, .int .u32 0, .slice none 0 0]), (32, .pointer (some ⟨(l6 0).n, 0, none⟩)), (33, undef), (34, undef), (35, undef), (36, undef), (37, undef), (38, undef), (39, undef), (40, undef), (41, undef), (42, undef), (43, undef), (44, undef), (45, undef), (46, undef), (47, undef), (48, undef), (49, undef), (50, undef), (51, undef), (52, undef), (53, undef), (54, undef), (55, undef), (56, undef), (57, undef), (58, undef), (59, undef), (60, undef), (61, undef), (62, undef), (63, undef), (64, undef), (65, undef), (66, undef), (67, undef), (68, undef), (69, undef), (70, undef), (71, undef), (72, undef), (73, undef), (74, undef), (75, undef), (76, undef), (77, undef), (78, undef), (79, undef), (80, undef), (81, undef), (82, undef), (83, undef), (84, undef), (85, undef), (86, undef), (87, undef), (88, undef), (89, undef), (90, undef), (91, undef)]))))))))))))) h) : Fn Try.prog 17 #[.slice Aa0 na0 ca0] I h Q :=
  Wp.fn (args := [.slice Aa0 na0 ca0]) Try.func17 rfl (by kernel_rfl) (of_tree (cfg := g_octroiref06_Decode) 1000 (by kernel_rfl) Try.func17 rfl Try.checked.mixed hh)
theorem ca_octroiref06_Decode : callable Try.prog 17 := ⟨_, Try.func17, by kernel_rfl, by kernel_rfl⟩
set_option maxRecDepth 100000 in
set_option maxHeartbeats 4000000 in
theorem r_octroiref06_Decode_1 (Aa0 : Option Addr) (na0 : Nat) (ca0 : Nat) (y4 : Nat) (x5 : Int) (u : Nat → Value) {I : Ctx} {h : Mem} {Q : Value → Mem → Prop}
  (hh : holds Try.prog 17 I Q
   (.ite (decide ((x5 : Int) < ((na0 : Nat) : Int)))
    (.ite (decide ((IntKind.wrap .i64 (((na0 : Nat) : Int) - x5) : Int) < 2))
     (.done (.tuple #[.slice none 0 0, .int .i64 2]))
     (.rd (Instr.indexAt 25 (.slice Aa0 na0 ca0) (.int .i64 (IntKind.wrap .i64 (x5 + 1)))) (.one (.sc (.padr))) fun l7 =>
      (.rd (Instr.loadAt 5 (.pointer (some ((l7 0).a)))) (.one (.sc (.int .u8))) fun l8 =>
       (.ite (decide ((IntKind.wrap .i64 ((IntKind.wrap .i64 (((na0 : Nat) : Int) - x5)) - 2) : Int) < (IntKind.wrap .i64 ((l8 0).i))))
        (.done (.tuple #[.slice none 0 0, .int .i64 2]))
        (.rd (Instr.indexAt 25 (.slice Aa0 na0 ca0) (.int .i64 (IntKind.wrap .i64 (x5 + 1)))) (.one (.sc (.padr))) fun l9 =>
         (.rd (Instr.loadAt 5 (.pointer (some ((l9 0).a)))) (.one (.sc (.int .u8))) fun l10 =>
          (.rd (Instr.indexAt 25 (.slice Aa0 na0 ca0) (.int .i64 x5)) (.one (.sc (.padr))) fun l11 =>
           (.rd (Instr.loadAt 5 (.pointer (some ((l11 0).a)))) (.one (.sc (.int .u8))) fun l12 =>
            (.rd (Instr.sliceAt 25 (.slice Aa0 na0 ca0) (some (.int .i64 (IntKind.wrap .i64 (x5 + 2)))) (some (.int .i64 (IntKind.wrap .i64 ((IntKind.wrap .i64 (x5 + 2)) + (IntKind.wrap .i64 ((l10 0).i)))))) none) (.one (.sc (.sl))) fun l13 =>
             (.call 36 [.pointer (some ⟨y4, 0, none⟩), .int .u8 ((l12 0).i), .slice ((l13 0).A) ((l13 0).n) ((l13 0).c)] (.one (.sc (.bool))) fun l14 => -- octroiref06_Reader_take
              (.ite (!((l14 0).b))
               (.done (.tuple #[.slice none 0 0, .int .i64 2]))
               (.stop k_octroiref06_Decode_1 (t_octroiref06_Decode_1 Aa0 na0 ca0 y4 (IntKind.wrap .i64 ((IntKind.wrap .i64 (x5 + 2)) + (IntKind.wrap .i64 ((l10 0).i)))) (jl [(2, (u 2)), (3, (u 3)), (6, .int .i64 (IntKind.wrap .i64 ((l10 0).i))), (7, .bool ((l14 0).b)), (8, (u 8)), (9, (u 9)), (10, (u 10)), (11, (u 11)), (12, (u 12)), (13, (u 13)), (14, (u 14)), (15, (u 15)), (16, (u 16)), (17, (u 17)), (18, (u 18)), (19, (u 19)), (20, (u 20)), (21, (u 21)), (22, (u 22)), (23, (u 23)), (24, (u 24)), (25, (u 25)), (26, (u 26)), (27, (u 27)), (28, (u 28)), (29, (u 29)), (30, (u 30)), (31, (u 31)), (32, (u 32)), (33, .int .i64 x5), (34, .slice Aa0 na0 ca0), (35, .int .i64 ((na0 : Nat) : Int)), (36, .bool (decide ((x5 : Int) < ((na0 : Nat) : Int)))), (37, .slice Aa0 na0 ca0), (38, .int .i64 ((na0 : Nat) : Int)), (39, .int .i64 x5), (40, .int .i64 (IntKind.wrap .i64 (((na0 : Nat) : Int) - x5))), (41, .bool (decide ((IntKind.wrap .i64 (((na0 : Nat) : Int) - x5) : Int) < 2))), (42, .bool false), (43, .slice Aa0 na0 ca0), (44, .int .i64 ((na0 : Nat) : Int)), (45, .int .i64 x5), (46, .int .i64 (IntKind.wrap .i64 (((na0 : Nat) : Int) - x5))), (47, .int .i64 (IntKind.wrap .i64 ((IntKind.wrap .i64 (((na0 : Nat) : Int) - x5)) - 2))), (48, .slice Aa0 na0 ca0), (49, .int .i64 x5), (50, .int .i64 (IntKind.wrap .i64 (x5 + 1))), (51, .pointer (some ((l7 0).a))), (52, .int .u8 ((l8 0).i)), (53, .int .i64 (IntKind.wrap .i64 ((l8 0).i))), (54, .bool (decide ((IntKind.wrap .i64 ((IntKind.wrap .i64 (((na0 : Nat) : Int) - x5)) - 2) : Int) < (IntKind.wrap .i64 ((l8 0).i))))), (55, .bool (decide ((IntKind.wrap .i64 ((IntKind.wrap .i64 (((na0 : Nat) : Int) - x5)) - 2) : Int) < (IntKind.wrap .i64 ((l8 0).i))))), (56, .slice Aa0 na0 ca0), (57, .int .i64 x5), (58, .int .i64 (IntKind.wrap .i64 (x5 + 1))), (59, .pointer (some ((l9 0).a))), (60, .int .u8 ((l10 0).i)), (61, .int .i64 (IntKind.wrap .i64 ((l10 0).i))), (62, .pointer (some ⟨y4, 0, none⟩)), (63, .slice Aa0 na0 ca0), (64, .int .i64 x5), (65, .pointer (some ((l11 0).a))), (66, .int .u8 ((l12 0).i)), (67, .slice Aa0 na0 ca0), (68, .int .i64 x5), (69, .int .i64 (IntKind.wrap .i64 (x5 + 2))), (70, .int .i64 x5), (71, .int .i64 (IntKind.wrap .i64 (x5 + 2))), (72, .int .i64 (IntKind.wrap .i64 ((l10 0).i))), (73, .int .i64 (IntKind.wrap .i64 ((IntKind.wrap .i64 (x5 + 2)) + (IntKind.wrap .i64 ((l10 0).i))))), (74, .slice ((l13 0).A) ((l13 0).n) ((l13 0).c)), (75, .bool ((l14 0).b)), (76, .bool ((l14 0).b)), (77, .bool (!((l14 0).b))), (78, .int .i64 x5), (79, .int .i64 (IntKind.wrap .i64 (x5 + 2))), (80, .int .i64 (IntKind.wrap .i64 ((l10 0).i))), (81, .int .i64 (IntKind.wrap .i64 ((IntKind.wrap .i64 (x5 + 2)) + (IntKind.wrap .i64 ((l10 0).i))))), (82, (u 82)), (83, (u 83)), (84, (u 84)), (85, (u 85)), (86, (u 86)), (87, (u 87)), (88, (u 88)), (89, (u 89)), (90, (u 90)), (91, (u 91))]))))))))))))))
    (.rd (Instr.loadAt 22 (.pointer (some ⟨y4, 3, none⟩))) (.one (.sc (.sl))) fun l15 =>
     (.ite (decide (((((l15 0).n : Nat) : Int) : Int) > 40))
      (.done (.tuple #[.slice none 0 0, .int .i64 9]))
      (.rd (Instr.loadAt 22 (.pointer (some ⟨y4, 3, none⟩))) (.one (.sc (.sl))) fun l16 =>
       (.done (.tuple #[.slice ((l16 0).A) ((l16 0).n) ((l16 0).c), .int .i64 0])))))) h) : Wp Try.prog 17 k_octroiref06_Decode_1 (t_octroiref06_Decode_1 Aa0 na0 ca0 y4 x5 u) I h Q :=
  of_tree (cfg := g_octroiref06_Decode) 1000 (by kernel_rfl) Try.func17 rfl Try.checked.mixed hh
/-! ### octroiref06_Same: function 18 of Go -/
abbrev F_octroiref06_Same : FuncId := 18
noncomputable def c_octroiref06_Same : Code := (Try.f18.body).getD .skip
def p_octroiref06_Same : Nat → List (List Nat) := fun r => match r with | 6 => [[], [], [0, 1], [0, 1, 2], [], [], [4, 5], [4, 5, 6], [0, 1, 2, 3, 4, 5, 6, 7]] | _ => []
noncomputable def g_octroiref06_Same : Cfg := { sh := shs, fsh := fshs, results := [.tmp 4], hint := fun r i => match r, i with | 6, 8 => some (true, .one (.sc (.bool))) | _, _ => none, ord := fun r => match r with | 6 => some [0, 1, 2, 3, 4, 5, 6, 7, 8] | _ => none, pre := p_octroiref06_Same, un := unOf p_octroiref06_Same }
noncomputable def k_octroiref06_Same_1 : List Item := [.code (bd (bd (sr (sl (sr (sr c_octroiref06_Same)))))), .inLoop (bd (bd (sr (sl (sr (sr c_octroiref06_Same)))))), .inBlock 0, .code (sr (sr (sr c_octroiref06_Same)))]
noncomputable def t_octroiref06_Same_1 (Aa0 : Option Addr) (na0 : Nat) (ca0 : Nat) (Aa1 : Option Addr) (na1 : Nat) (ca1 : Nat) (x5 : Int) (u : Nat → Value) : List Value := [.slice Aa0 na0 ca0, .slice Aa1 na1 ca1, undef, undef, (u 4), .int .i64 x5, (u 6), (u 7), (u 8), (u 9), (u 10), (u 11), (u 12), (u 13), (u 14), (u 15), (u 16), (u 17), (u 18), (u 19), (u 20), (u 21), (u 22), (u 23), (u 24), (u 25)]
set_option maxRecDepth 100000 in
set_option maxHeartbeats 4000000 in
theorem r_octroiref06_Same (Aa0 : Option Addr) (na0 : Nat) (ca0 : Nat) (Aa1 : Option Addr) (na1 : Nat) (ca1 : Nat) {I : Ctx} {h : Mem} {Q : Value → Mem → Prop}
  (hh : holds Try.prog 18 I (cl_ Q)
   (.ite ((((na0 : Nat) : Int) : Int) != ((na1 : Nat) : Int))
    (.done (.bool false))
    (.stop k_octroiref06_Same_1 (t_octroiref06_Same_1 Aa0 na0 ca0 Aa1 na1 ca1 0 (jl [(4, .bool false), (6, .slice Aa0 na0 ca0), (7, .int .i64 ((na0 : Nat) : Int)), (8, .slice Aa1 na1 ca1), (9, .int .i64 ((na1 : Nat) : Int)), (10, .bool ((((na0 : Nat) : Int) : Int) != ((na1 : Nat) : Int))), (11, undef), (12, undef), (13, undef), (14, undef), (15, undef), (16, undef), (17, undef), (18, undef), (19, undef), (20, undef), (21, undef), (22, undef), (23, undef), (24, undef), (25, undef)])))) h) : Fn Try.prog 18 #[.slice Aa0 na0 ca0, .slice Aa1 na1 ca1] I h Q :=
  Wp.fn (args := [.slice Aa0 na0 ca0, .slice Aa1 na1 ca1]) Try.func18 rfl (by kernel_rfl) (of_tree (cfg := g_octroiref06_Same) 1000 (by kernel_rfl) Try.func18 rfl Try.checked.mixed hh)
theorem ca_octroiref06_Same : callable Try.prog 18 := ⟨_, Try.func18, by kernel_rfl, by kernel_rfl⟩
set_option maxRecDepth 100000 in
set_option maxHeartbeats 4000000 in
theorem r_octroiref06_Same_1 (Aa0 : Option Addr) (na0 : Nat) (ca0 : Nat) (Aa1 : Option Addr) (na1 : Nat) (ca1 : Nat) (x5 : Int) (u : Nat → Value) {I : Ctx} {h : Mem} {Q : Value → Mem → Prop}
  (hh : holds Try.prog 18 I Q
   (.ite (decide ((x5 : Int) < ((na0 : Nat) : Int)))
    (.rd (Instr.indexAt 22 (.slice Aa0 na0 ca0) (.int .i64 x5)) (.one (.sc (.padr))) fun l1 =>
     (.rd (Instr.loadAt 37 (.pointer (some ((l1 0).a)))) (.one (.agg [.int .i64, .int .u16, .int .i64, .int .i64, .int .u32, .int .i64, .int .u64, .int .u16, .int .i64])) fun l2 =>
      (.rd (Instr.indexAt 22 (.slice Aa1 na1 ca1) (.int .i64 x5)) (.one (.sc (.padr))) fun l3 =>
       (.rd (Instr.loadAt 37 (.pointer (some ((l3 0).a)))) (.one (.agg [.int .i64, .int .u16, .int .i64, .int .i64, .int .u32, .int .i64, .int .u64, .int .u16, .int .i64])) fun l4 =>
        (.rdn (eqN .neq 37 (.tmp 0) (.tmp 0) (.agg #[.int .i64 ((l2 0).i), .int .u16 ((l2 1).i), .int .i64 ((l2 2).i), .int .i64 ((l2 3).i), .int .u32 ((l2 4).i), .int .i64 ((l2 5).i), .int .u64 ((l2 6).i), .int .u16 ((l2 7).i), .int .i64 ((l2 8).i)]) (.agg #[.int .i64 ((l4 0).i), .int .u16 ((l4 1).i), .int .i64 ((l4 2).i), .int .i64 ((l4 3).i), .int .u32 ((l4 4).i), .int .i64 ((l4 5).i), .int .u64 ((l4 6).i), .int .u16 ((l4 7).i), .int .i64 ((l4 8).i)])) (.one (.sc (.bool))) fun l5 =>
         (.ite ((l5 0).b)
          (.done (.bool false))
          (.stop k_octroiref06_Same_1 (t_octroiref06_Same_1 Aa0 na0 ca0 Aa1 na1 ca1 (IntKind.wrap .i64 (x5 + 1)) (jl [(4, (u 4)), (6, (u 6)), (7, (u 7)), (8, (u 8)), (9, (u 9)), (10, (u 10)), (11, .int .i64 x5), (12, .slice Aa0 na0 ca0), (13, .int .i64 ((na0 : Nat) : Int)), (14, .bool (decide ((x5 : Int) < ((na0 : Nat) : Int)))), (15, .int .i64 x5), (16, .int .i64 (IntKind.wrap .i64 (x5 + 1))), (17, .slice Aa0 na0 ca0), (18, .int .i64 x5), (19, .pointer (some ((l1 0).a))), (20, .agg #[.int .i64 ((l2 0).i), .int .u16 ((l2 1).i), .int .i64 ((l2 2).i), .int .i64 ((l2 3).i), .int .u32 ((l2 4).i), .int .i64 ((l2 5).i), .int .u64 ((l2 6).i), .int .u16 ((l2 7).i), .int .i64 ((l2 8).i)]), (21, .slice Aa1 na1 ca1), (22, .int .i64 x5), (23, .pointer (some ((l3 0).a))), (24, .agg #[.int .i64 ((l4 0).i), .int .u16 ((l4 1).i), .int .i64 ((l4 2).i), .int .i64 ((l4 3).i), .int .u32 ((l4 4).i), .int .i64 ((l4 5).i), .int .u64 ((l4 6).i), .int .u16 ((l4 7).i), .int .i64 ((l4 8).i)]), (25, .bool ((l5 0).b))])))))))))
    (.done (.bool true))) h) : Wp Try.prog 18 k_octroiref06_Same_1 (t_octroiref06_Same_1 Aa0 na0 ca0 Aa1 na1 ca1 x5 u) I h Q :=
  of_tree (cfg := g_octroiref06_Same) 1000 (by kernel_rfl) Try.func18 rfl Try.checked.mixed hh
/-! ### babelpkt_Encode_fn1: function 19 of Go -/
abbrev F_babelpkt_Encode_fn1 : FuncId := 19
noncomputable def c_babelpkt_Encode_fn1 : Code := (Try.f19.body).getD .skip
noncomputable def g_babelpkt_Encode_fn1 : Cfg := { sh := shs, fsh := fshs, results := [.tmp 2], hint := fun _ _ => none, ord := fun _ => none, pre := fun _ => [], un := fun _ _ _ => false }
set_option maxRecDepth 100000 in
set_option maxHeartbeats 4000000 in
theorem r_babelpkt_Encode_fn1 (a0_0 : Int) (a0_1 : Int) (a0_2 : Int) (a0_3 : Int) (a0_4 : Int) (a0_5 : Int) (a0_6 : Int) (a0_7 : Int) (a0_8 : Int) {I : Ctx} {h : Mem} {Q : Value → Mem → Prop}
  (hh : holds Try.prog 19 I (cl_ Q)
   (.sem (Instr.box 37 (.agg #[.int .i64 a0_0, .int .u16 a0_1, .int .i64 a0_2, .int .i64 a0_3, .int .u32 a0_4, .int .i64 a0_5, .int .u64 a0_6, .int .u16 a0_7, .int .i64 a0_8])) shBlk fun l1 =>
    (.rd (Instr.loadAt 37 (.pointer (some ⟨(l1 0).n, 0, none⟩))) (.one (.agg [.int .i64, .int .u16, .int .i64, .int .i64, .int .u32, .int .i64, .int .u64, .int .u16, .int .i64])) fun l2 =>
     (.call 20 [.agg #[.int .i64 ((l2 0).i), .int .u16 ((l2 1).i), .int .i64 ((l2 2).i), .int .i64 ((l2 3).i), .int .u32 ((l2 4).i), .int .i64 ((l2 5).i), .int .u64 ((l2 6).i), .int .u16 ((l2 7).i), .int .i64 ((l2 8).i)]] (.one (.sc (.bool))) fun l3 => -- babelpkt_may
      (.done (.bool (!((l3 0).b))))))) h) : Fn Try.prog 19 #[.agg #[.int .i64 a0_0, .int .u16 a0_1, .int .i64 a0_2, .int .i64 a0_3, .int .u32 a0_4, .int .i64 a0_5, .int .u64 a0_6, .int .u16 a0_7, .int .i64 a0_8]] I h Q :=
  Wp.fn (args := [.agg #[.int .i64 a0_0, .int .u16 a0_1, .int .i64 a0_2, .int .i64 a0_3, .int .u32 a0_4, .int .i64 a0_5, .int .u64 a0_6, .int .u16 a0_7, .int .i64 a0_8]]) Try.func19 rfl (by kernel_rfl) (of_tree (cfg := g_babelpkt_Encode_fn1) 1000 (by kernel_rfl) Try.func19 rfl Try.checked.mixed hh)
theorem ca_babelpkt_Encode_fn1 : callable Try.prog 19 := ⟨_, Try.func19, by kernel_rfl, by kernel_rfl⟩
/-! ### babelpkt_may: function 20 of Go -/
abbrev F_babelpkt_may : FuncId := 20
noncomputable def c_babelpkt_may : Code := (Try.f20.body).getD .skip
def p_babelpkt_may : Nat → List (List Nat) := fun r => match r with | 1 => [[], [0], [0, 1], [0, 1, 2], [0, 1, 2, 3], [0, 1, 2, 3, 4], [0, 1, 2, 3, 4, 5], [0, 1, 2, 3, 4, 5, 6], [0, 1, 2, 3, 4, 5, 6, 7], [0, 1, 2, 3, 4, 5, 6, 7, 8], [0, 1, 2, 3, 4, 5, 6, 7, 8], [0, 1, 2, 3, 4, 5, 6, 7, 8, 10], [0, 1, 2, 3, 4, 5, 6, 7, 8, 9, 10, 11], [0, 1, 2, 3, 4, 5, 6, 7, 8, 9, 10, 11, 12], [0, 1, 2, 3, 4, 5, 6, 7, 8, 9, 10, 11, 12, 13], [0, 1, 2, 3, 4, 5, 6, 7, 8, 9, 10, 11, 12, 13, 14], [0, 1, 2, 3, 4, 5, 6, 7, 8, 9, 10, 11, 12, 13, 14, 15], [0, 1, 2, 3, 4, 5, 6, 7, 8, 9, 10, 11, 12, 13, 14, 15, 16], [0, 1, 2, 3, 4, 5, 6, 7, 8, 9, 10, 11, 12, 13, 14, 15, 16, 17], [0, 1, 2, 3, 4, 5, 6, 7, 8, 9, 10, 11, 12, 13, 14, 15, 16, 17, 18], [0, 1, 2, 3, 4, 5, 6, 7, 8, 9, 10, 11, 12, 13, 14, 15, 16, 17, 18, 19], [0, 1, 2, 3, 4, 5, 6, 7, 8, 9, 10, 11, 12, 13, 14, 15, 16, 17, 18, 19, 20], [0, 1, 2, 3, 4, 5, 6, 7, 8, 9, 10, 11, 12, 13, 14, 15, 16, 17, 18, 19, 20, 21], [0, 1, 2, 3, 4, 5, 6, 7, 8, 9, 10, 11, 12, 13, 14, 15, 16, 17, 18, 19, 20, 21, 22], [0, 1, 2, 3, 4, 5, 6, 7, 8, 9, 10, 11, 12, 13, 14, 15, 16, 17, 18, 19, 20, 21, 22, 23], [0, 1, 2, 3, 4, 5, 6, 7, 8, 9, 10, 11, 12, 13, 14, 15, 16, 17, 18, 19, 20, 21, 22, 23, 24], [0, 1, 2, 3, 4, 5, 6, 7, 8, 9, 10, 11, 12, 13, 14, 15, 16, 17, 18, 19, 20, 21, 22, 23, 24, 25], [0, 1, 2, 3, 4, 5, 6, 7, 8, 9, 10, 11, 12, 13, 14, 15, 16, 17, 18, 19, 20, 21, 22, 23, 24, 25, 26], [0, 1, 2, 3, 4, 5, 6, 7, 8, 9, 10, 11, 12, 13, 14, 15, 16, 17, 18, 19, 20, 21, 22, 23, 24, 25, 26, 27], [0, 1, 2, 3, 4, 5, 6, 7, 8, 9, 10, 11, 12, 13, 14, 15, 16, 17, 18, 19, 20, 21, 22, 23, 24, 25, 26, 27, 28], [0, 1, 2, 3, 4, 5, 6, 7, 8, 9, 10, 11, 12, 13, 14, 15, 16, 17, 18, 19, 20, 21, 22, 23, 24, 25, 26, 27, 28, 29], [0, 1, 2, 3, 4, 5, 6, 7, 8, 9, 10, 11, 12, 13, 14, 15, 16, 17, 18, 19, 20, 21, 22, 23, 24, 25, 26, 27, 28, 29, 30], [0, 1, 2, 3, 4, 5, 6, 7, 8, 9, 10, 11, 12, 13, 14, 15, 16, 17, 18, 19, 20, 21, 22, 23, 24, 25, 26, 27, 28, 29, 30, 31], [0, 1, 2, 3, 4, 5, 6, 7, 8, 9, 10, 11, 12, 13, 14, 15, 16, 17, 18, 19, 20, 21, 22, 23, 24, 25, 26, 27, 28, 29, 30, 31, 32], [0, 1, 2, 3, 4, 5, 6, 7, 8, 9, 10, 11, 12, 13, 14, 15, 16, 17, 18, 19, 20, 21, 22, 23, 24, 25, 26, 27, 28, 29, 30, 31, 32, 33], [0, 1, 2, 3, 4, 5, 6, 7, 8, 9, 10, 11, 12, 13, 14, 15, 16, 17, 18, 19, 20, 21, 22, 23, 24, 25, 26, 27, 28, 29, 30, 31, 32, 33, 34], [0, 1, 2, 3, 4, 5, 6, 7, 8, 9, 10, 11, 12, 13, 14, 15, 16, 17, 18, 19, 20, 21, 22, 23, 24, 25, 26, 27, 28, 29, 30, 31, 32, 33, 34, 35], [0, 1, 2, 3, 4, 5, 6, 7, 8, 9, 10, 11, 12, 13, 14, 15, 16, 17, 18, 19, 20, 21, 22, 23, 24, 25, 26, 27, 28, 29, 30, 31, 32, 33, 34, 35, 36], [0, 1, 2, 3, 4, 5, 6, 7, 8, 9, 10, 11, 12, 13, 14, 15, 16, 17, 18, 19, 20, 21, 22, 23, 24, 25, 26, 27, 28, 29, 30, 31, 32, 33, 34, 35, 36, 37], [0, 1, 2, 3, 4, 5, 6, 7, 8, 9, 10, 11, 12, 13, 14, 15, 16, 17, 18, 19, 20, 21, 22, 23, 24, 25, 26, 27, 28, 29, 30, 31, 32, 33, 34, 35, 36, 37, 38], [0, 1, 2, 3, 4, 5, 6, 7, 8, 9, 10, 11, 12, 13, 14, 15, 16, 17, 18, 19, 20, 21, 22, 23, 24, 25, 26, 27, 28, 29, 30, 31, 32, 33, 34, 35, 36, 37, 38, 39], [0, 1, 2, 3, 4, 5, 6, 7, 8, 9, 10, 11, 12, 13, 14, 15, 16, 17, 18, 19, 20, 21, 22, 23, 24, 25, 26, 27, 28, 29, 30, 31, 32, 33, 34, 35, 36, 37, 38, 39, 40], [0, 1, 2, 3, 4, 5, 6, 7, 8, 9, 10, 11, 12, 13, 14, 15, 16, 17, 18, 19, 20, 21, 22, 23, 24, 25, 26, 27, 28, 29, 30, 31, 32, 33, 34, 35, 36, 37, 38, 39, 40, 41], [0, 1, 2, 3, 4, 5, 6, 7, 8, 9, 10, 11, 12, 13, 14, 15, 16, 17, 18, 19, 20, 21, 22, 23, 24, 25, 26, 27, 28, 29, 30, 31, 32, 33, 34, 35, 36, 37, 38, 39, 40, 41, 42], [0, 1, 2, 3, 4, 5, 6, 7, 8, 9, 10, 11, 12, 13, 14, 15, 16, 17, 18, 19, 20, 21, 22, 23, 24, 25, 26, 27, 28, 29, 30, 31, 32, 33, 34, 35, 36, 37, 38, 39, 40, 41, 42, 43], [0, 1, 2, 3, 4, 5, 6, 7, 8, 9, 10, 11, 12, 13, 14, 15, 16, 17, 18, 19, 20, 21, 22, 23, 24, 25, 26, 27, 28, 29, 30, 31, 32, 33, 34, 35, 36, 37, 38, 39, 40, 41, 42, 43, 44], [0, 1, 2, 3, 4, 5, 6, 7, 8, 9, 10, 11, 12, 13, 14, 15, 16, 17, 18, 19, 20, 21, 22, 23, 24, 25, 26, 27, 28, 29, 30, 31, 32, 33, 34, 35, 36, 37, 38, 39, 40, 41, 42, 43, 44, 45], [0, 1, 2, 3, 4, 5, 6, 7, 8, 9, 10, 11, 12, 13, 14, 15, 16, 17, 18, 19, 20, 21, 22, 23, 24, 25, 26, 27, 28, 29, 30, 31, 32, 33, 34, 35, 36, 37, 38, 39, 40, 41, 42, 43, 44, 45, 46], [0, 1, 2, 3, 4, 5, 6, 7, 8, 9, 10, 11, 12, 13, 14, 15, 16, 17, 18, 19, 20, 21, 22, 23, 24, 25, 26, 27, 28, 29, 30, 31, 32, 33, 34, 35, 36, 37, 38, 39, 40, 41, 42, 43, 44, 45, 46, 47], [0, 1, 2, 3, 4, 5, 6, 7, 8, 9, 10, 11, 12, 13, 14, 15, 16, 17, 18, 19, 20, 21, 22, 23, 24, 25, 26, 27, 28, 29, 30, 31, 32, 33, 34, 35, 36, 37, 38, 39, 40, 41, 42, 43, 44, 45, 46, 47, 48]] | _ => []
noncomputable def g_babelpkt_may : Cfg := { sh := shs, fsh := fshs, results := [.tmp 2], hint := fun r i => match r, i with | 1, 12 => some (true, .one (.sc (.bool))) | _, _ => none, ord := fun r => match r with | 1 => some [0, 1, 2, 3, 4, 5, 6, 7, 8, 9, 10, 11, 12, 13, 14, 15, 16, 17, 18, 19, 20, 21, 22, 23, 24, 25, 26, 27, 28, 29, 30, 31, 32, 33, 34, 35, 36, 37, 38, 39, 40, 41, 42, 43, 44, 45, 46, 47, 48, 49] | _ => none, pre := p_babelpkt_may, un := unOf p_babelpkt_may }
set_option maxRecDepth 100000 in
set_option maxHeartbeats 4000000 in
theorem r_babelpkt_may (a0_0 : Int) (a0_1 : Int) (a0_2 : Int) (a0_3 : Int) (a0_4 : Int) (a0_5 : Int) (a0_6 : Int) (a0_7 : Int) (a0_8 : Int) {I : Ctx} {h : Mem} {Q : Value → Mem → Prop}
  (hh : holds Try.prog 20 I (cl_ Q)
   (.sem (Instr.box 37 (.agg #[.int .i64 a0_0, .int .u16 a0_1, .int .i64 a0_2, .int .i64 a0_3, .int .u32 a0_4, .int .i64 a0_5, .int .u64 a0_6, .int .u16 a0_7, .int .i64 a0_8])) shBlk fun l1 =>
    (.rd (Instr.loadAt 3 (.pointer (some ⟨(l1 0).n, 0, none⟩))) (.one (.sc (.int .i64))) fun l2 =>
     (.ite (decide (((l2 0).i : Int) ≥ 0))
      (.rd (Instr.loadAt 3 (.pointer (some ⟨(l1 0).n, 0, none⟩))) (.one (.sc (.int .i64))) fun l3 =>
       (.ite (decide (((l3 0).i : Int) ≤ 4))
        (.rd (Instr.loadAt 37 (.pointer (some ⟨(l1 0).n, 0, none⟩))) (.one (.agg [.int .i64, .int .u16, .int .i64, .int .i64, .int .u32, .int .i64, .int .u64, .int .u16, .int .i64])) fun l4 =>
         (.rd (Instr.loadAt 37 (.pointer (some ⟨(l1 0).n, 0, none⟩))) (.one (.agg [.int .i64, .int .u16, .int .i64, .int .i64, .int .u32, .int .i64, .int .u64, .int .u16, .int .i64])) fun l5 =>
          (.call 37 [.agg #[.int .i64 ((l5 0).i), .int .u16 ((l5 1).i), .int .i64 ((l5 2).i), .int .i64 ((l5 3).i), .int .u32 ((l5 4).i), .int .i64 ((l5 5).i), .int .u64 ((l5 6).i), .int .u16 ((l5 7).i), .int .i64 ((l5 8).i)]] (.one (.agg [.int .i64, .int .u16, .int .i64, .int .i64, .int .u32, .int .i64, .int .u64, .int .u16, .int .i64])) fun l6 => -- babelpkt_plain
           (.pin (vN (Instr.loadAt 37 (.pointer (some ⟨(l1 0).n, 0, none⟩)))) (.agg #[.int .i64 ((l4 0).i), .int .u16 ((l4 1).i), .int .i64 ((l4 2).i), .int .i64 ((l4 3).i), .int .u32 ((l4 4).i), .int .i64 ((l4 5).i), .int .u64 ((l4 6).i), .int .u16 ((l4 7).i), .int .i64 ((l4 8).i)])
            (.rdn (eqN .eql 37 (.tmp 0) (.tmp 0) (.agg #[.int .i64 ((l4 0).i), .int .u16 ((l4 1).i), .int .i64 ((l4 2).i), .int .i64 ((l4 3).i), .int .u32 ((l4 4).i), .int .i64 ((l4 5).i), .int .u64 ((l4 6).i), .int .u16 ((l4 7).i), .int .i64 ((l4 8).i)]) (.agg #[.int .i64 ((l6 0).i), .int .u16 ((l6 1).i), .int .i64 ((l6 2).i), .int .i64 ((l6 3).i), .int .u32 ((l6 4).i), .int .i64 ((l6 5).i), .int .u64 ((l6 6).i), .int .u16 ((l6 7).i), .int .i64 ((l6 8).i)])) (.one (.sc (.bool))) fun l7 =>
             (.ite ((l7 0).b)
              (.rd (Instr.loadAt 34 (.pointer (some ⟨(l1 0).n, 4, none⟩))) (.one (.agg [.int .u32, .int .i64])) fun l8 =>
               (.call 38 [.agg #[.int .u32 ((l8 0).i), .int .i64 ((l8 1).i)]] (.one (.sc (.bool))) fun l9 => -- prefix_May
                (.ite ((l9 0).b)
                 (.rd (Instr.loadAt 3 (.pointer (some ⟨(l1 0).n, 2, none⟩))) (.one (.sc (.int .i64))) fun l10 =>
                  (.ite (decide (((l10 0).i : Int) ≥ 0))
                   (.rd (Instr.loadAt 3 (.pointer (some ⟨(l1 0).n, 2, none⟩))) (.one (.sc (.int .i64))) fun l11 =>
                    (.ite (decide (((l11 0).i : Int) ≤ 65535))
                     (.rd (Instr.loadAt 3 (.pointer (some ⟨(l1 0).n, 3, none⟩))) (.one (.sc (.int .i64))) fun l12 =>
                      (.ite (decide (((l12 0).i : Int) ≥ 0))
                       (.rd (Instr.loadAt 3 (.pointer (some ⟨(l1 0).n, 3, none⟩))) (.one (.sc (.int .i64))) fun l13 =>
                        (.ite (decide (((l13 0).i : Int) ≤ 65535))
                         (.rd (Instr.loadAt 3 (.pointer (some ⟨(l1 0).n, 8, none⟩))) (.one (.sc (.int .i64))) fun l14 =>
                          (.ite (decide (((l14 0).i : Int) ≥ 0))
                           (.rd (Instr.loadAt 3 (.pointer (some ⟨(l1 0).n, 8, none⟩))) (.one (.sc (.int .i64))) fun l15 =>
                            (.done (.bool (decide (((l15 0).i : Int) ≤ 255)))))
                           (.done (.bool false))))
                         (.done (.bool false))))
                       (.done (.bool false))))
                     (.done (.bool false))))
                   (.done (.bool false))))
                 (.done (.bool false)))))
              (.done (.bool false))))))))
        (.done (.bool false))))
      (.done (.bool false))))) h) : Fn Try.prog 20 #[.agg #[.int .i64 a0_0, .int .u16 a0_1, .int .i64 a0_2, .int .i64 a0_3, .int .u32 a0_4, .int .i64 a0_5, .int .u64 a0_6, .int .u16 a0_7, .int .i64 a0_8]] I h Q :=
  Wp.fn (args := [.agg #[.int .i64 a0_0, .int .u16 a0_1, .int .i64 a0_2, .int .i64 a0_3, .int .u32 a0_4, .int .i64 a0_5, .int .u64 a0_6, .int .u16 a0_7, .int .i64 a0_8]]) Try.func20 rfl (by kernel_rfl) (of_tree (cfg := g_babelpkt_may) 1000 (by kernel_rfl) Try.func20 rfl Try.checked.mixed hh)
theorem ca_babelpkt_may : callable Try.prog 20 := ⟨_, Try.func20, by kernel_rfl, by kernel_rfl⟩
/-! ### slices_ContainsFunc_BabelTlv: function 21 of Go -/
abbrev F_slices_ContainsFunc_BabelTlv : FuncId := 21
noncomputable def c_slices_ContainsFunc_BabelTlv : Code := (Try.f21.body).getD .skip
noncomputable def g_slices_ContainsFunc_BabelTlv : Cfg := { sh := shs, fsh := fshs, results := [.tmp 4], hint := fun _ _ => none, ord := fun _ => none, pre := fun _ => [], un := fun _ _ _ => false }
set_option maxRecDepth 100000 in
set_option maxHeartbeats 4000000 in
theorem r_slices_ContainsFunc_BabelTlv (Aa0 : Option Addr) (na0 : Nat) (ca0 : Nat) {I : Ctx} {h : Mem} {Q : Value → Mem → Prop}
  (hh : holds Try.prog 21 I (cl_ Q)
   (.call 39 [.slice Aa0 na0 ca0, .func (.func 19) #[] #[]] (.one (.sc (.int .i64))) fun l1 => -- slices_IndexFunc_BabelTlv
    (.done (.bool (decide (((l1 0).i : Int) ≥ 0))))) h) : Fn Try.prog 21 #[.slice Aa0 na0 ca0, .func (.func 19) #[] #[]] I h Q :=
  Wp.fn (args := [.slice Aa0 na0 ca0, .func (.func 19) #[] #[]]) Try.func21 rfl (by kernel_rfl) (of_tree (cfg := g_slices_ContainsFunc_BabelTlv) 1000 (by kernel_rfl) Try.func21 rfl Try.checked.mixed hh)
theorem ca_slices_ContainsFunc_BabelTlv : callable Try.prog 21 := ⟨_, Try.func21, by kernel_rfl, by kernel_rfl⟩
/-! ### babelpkt_writer_part: function 22 of Go -/
abbrev F_babelpkt_writer_part : FuncId := 22
noncomputable def c_babelpkt_writer_part : Code := (Try.f22.body).getD .skip
def p_babelpkt_writer_part : Nat → List (List Nat) := fun r => match r with | 4 => [[], [], [1], [1, 2], [], [4], [1, 2, 3, 4, 5], [0, 1, 2, 3, 4, 5, 6], [0, 1, 2, 3, 4, 5, 6, 7], [0, 1, 2, 3, 4, 5, 6, 7, 8]] | 6 => [[], [], [1], [1, 2], [], [4], [1, 2, 3, 4, 5], [0, 1, 2, 3, 4, 5, 6], [0, 1, 2, 3, 4, 5, 6, 7], [0, 1, 2, 3, 4, 5, 6, 7, 8]] | 10 => [[], [0], [0, 1], [0, 1, 2], [0, 1, 2, 3], [], [5], [5, 6], [0, 1, 2, 3, 4, 5, 6, 7], [0, 1, 2, 3, 4, 5, 6, 7, 8], [0, 1, 2, 3, 4, 5, 6, 7, 8, 9]] | 12 => [[], [0], [0, 1], [0, 1, 2], [0, 1, 2, 3], [], [5], [5, 6], [], [8], [8, 9], [8, 9, 10], [], [12], [5, 6, 7, 12, 13], [], [15], [5, 6, 7, 12, 13, 14, 15, 16], [0, 1, 2, 3, 4, 5, 6, 7, 8, 9, 10, 11, 12, 13, 14, 15, 16, 17], [0, 1, 2, 3, 4, 5, 6, 7, 8, 9, 10, 11, 12, 13, 14, 15, 16, 17, 18], [0, 1, 2, 3, 4, 5, 6, 7, 8, 9, 10, 11, 12, 13, 14, 15, 16, 17, 18, 19]] | _ => []
noncomputable def g_babelpkt_writer_part : Cfg := { sh := shs, fsh := fshs, results := [], hint := fun _ _ => none, ord := fun r => match r with | 4 => some [1, 2, 4, 5, 3, 6, 0, 7, 8, 9] | 6 => some [1, 2, 4, 5, 3, 6, 0, 7, 8, 9] | 10 => some [0, 1, 2, 3, 5, 6, 7, 4, 8, 9, 10] | 12 => some [0, 1, 2, 3, 5, 6, 8, 9, 10, 12, 13, 15, 16, 7, 14, 17, 4, 11, 18, 19, 20] | _ => none, pre := p_babelpkt_writer_part, un := unOf p_babelpkt_writer_part }
set_option maxRecDepth 100000 in
set_option maxHeartbeats 4000000 in
theorem r_babelpkt_writer_part (a0 : Addr) (a1_0 : Int) (a1_1 : Int) (a1_2 : Int) (a1_3 : Int) (a1_4 : Int) (a1_5 : Int) (a1_6 : Int) (a1_7 : Int) (a1_8 : Int) {I : Ctx} {h : Mem} {Q : Value → Mem → Prop}
  (hh : holds Try.prog 22 I (cl_ Q)
   (.sem (Instr.box 37 (.agg #[.int .i64 a1_0, .int .u16 a1_1, .int .i64 a1_2, .int .i64 a1_3, .int .u32 a1_4, .int .i64 a1_5, .int .u64 a1_6, .int .u16 a1_7, .int .i64 a1_8])) shBlk fun l1 =>
    (.rd (Instr.loadAt 3 (.pointer (some ⟨(l1 0).n, 0, none⟩))) (.one (.sc (.int .i64))) fun l2 =>
     (.ite (((l2 0).i : Int) == 0)
      (.rd (Instr.loadAt 32 (.pointer (some ⟨(l1 0).n, 1, none⟩))) (.one (.sc (.int .u16))) fun l3 =>
       (.rd (Instr.loadAt 3 (.pointer (some ⟨(l1 0).n, 2, none⟩))) (.one (.sc (.int .i64))) fun l4 =>
        (.call 41 [.int .u16 ((l3 0).i)] (.one (.sc (.sl))) fun l5 => -- num_Put16
         (.pin (vN (Instr.loadAt 3 (.pointer (some ⟨(l1 0).n, 2, none⟩)))) (.int .i64 ((l4 0).i))
          (.call 24 [.int .i64 ((l4 0).i)] (.one (.sc (.sl))) fun l6 => -- babelpkt_two
           (.sem (Instr.buildSlice 25 2 #[(0, .int .u8 0), (1, .int .u8 0)]) (.one (.sc (.row 2))) fun l7 =>
            (.sem (Instr.buildSlice 73 3 #[(0, .slice (some ⟨(l7 0).n, 0, none⟩) 2 2), (1, .slice ((l5 0).A) ((l5 0).n) ((l5 0).c)), (2, .slice ((l6 0).A) ((l6 0).n) ((l6 0).c))]) (.one (.sc (.row 3))) fun l8 =>
             (.call 40 [.int .u8 4, .slice (some ⟨(l8 0).n, 0, none⟩) 3 3] (.one (.sc (.sl))) fun l9 => -- babelpkt_tlv
              (.rd (Instr.loadAt 25 (.pointer (some a0))) (.one (.sc (.sl))) fun l10 =>
               (.nx (builtin .append #[25, 25] 25 #[false, false] #[.slice ((l10 0).A) ((l10 0).n) ((l10 0).c), .slice ((l9 0).A) ((l9 0).n) ((l9 0).c)]) (.one (.sc (.sl))) fun l11 =>
                (.unit (Instr.storeAt 25 (.pointer (some a0)) (.slice ((l11 0).A) ((l11 0).n) ((l11 0).c)))
                 (.done (undef)))))))))))))
      (.ite (((l2 0).i : Int) == 1)
       (.rd (Instr.loadAt 3 (.pointer (some ⟨(l1 0).n, 3, none⟩))) (.one (.sc (.int .i64))) fun l12 =>
        (.rd (Instr.loadAt 3 (.pointer (some ⟨(l1 0).n, 2, none⟩))) (.one (.sc (.int .i64))) fun l13 =>
         (.call 24 [.int .i64 ((l12 0).i)] (.one (.sc (.sl))) fun l14 => -- babelpkt_two
          (.pin (vN (Instr.loadAt 3 (.pointer (some ⟨(l1 0).n, 2, none⟩)))) (.int .i64 ((l13 0).i))
           (.call 24 [.int .i64 ((l13 0).i)] (.one (.sc (.sl))) fun l15 => -- babelpkt_two
            (.sem (Instr.buildSlice 25 2 #[(0, .int .u8 0), (1, .int .u8 0)]) (.one (.sc (.row 2))) fun l16 =>
             (.sem (Instr.buildSlice 73 3 #[(0, .slice (some ⟨(l16 0).n, 0, none⟩) 2 2), (1, .slice ((l14 0).A) ((l14 0).n) ((l14 0).c)), (2, .slice ((l15 0).A) ((l15 0).n) ((l15 0).c))]) (.one (.sc (.row 3))) fun l17 =>
              (.call 40 [.int .u8 5, .slice (some ⟨(l17 0).n, 0, none⟩) 3 3] (.one (.sc (.sl))) fun l18 => -- babelpkt_tlv
               (.rd (Instr.loadAt 25 (.pointer (some a0))) (.one (.sc (.sl))) fun l19 =>
                (.nx (builtin .append #[25, 25] 25 #[false, false] #[.slice ((l19 0).A) ((l19 0).n) ((l19 0).c), .slice ((l18 0).A) ((l18 0).n) ((l18 0).c)]) (.one (.sc (.sl))) fun l20 =>
                 (.unit (Instr.storeAt 25 (.pointer (some a0)) (.slice ((l20 0).A) ((l20 0).n) ((l20 0).c)))
                  (.done (undef)))))))))))))
       (.ite (((l2 0).i : Int) == 2)
        (.rd (Instr.loadAt 37 (.pointer (some ⟨(l1 0).n, 0, none⟩))) (.one (.agg [.int .i64, .int .u16, .int .i64, .int .i64, .int .u32, .int .i64, .int .u64, .int .u16, .int .i64])) fun l21 =>
         (.call 42 [.pointer (some a0), .agg #[.int .i64 ((l21 0).i), .int .u16 ((l21 1).i), .int .i64 ((l21 2).i), .int .i64 ((l21 3).i), .int .u32 ((l21 4).i), .int .i64 ((l21 5).i), .int .u64 ((l21 6).i), .int .u16 ((l21 7).i), .int .i64 ((l21 8).i)]] (.tup []) fun l22 => -- babelpkt_writer_update
          (.rd (Instr.loadAt 25 (.pointer (some a0))) (.one (.sc (.sl))) fun l23 =>
           (.nx (builtin .append #[25, 25] 25 #[false, false] #[.slice ((l23 0).A) ((l23 0).n) ((l23 0).c), .slice none 0 0]) (.one (.sc (.sl))) fun l24 =>
            (.unit (Instr.storeAt 25 (.pointer (some a0)) (.slice ((l24 0).A) ((l24 0).n) ((l24 0).c)))
             (.done (undef)))))))
        (.ite (((l2 0).i : Int) == 3)
         (.rd (Instr.loadAt 3 (.pointer (some ⟨(l1 0).n, 5, none⟩))) (.one (.sc (.int .i64))) fun l25 =>
          (.rd (Instr.loadAt 34 (.pointer (some ⟨(l1 0).n, 4, none⟩))) (.one (.agg [.int .u32, .int .i64])) fun l26 =>
           (.call 43 [.agg #[.int .u32 ((l26 0).i), .int .i64 ((l26 1).i)]] (.one (.sc (.sl))) fun l27 => -- babelpkt_addr
            (.pin (vN (Instr.loadAt 3 (.pointer (some ⟨(l1 0).n, 5, none⟩)))) (.int .i64 ((l25 0).i))
             (.sem (Instr.buildSlice 25 2 #[(0, .int .u8 1), (1, .int .u8 (IntKind.wrap .u8 ((l25 0).i)))]) (.one (.sc (.row 2))) fun l28 =>
              (.sem (Instr.buildSlice 73 2 #[(0, .slice (some ⟨(l28 0).n, 0, none⟩) 2 2), (1, .slice ((l27 0).A) ((l27 0).n) ((l27 0).c))]) (.one (.sc (.row 2))) fun l29 =>
               (.call 40 [.int .u8 9, .slice (some ⟨(l29 0).n, 0, none⟩) 2 2] (.one (.sc (.sl))) fun l30 => -- babelpkt_tlv
                (.rd (Instr.loadAt 25 (.pointer (some a0))) (.one (.sc (.sl))) fun l31 =>
                 (.nx (builtin .append #[25, 25] 25 #[false, false] #[.slice ((l31 0).A) ((l31 0).n) ((l31 0).c), .slice ((l30 0).A) ((l30 0).n) ((l30 0).c)]) (.one (.sc (.sl))) fun l32 =>
                  (.unit (Instr.storeAt 25 (.pointer (some a0)) (.slice ((l32 0).A) ((l32 0).n) ((l32 0).c)))
                   (.done (undef))))))))))))
         (.ite (((l2 0).i : Int) == 4)
          (.rd (Instr.loadAt 3 (.pointer (some ⟨(l1 0).n, 5, none⟩))) (.one (.sc (.int .i64))) fun l33 =>
           (.rd (Instr.loadAt 32 (.pointer (some ⟨(l1 0).n, 1, none⟩))) (.one (.sc (.int .u16))) fun l34 =>
            (.rd (Instr.loadAt 3 (.pointer (some ⟨(l1 0).n, 8, none⟩))) (.one (.sc (.int .i64))) fun l35 =>
             (.rd (Instr.loadAt 35 (.pointer (some ⟨(l1 0).n, 6, none⟩))) (.one (.sc (.int .u64))) fun l36 =>
              (.rd (Instr.loadAt 34 (.pointer (some ⟨(l1 0).n, 4, none⟩))) (.one (.agg [.int .u32, .int .i64])) fun l37 =>
               (.call 41 [.int .u16 ((l34 0).i)] (.one (.sc (.sl))) fun l38 => -- num_Put16
                (.pin (vN (Instr.loadAt 34 (.pointer (some ⟨(l1 0).n, 4, none⟩)))) (.agg #[.int .u32 ((l37 0).i), .int .i64 ((l37 1).i)])
                 (.pin (vN (Instr.loadAt 35 (.pointer (some ⟨(l1 0).n, 6, none⟩)))) (.int .u64 ((l36 0).i))
                  (.pin (vN (Instr.loadAt 3 (.pointer (some ⟨(l1 0).n, 8, none⟩)))) (.int .i64 ((l35 0).i))
                   (.pin (vN (Instr.loadAt 3 (.pointer (some ⟨(l1 0).n, 5, none⟩)))) (.int .i64 ((l33 0).i))
                    (.call 44 [.int .u64 ((l36 0).i)] (.one (.sc (.sl))) fun l39 => -- babelpkt_long
                     (.pin (vN (Instr.loadAt 34 (.pointer (some ⟨(l1 0).n, 4, none⟩)))) (.agg #[.int .u32 ((l37 0).i), .int .i64 ((l37 1).i)])
                      (.pin (vN (Instr.loadAt 3 (.pointer (some ⟨(l1 0).n, 8, none⟩)))) (.int .i64 ((l35 0).i))
                       (.pin (vN (Instr.loadAt 3 (.pointer (some ⟨(l1 0).n, 5, none⟩)))) (.int .i64 ((l33 0).i))
                        (.call 43 [.agg #[.int .u32 ((l37 0).i), .int .i64 ((l37 1).i)]] (.one (.sc (.sl))) fun l40 => -- babelpkt_addr
                         (.pin (vN (Instr.loadAt 3 (.pointer (some ⟨(l1 0).n, 8, none⟩)))) (.int .i64 ((l35 0).i))
                          (.pin (vN (Instr.loadAt 3 (.pointer (some ⟨(l1 0).n, 5, none⟩)))) (.int .i64 ((l33 0).i))
                           (.sem (Instr.buildSlice 25 2 #[(0, .int .u8 1), (1, .int .u8 (IntKind.wrap .u8 ((l33 0).i)))]) (.one (.sc (.row 2))) fun l41 =>
                            (.sem (Instr.buildSlice 25 2 #[(0, .int .u8 (IntKind.wrap .u8 ((l35 0).i))), (1, .int .u8 0)]) (.one (.sc (.row 2))) fun l42 =>
                             (.sem (Instr.buildSlice 73 5 #[(0, .slice (some ⟨(l41 0).n, 0, none⟩) 2 2), (1, .slice ((l38 0).A) ((l38 0).n) ((l38 0).c)), (2, .slice (some ⟨(l42 0).n, 0, none⟩) 2 2), (3, .slice ((l39 0).A) ((l39 0).n) ((l39 0).c)), (4, .slice ((l40 0).A) ((l40 0).n) ((l40 0).c))]) (.one (.sc (.row 5))) fun l43 =>
                              (.call 40 [.int .u8 10, .slice (some ⟨(l43 0).n, 0, none⟩) 5 5] (.one (.sc (.sl))) fun l44 => -- babelpkt_tlv
                               (.rd (Instr.loadAt 25 (.pointer (some a0))) (.one (.sc (.sl))) fun l45 =>
                                (.nx (builtin .append #[25, 25] 25 #[false, false] #[.slice ((l45 0).A) ((l45 0).n) ((l45 0).c), .slice ((l44 0).A) ((l44 0).n) ((l44 0).c)]) (.one (.sc (.sl))) fun l46 =>
                                 (.unit (Instr.storeAt 25 (.pointer (some a0)) (.slice ((l46 0).A) ((l46 0).n) ((l46 0).c)))
                                  (.done (undef))))))))))))))))))))))))))
          (.rd (Instr.loadAt 25 (.pointer (some a0))) (.one (.sc (.sl))) fun l47 =>
           (.nx (builtin .append #[25, 25] 25 #[false, false] #[.slice ((l47 0).A) ((l47 0).n) ((l47 0).c), .slice none 0 0]) (.one (.sc (.sl))) fun l48 =>
            (.unit (Instr.storeAt 25 (.pointer (some a0)) (.slice ((l48 0).A) ((l48 0).n) ((l48 0).c)))
             (.done (undef)))))))))))) h) : Fn Try.prog 22 #[.pointer (some a0), .agg #[.int .i64 a1_0, .int .u16 a1_1, .int .i64 a1_2, .int .i64 a1_3, .int .u32 a1_4, .int .i64 a1_5, .int .u64 a1_6, .int .u16 a1_7, .int .i64 a1_8]] I h Q :=
  Wp.fn (args := [.pointer (some a0), .agg #[.int .i64 a1_0, .int .u16 a1_1, .int .i64 a1_2, .int .i64 a1_3, .int .u32 a1_4, .int .i64 a1_5, .int .u64 a1_6, .int .u16 a1_7, .int .i64 a1_8]]) Try.func22 rfl (by kernel_rfl) (of_tree (cfg := g_babelpkt_writer_part) 1000 (by kernel_rfl) Try.func22 rfl Try.checked.mixed hh)
theorem ca_babelpkt_writer_part : callable Try.prog 22 := ⟨_, Try.func22, by kernel_rfl, by kernel_rfl⟩
/-! ### slices_Concat_byte: function 23 of Go -/
abbrev F_slices_Concat_byte : FuncId := 23
noncomputable def c_slices_Concat_byte : Code := (Try.f23.body).getD .skip
noncomputable def g_slices_Concat_byte : Cfg := { sh := shs, fsh := fshs, results := [.tmp 2], hint := fun _ _ => none, ord := fun _ => none, pre := fun _ => [], un := fun _ _ _ => false }
noncomputable def k_slices_Concat_byte_1 : List Item := [.code (bd (bd (sr (sl (sr (sr c_slices_Concat_byte)))))), .inLoop (bd (bd (sr (sl (sr (sr c_slices_Concat_byte)))))), .inBlock 0, .code (sr (sr (sr c_slices_Concat_byte)))]
noncomputable def t_slices_Concat_byte_1 (Aa0 : Option Addr) (na0 : Nat) (ca0 : Nat) (x3 : Int) (x11 : Int) (u : Nat → Value) : List Value := [.slice Aa0 na0 ca0, undef, (u 2), .int .i64 x3, undef, (u 5), (u 6), undef, (u 8), .slice Aa0 na0 ca0, .int .i64 ((na0 : Nat) : Int), .int .i64 x11, (u 12), (u 13), (u 14), (u 15), (u 16), (u 17), (u 18), (u 19), (u 20), (u 21), (u 22), (u 23), (u 24), (u 25), (u 26), (u 27), (u 28), (u 29), (u 30), (u 31), (u 32), (u 33), (u 34), (u 35)]
noncomputable def k_slices_Concat_byte_2 : List Item := [.code (bd (bd (sr (sl (sr (sr (sr (sr c_slices_Concat_byte)))))))), .inLoop (bd (bd (sr (sl (sr (sr (sr (sr c_slices_Concat_byte)))))))), .inBlock 2, .code (sr (sr (sr (sr (sr c_slices_Concat_byte)))))]
noncomputable def t_slices_Concat_byte_2 (Aa0 : Option Addr) (na0 : Nat) (ca0 : Nat) (A6 : Option Addr) (n6 : Nat) (c6 : Nat) (x27 : Int) (u : Nat → Value) : List Value := [(u 0), undef, (u 2), (u 3), undef, (u 5), .slice A6 n6 c6, undef, (u 8), (u 9), (u 10), (u 11), (u 12), (u 13), (u 14), (u 15), (u 16), (u 17), (u 18), (u 19), (u 20), (u 21), (u 22), (u 23), (u 24), .slice Aa0 na0 ca0, .int .i64 ((na0 : Nat) : Int), .int .i64 x27, (u 28), (u 29), (u 30), (u 31), (u 32), (u 33), (u 34), (u 35)]
set_option maxRecDepth 100000 in
set_option maxHeartbeats 4000000 in
theorem r_slices_Concat_byte (Aa0 : Option Addr) (na0 : Nat) (ca0 : Nat) {I : Ctx} {h : Mem} {Q : Value → Mem → Prop}
  (hh : holds Try.prog 23 I (cl_ Q)
   (.stop k_slices_Concat_byte_1 (t_slices_Concat_byte_1 Aa0 na0 ca0 0 0 (jl [(2, .slice none 0 0), (5, undef), (6, undef), (8, undef), (12, undef), (13, undef), (14, undef), (15, undef), (16, undef), (17, undef), (18, undef), (19, undef), (20, undef), (21, undef), (22, undef), (23, undef), (24, undef), (25, undef), (26, undef), (27, undef), (28, undef), (29, undef), (30, undef), (31, undef), (32, undef), (33, undef), (34, undef), (35, undef)]))) h) : Fn Try.prog 23 #[.slice Aa0 na0 ca0] I h Q :=
  Wp.fn (args := [.slice Aa0 na0 ca0]) Try.func23 rfl (by kernel_rfl) (of_tree (cfg := g_slices_Concat_byte) 1000 (by kernel_rfl) Try.func23 rfl Try.checked.mixed hh)
theorem ca_slices_Concat_byte : callable Try.prog 23 := ⟨_, Try.func23, by kernel_rfl, by kernel_rfl⟩
set_option maxRecDepth 100000 in
set_option maxHeartbeats 4000000 in
theorem r_slices_Concat_byte_1 (Aa0 : Option Addr) (na0 : Nat) (ca0 : Nat) (x3 : Int) (x11 : Int) (u : Nat → Value) {I : Ctx} {h : Mem} {Q : Value → Mem → Prop}
  (hh : holds Try.prog 23 I Q
   (.ite (decide ((x11 : Int) < ((na0 : Nat) : Int)))
    (.rd (Instr.indexAt 73 (.slice Aa0 na0 ca0) (.int .i64 x11)) (.one (.sc (.padr))) fun l1 =>
     (.rd (Instr.loadAt 25 (.pointer (some ((l1 0).a)))) (.one (.sc (.sl))) fun l2 =>
      (.ite (decide ((IntKind.wrap .i64 (x3 + (((l2 0).n : Nat) : Int)) : Int) < 0))
       (.stuck)
       (.stop k_slices_Concat_byte_1 (t_slices_Concat_byte_1 Aa0 na0 ca0 (IntKind.wrap .i64 (x3 + (((l2 0).n : Nat) : Int))) (IntKind.wrap .i64 (x11 + 1)) (jl [(2, (u 2)), (5, .slice ((l2 0).A) ((l2 0).n) ((l2 0).c)), (6, (u 6)), (8, (u 8)), (12, .bool (decide ((x11 : Int) < ((na0 : Nat) : Int)))), (13, .pointer (some ((l1 0).a))), (14, .slice ((l2 0).A) ((l2 0).n) ((l2 0).c)), (15, .int .i64 x3), (16, .slice ((l2 0).A) ((l2 0).n) ((l2 0).c)), (17, .int .i64 (((l2 0).n : Nat) : Int)), (18, .int .i64 (IntKind.wrap .i64 (x3 + (((l2 0).n : Nat) : Int)))), (19, .int .i64 (IntKind.wrap .i64 (x3 + (((l2 0).n : Nat) : Int)))), (20, .bool (decide ((IntKind.wrap .i64 (x3 + (((l2 0).n : Nat) : Int)) : Int) < 0))), (21, (u 21)), (22, .int .i64 (IntKind.wrap .i64 (x11 + 1))), (23, (u 23)), (24, (u 24)), (25, (u 25)), (26, (u 26)), (27, (u 27)), (28, (u 28)), (29, (u 29)), (30, (u 30)), (31, (u 31)), (32, (u 32)), (33, (u 33)), (34, (u 34)), (35, (u 35))]))))))
    (.call 45 [.slice none 0 0, .int .i64 x3] (.one (.sc (.sl))) fun l3 => -- slices_Grow_byte
     (.stop k_slices_Concat_byte_2 (t_slices_Concat_byte_2 Aa0 na0 ca0 ((l3 0).A) ((l3 0).n) ((l3 0).c) 0 (jl [(0, .slice Aa0 na0 ca0), (2, (u 2)), (3, .int .i64 x3), (5, (u 5)), (8, (u 8)), (9, .slice Aa0 na0 ca0), (10, .int .i64 ((na0 : Nat) : Int)), (11, .int .i64 x11), (12, .bool (decide ((x11 : Int) < ((na0 : Nat) : Int)))), (13, (u 13)), (14, (u 14)), (15, (u 15)), (16, (u 16)), (17, (u 17)), (18, (u 18)), (19, (u 19)), (20, (u 20)), (21, (u 21)), (22, (u 22)), (23, .int .i64 x3), (24, .slice ((l3 0).A) ((l3 0).n) ((l3 0).c)), (28, (u 28)), (29, (u 29)), (30, (u 30)), (31, (u 31)), (32, (u 32)), (33, (u 33)), (34, (u 34)), (35, (u 35))]))))) h) : Wp Try.prog 23 k_slices_Concat_byte_1 (t_slices_Concat_byte_1 Aa0 na0 ca0 x3 x11 u) I h Q :=
  of_tree (cfg := g_slices_Concat_byte) 1000 (by kernel_rfl) Try.func23 rfl Try.checked.mixed hh
set_option maxRecDepth 100000 in
set_option maxHeartbeats 4000000 in
theorem r_slices_Concat_byte_2 (Aa0 : Option Addr) (na0 : Nat) (ca0 : Nat) (A6 : Option Addr) (n6 : Nat) (c6 : Nat) (x27 : Int) (u : Nat → Value) {I : Ctx} {h : Mem} {Q : Value → Mem → Prop}
  (hh : holds Try.prog 23 I Q
   (.ite (decide ((x27 : Int) < ((na0 : Nat) : Int)))
    (.rd (Instr.indexAt 73 (.slice Aa0 na0 ca0) (.int .i64 x27)) (.one (.sc (.padr))) fun l4 =>
     (.rd (Instr.loadAt 25 (.pointer (some ((l4 0).a)))) (.one (.sc (.sl))) fun l5 =>
      (.nx (builtin .append #[25, 25] 25 #[false, false] #[.slice A6 n6 c6, .slice ((l5 0).A) ((l5 0).n) ((l5 0).c)]) (.one (.sc (.sl))) fun l6 =>
       (.stop k_slices_Concat_byte_2 (t_slices_Concat_byte_2 Aa0 na0 ca0 ((l6 0).A) ((l6 0).n) ((l6 0).c) (IntKind.wrap .i64 (x27 + 1)) (jl [(0, (u 0)), (2, (u 2)), (3, (u 3)), (5, (u 5)), (8, .slice ((l5 0).A) ((l5 0).n) ((l5 0).c)), (9, (u 9)), (10, (u 10)), (11, (u 11)), (12, (u 12)), (13, (u 13)), (14, (u 14)), (15, (u 15)), (16, (u 16)), (17, (u 17)), (18, (u 18)), (19, (u 19)), (20, (u 20)), (21, (u 21)), (22, (u 22)), (23, (u 23)), (24, (u 24)), (28, .bool (decide ((x27 : Int) < ((na0 : Nat) : Int)))), (29, .pointer (some ((l4 0).a))), (30, .slice ((l5 0).A) ((l5 0).n) ((l5 0).c)), (31, .slice A6 n6 c6), (32, .slice ((l5 0).A) ((l5 0).n) ((l5 0).c)), (33, .slice ((l6 0).A) ((l6 0).n) ((l6 0).c)), (34, .int .i64 (IntKind.wrap .i64 (x27 + 1))), (35, (u 35))]))))))
    (.done (.slice A6 n6 c6))) h) : Wp Try.prog 23 k_slices_Concat_byte_2 (t_slices_Concat_byte_2 Aa0 na0 ca0 A6 n6 c6 x27 u) I h Q :=
  of_tree (cfg := g_slices_Concat_byte) 1000 (by kernel_rfl) Try.func23 rfl Try.checked.mixed hh
/-! ### babelpkt_two: function 24 of Go -/
abbrev F_babelpkt_two : FuncId := 24
noncomputable def c_babelpkt_two : Code := (Try.f24.body).getD .skip
noncomputable def g_babelpkt_two : Cfg := { sh := shs, fsh := fshs, results := [.tmp 2], hint := fun _ _ => none, ord := fun _ => none, pre := fun _ => [], un := fun _ _ _ => false }
set_option maxRecDepth 100000 in
set_option maxHeartbeats 4000000 in
theorem r_babelpkt_two (a0 : Int) {I : Ctx} {h : Mem} {Q : Value → Mem → Prop}
  (hh : holds Try.prog 24 I (cl_ Q)
   (.call 41 [.int .u16 (IntKind.wrap .u16 a0)] (.one (.sc (.sl))) fun l1 => -- num_Put16
    (.done (.slice ((l1 0).A) ((l1 0).n) ((l1 0).c)))) h) : Fn Try.prog 24 #[.int .i64 a0] I h Q :=
  Wp.fn (args := [.int .i64 a0]) Try.func24 rfl (by kernel_rfl) (of_tree (cfg := g_babelpkt_two) 1000 (by kernel_rfl) Try.func24 rfl Try.checked.mixed hh)
theorem ca_babelpkt_two : callable Try.prog 24 := ⟨_, Try.func24, by kernel_rfl, by kernel_rfl⟩
/-! ### octroiref06_May: function 25 of Go -/
abbrev F_octroiref06_May : FuncId := 25
noncomputable def c_octroiref06_May : Code := (Try.f25.body).getD .skip
noncomputable def g_octroiref06_May : Cfg := { sh := shs, fsh := fshs, results := [.tmp 2], hint := fun r i => match r, i with | 7, 12 => some (true, .one (.sc (.bool))) | 9, 12 => some (true, .one (.sc (.bool))) | _, _ => none, ord := fun _ => none, pre := fun _ => [], un := fun _ _ _ => false }
set_option maxRecDepth 100000 in
set_option maxHeartbeats 4000000 in
theorem r_octroiref06_May (a0_0 : Int) (a0_1 : Int) (a0_2 : Int) (a0_3 : Int) (a0_4 : Int) (a0_5 : Int) (a0_6 : Int) (a0_7 : Int) (a0_8 : Int) {I : Ctx} {h : Mem} {Q : Value → Mem → Prop}
  (hh : holds Try.prog 25 I (cl_ Q)
   (.sem (Instr.box 37 (.agg #[.int .i64 a0_0, .int .u16 a0_1, .int .i64 a0_2, .int .i64 a0_3, .int .u32 a0_4, .int .i64 a0_5, .int .u64 a0_6, .int .u16 a0_7, .int .i64 a0_8])) shBlk fun l1 =>
    (.rd (Instr.loadAt 34 (.pointer (some ⟨(l1 0).n, 4, none⟩))) (.one (.agg [.int .u32, .int .i64])) fun l2 =>
     (.call 46 [.agg #[.int .u32 ((l2 0).i), .int .i64 ((l2 1).i)]] (.one (.sc (.bool))) fun l3 => -- octroiref02_May
      (.ite (!((l3 0).b))
       (.done (.bool false))
       (.rd (Instr.loadAt 3 (.pointer (some ⟨(l1 0).n, 2, none⟩))) (.one (.sc (.int .i64))) fun l4 =>
        (.ite (decide (((l4 0).i : Int) < 0))
         (.done (.bool false))
         (.rd (Instr.loadAt 3 (.pointer (some ⟨(l1 0).n, 2, none⟩))) (.one (.sc (.int .i64))) fun l5 =>
          (.ite (decide (((l5 0).i : Int) > 65535))
           (.done (.bool false))
           (.rd (Instr.loadAt 3 (.pointer (some ⟨(l1 0).n, 3, none⟩))) (.one (.sc (.int .i64))) fun l6 =>
            (.ite (decide (((l6 0).i : Int) < 0))
             (.done (.bool false))
             (.rd (Instr.loadAt 3 (.pointer (some ⟨(l1 0).n, 3, none⟩))) (.one (.sc (.int .i64))) fun l7 =>
              (.ite (decide (((l7 0).i : Int) > 65535))
               (.done (.bool false))
               (.rd (Instr.loadAt 3 (.pointer (some ⟨(l1 0).n, 8, none⟩))) (.one (.sc (.int .i64))) fun l8 =>
                (.ite (decide (((l8 0).i : Int) < 0))
                 (.done (.bool false))
                 (.rd (Instr.loadAt 3 (.pointer (some ⟨(l1 0).n, 8, none⟩))) (.one (.sc (.int .i64))) fun l9 =>
                  (.ite (decide (((l9 0).i : Int) > 255))
                   (.done (.bool false))
                   (.sem (Instr.alloc 34 true (.tuple #[])) shBlk fun l10 =>
                    (.unit (Instr.storeAt 34 (.pointer (some ⟨(l10 0).n, 0, none⟩)) (.agg #[.int .u32 0, .int .i64 0]))
                     (.rd (Instr.loadAt 3 (.pointer (some ⟨(l1 0).n, 0, none⟩))) (.one (.sc (.int .i64))) fun l11 =>
                      (.ite (((l11 0).i : Int) == 0)
                       (.rd (Instr.loadAt 3 (.pointer (some ⟨(l1 0).n, 3, none⟩))) (.one (.sc (.int .i64))) fun l12 =>
                        (.ite (((l12 0).i : Int) == 0)
                         (.rd (Instr.loadAt 3 (.pointer (some ⟨(l1 0).n, 8, none⟩))) (.one (.sc (.int .i64))) fun l13 =>
                          (.ite (((l13 0).i : Int) == 0)
                           (.rd (Instr.loadAt 34 (.pointer (some ⟨(l1 0).n, 4, none⟩))) (.one (.agg [.int .u32, .int .i64])) fun l14 =>
                            (.rd (Instr.loadAt 34 (.pointer (some ⟨(l10 0).n, 0, none⟩))) (.one (.agg [.int .u32, .int .i64])) fun l15 =>
                             (.rdn (eqN .eql 34 (.tmp 0) (.tmp 0) (.agg #[.int .u32 ((l14 0).i), .int .i64 ((l14 1).i)]) (.agg #[.int .u32 ((l15 0).i), .int .i64 ((l15 1).i)])) (.one (.sc (.bool))) fun l16 =>
                              (.ite ((l16 0).b)
                               (.rd (Instr.loadAt 35 (.pointer (some ⟨(l1 0).n, 6, none⟩))) (.one (.sc (.int .u64))) fun l17 =>
                                (.ite (((l17 0).i : Int) == 0)
                                 (.rd (Instr.loadAt 32 (.pointer (some ⟨(l1 0).n, 7, none⟩))) (.one (.sc (.int .u16))) fun l18 =>
                                  (.done (.bool (((l18 0).i : Int) == 0))))
                                 (.done (.bool false))))
                               (.done (.bool false))))))
                           (.done (.bool false))))
                         (.done (.bool false))))
                       (.ite (((l11 0).i : Int) == 1)
                        (.rd (Instr.loadAt 32 (.pointer (some ⟨(l1 0).n, 1, none⟩))) (.one (.sc (.int .u16))) fun l19 =>
                         (.ite (((l19 0).i : Int) == 0)
                          (.rd (Instr.loadAt 3 (.pointer (some ⟨(l1 0).n, 8, none⟩))) (.one (.sc (.int .i64))) fun l20 =>
                           (.ite (((l20 0).i : Int) == 0)
                            (.rd (Instr.loadAt 34 (.pointer (some ⟨(l1 0).n, 4, none⟩))) (.one (.agg [.int .u32, .int .i64])) fun l21 =>
                             (.rd (Instr.loadAt 34 (.pointer (some ⟨(l10 0).n, 0, none⟩))) (.one (.agg [.int .u32, .int .i64])) fun l22 =>
                              (.rdn (eqN .eql 34 (.tmp 0) (.tmp 0) (.agg #[.int .u32 ((l21 0).i), .int .i64 ((l21 1).i)]) (.agg #[.int .u32 ((l22 0).i), .int .i64 ((l22 1).i)])) (.one (.sc (.bool))) fun l23 =>
                               (.ite ((l23 0).b)
                                (.rd (Instr.loadAt 35 (.pointer (some ⟨(l1 0).n, 6, none⟩))) (.one (.sc (.int .u64))) fun l24 =>
                                 (.ite (((l24 0).i : Int) == 0)
                                  (.rd (Instr.loadAt 32 (.pointer (some ⟨(l1 0).n, 7, none⟩))) (.one (.sc (.int .u16))) fun l25 =>
                                   (.done (.bool (((l25 0).i : Int) == 0))))
                                  (.done (.bool false))))
                                (.done (.bool false))))))
                            (.done (.bool false))))
                          (.done (.bool false))))
                        (.ite (((l11 0).i : Int) == 2)
                         (.rd (Instr.loadAt 3 (.pointer (some ⟨(l1 0).n, 8, none⟩))) (.one (.sc (.int .i64))) fun l26 =>
                          (.done (.bool (((l26 0).i : Int) == 0))))
                         (.ite (((l11 0).i : Int) == 3)
                          (.rd (Instr.loadAt 32 (.pointer (some ⟨(l1 0).n, 1, none⟩))) (.one (.sc (.int .u16))) fun l27 =>
                           (.ite (((l27 0).i : Int) == 0)
                            (.rd (Instr.loadAt 3 (.pointer (some ⟨(l1 0).n, 2, none⟩))) (.one (.sc (.int .i64))) fun l28 =>
                             (.ite (((l28 0).i : Int) == 0)
                              (.rd (Instr.loadAt 3 (.pointer (some ⟨(l1 0).n, 3, none⟩))) (.one (.sc (.int .i64))) fun l29 =>
                               (.ite (((l29 0).i : Int) == 0)
                                (.rd (Instr.loadAt 3 (.pointer (some ⟨(l1 0).n, 8, none⟩))) (.one (.sc (.int .i64))) fun l30 =>
                                 (.ite (((l30 0).i : Int) == 0)
                                  (.rd (Instr.loadAt 35 (.pointer (some ⟨(l1 0).n, 6, none⟩))) (.one (.sc (.int .u64))) fun l31 =>
                                   (.ite (((l31 0).i : Int) == 0)
                                    (.rd (Instr.loadAt 32 (.pointer (some ⟨(l1 0).n, 7, none⟩))) (.one (.sc (.int .u16))) fun l32 =>
                                     (.done (.bool (((l32 0).i : Int) == 0))))
                                    (.done (.bool false))))
                                  (.done (.bool false))))
                                (.done (.bool false))))
                              (.done (.bool false))))
                            (.done (.bool false))))
                          (.ite (((l11 0).i : Int) == 4)
                           (.rd (Instr.loadAt 3 (.pointer (some ⟨(l1 0).n, 2, none⟩))) (.one (.sc (.int .i64))) fun l33 =>
                            (.ite (((l33 0).i : Int) == 0)
                             (.rd (Instr.loadAt 3 (.pointer (some ⟨(l1 0).n, 3, none⟩))) (.one (.sc (.int .i64))) fun l34 =>
                              (.ite (((l34 0).i : Int) == 0)
                               (.rd (Instr.loadAt 32 (.pointer (some ⟨(l1 0).n, 7, none⟩))) (.one (.sc (.int .u16))) fun l35 =>
                                (.done (.bool (((l35 0).i : Int) == 0))))
                               (.done (.bool false))))
                             (.done (.bool false))))
                           (.done (.bool false)))))))))))))))))))))))))) h) : Fn Try.prog 25 #[.agg #[.int .i64 a0_0, .int .u16 a0_1, .int .i64 a0_2, .int .i64 a0_3, .int .u32 a0_4, .int .i64 a0_5, .int .u64 a0_6, .int .u16 a0_7, .int .i64 a0_8]] I h Q :=
  Wp.fn (args := [.agg #[.int .i64 a0_0, .int .u16 a0_1, .int .i64 a0_2, .int .i64 a0_3, .int .u32 a0_4, .int .i64 a0_5, .int .u64 a0_6, .int .u16 a0_7, .int .i64 a0_8]]) Try.func25 rfl (by kernel_rfl) (of_tree (cfg := g_octroiref06_May) 1000 (by kernel_rfl) Try.func25 rfl Try.checked.mixed hh)
theorem ca_octroiref06_May : callable Try.prog 25 := ⟨_, Try.func25, by kernel_rfl, by kernel_rfl⟩
/-! ### octroiref06_part: function 26 of Go -/
abbrev F_octroiref06_part : FuncId := 26
noncomputable def c_octroiref06_part : Code := (Try.f26.body).getD .skip
def p_octroiref06_part : Nat → List (List Nat) := fun r => match r with | 1 => [[], [0], [0, 1], [], [3], [3, 4], [3, 4, 5], [0, 1, 2, 3, 4, 5, 6], [0, 1, 2, 3, 4, 5, 6, 7]] | _ => []
noncomputable def g_octroiref06_part : Cfg := { sh := shs, fsh := fshs, results := [.tmp 2], hint := fun _ _ => none, ord := fun r => match r with | 1 => some [0, 1, 2, 3, 4, 5, 6, 7, 8] | _ => none, pre := p_octroiref06_part, un := unOf p_octroiref06_part }
set_option maxRecDepth 100000 in
set_option maxHeartbeats 4000000 in
theorem r_octroiref06_part (a0_0 : Int) (a0_1 : Int) (a0_2 : Int) (a0_3 : Int) (a0_4 : Int) (a0_5 : Int) (a0_6 : Int) (a0_7 : Int) (a0_8 : Int) {I : Ctx} {h : Mem} {Q : Value → Mem → Prop}
  (hh : holds Try.prog 26 I (cl_ Q)
   (.sem (Instr.box 37 (.agg #[.int .i64 a0_0, .int .u16 a0_1, .int .i64 a0_2, .int .i64 a0_3, .int .u32 a0_4, .int .i64 a0_5, .int .u64 a0_6, .int .u16 a0_7, .int .i64 a0_8])) shBlk fun l1 =>
    (.rd (Instr.loadAt 23 (.pointer (some ⟨(l1 0).n, 4, none⟩))) (.one (.sc (.int .u32))) fun l2 =>
     (.rd (Instr.loadAt 3 (.pointer (some ⟨(l1 0).n, 5, none⟩))) (.one (.sc (.int .i64))) fun l3 =>
      (.call 47 [.int .i64 ((l3 0).i)] (.one (.sc (.int .i64))) fun l4 => -- octroiref06_needs
       (.pin (vN (Instr.loadAt 23 (.pointer (some ⟨(l1 0).n, 4, none⟩)))) (.int .u32 ((l2 0).i))
        (.call 32 [.int .u32 ((l2 0).i), .int .i64 ((l4 0).i)] (.one (.sc (.sl))) fun l5 => -- octroiref06_addr
         (.sem (Instr.buildSlice 25 2 #[(0, .int .u8 0), (1, .int .u8 0)]) (.one (.sc (.row 2))) fun l6 =>
          (.rd (Instr.loadAt 3 (.pointer (some ⟨(l1 0).n, 0, none⟩))) (.one (.sc (.int .i64))) fun l7 =>
           (.ite (((l7 0).i : Int) == 0)
            (.rd (Instr.loadAt 32 (.pointer (some ⟨(l1 0).n, 1, none⟩))) (.one (.sc (.int .u16))) fun l8 =>
             (.call 30 [.int .i64 (IntKind.wrap .i64 ((l8 0).i))] (.one (.sc (.sl))) fun l9 => -- octroiref06_two
              (.nx (builtin .append #[25, 25] 25 #[false, false] #[.slice (some ⟨(l6 0).n, 0, none⟩) 2 2, .slice ((l9 0).A) ((l9 0).n) ((l9 0).c)]) (.one (.sc (.sl))) fun l10 =>
               (.rd (Instr.loadAt 3 (.pointer (some ⟨(l1 0).n, 2, none⟩))) (.one (.sc (.int .i64))) fun l11 =>
                (.call 30 [.int .i64 ((l11 0).i)] (.one (.sc (.sl))) fun l12 => -- octroiref06_two
                 (.nx (builtin .append #[25, 25] 25 #[false, false] #[.slice ((l10 0).A) ((l10 0).n) ((l10 0).c), .slice ((l12 0).A) ((l12 0).n) ((l12 0).c)]) (.one (.sc (.sl))) fun l13 =>
                  (.call 28 [.int .u8 4, .slice ((l13 0).A) ((l13 0).n) ((l13 0).c)] (.one (.sc (.sl))) fun l14 => -- octroiref06_tlv
                   (.done (.slice ((l14 0).A) ((l14 0).n) ((l14 0).c))))))))))
            (.ite (((l7 0).i : Int) == 1)
             (.rd (Instr.loadAt 3 (.pointer (some ⟨(l1 0).n, 3, none⟩))) (.one (.sc (.int .i64))) fun l15 =>
              (.call 30 [.int .i64 ((l15 0).i)] (.one (.sc (.sl))) fun l16 => -- octroiref06_two
               (.nx (builtin .append #[25, 25] 25 #[false, false] #[.slice (some ⟨(l6 0).n, 0, none⟩) 2 2, .slice ((l16 0).A) ((l16 0).n) ((l16 0).c)]) (.one (.sc (.sl))) fun l17 =>
                (.rd (Instr.loadAt 3 (.pointer (some ⟨(l1 0).n, 2, none⟩))) (.one (.sc (.int .i64))) fun l18 =>
                 (.call 30 [.int .i64 ((l18 0).i)] (.one (.sc (.sl))) fun l19 => -- octroiref06_two
                  (.nx (builtin .append #[25, 25] 25 #[false, false] #[.slice ((l17 0).A) ((l17 0).n) ((l17 0).c), .slice ((l19 0).A) ((l19 0).n) ((l19 0).c)]) (.one (.sc (.sl))) fun l20 =>
                   (.call 28 [.int .u8 5, .slice ((l20 0).A) ((l20 0).n) ((l20 0).c)] (.one (.sc (.sl))) fun l21 => -- octroiref06_tlv
                    (.done (.slice ((l21 0).A) ((l21 0).n) ((l21 0).c))))))))))
             (.ite (((l7 0).i : Int) == 3)
              (.rd (Instr.loadAt 3 (.pointer (some ⟨(l1 0).n, 5, none⟩))) (.one (.sc (.int .i64))) fun l22 =>
               (.sem (Instr.buildSlice 25 2 #[(0, .int .u8 1), (1, .int .u8 (IntKind.wrap .u8 ((l22 0).i)))]) (.one (.sc (.row 2))) fun l23 =>
                (.nx (builtin .append #[25, 25] 25 #[false, false] #[.slice (some ⟨(l23 0).n, 0, none⟩) 2 2, .slice ((l5 0).A) ((l5 0).n) ((l5 0).c)]) (.one (.sc (.sl))) fun l24 =>
                 (.call 28 [.int .u8 9, .slice ((l24 0).A) ((l24 0).n) ((l24 0).c)] (.one (.sc (.sl))) fun l25 => -- octroiref06_tlv
                  (.done (.slice ((l25 0).A) ((l25 0).n) ((l25 0).c)))))))
              (.rd (Instr.loadAt 3 (.pointer (some ⟨(l1 0).n, 5, none⟩))) (.one (.sc (.int .i64))) fun l26 =>
               (.sem (Instr.buildSlice 25 2 #[(0, .int .u8 1), (1, .int .u8 (IntKind.wrap .u8 ((l26 0).i)))]) (.one (.sc (.row 2))) fun l27 =>
                (.rd (Instr.loadAt 32 (.pointer (some ⟨(l1 0).n, 1, none⟩))) (.one (.sc (.int .u16))) fun l28 =>
                 (.call 30 [.int .i64 (IntKind.wrap .i64 ((l28 0).i))] (.one (.sc (.sl))) fun l29 => -- octroiref06_two
                  (.nx (builtin .append #[25, 25] 25 #[false, false] #[.slice (some ⟨(l27 0).n, 0, none⟩) 2 2, .slice ((l29 0).A) ((l29 0).n) ((l29 0).c)]) (.one (.sc (.sl))) fun l30 =>
                   (.rd (Instr.loadAt 3 (.pointer (some ⟨(l1 0).n, 8, none⟩))) (.one (.sc (.int .i64))) fun l31 =>
                    (.sem (Instr.buildSlice 25 2 #[(0, .int .u8 (IntKind.wrap .u8 ((l31 0).i))), (1, .int .u8 0)]) (.one (.sc (.row 2))) fun l32 =>
                     (.nx (builtin .append #[25, 25] 25 #[false, false] #[.slice ((l30 0).A) ((l30 0).n) ((l30 0).c), .slice (some ⟨(l32 0).n, 0, none⟩) 2 2]) (.one (.sc (.sl))) fun l33 =>
                      (.rd (Instr.loadAt 35 (.pointer (some ⟨(l1 0).n, 6, none⟩))) (.one (.sc (.int .u64))) fun l34 =>
                       (.call 27 [.int .u64 ((l34 0).i)] (.one (.sc (.sl))) fun l35 => -- octroiref06_long
                        (.nx (builtin .append #[25, 25] 25 #[false, false] #[.slice ((l33 0).A) ((l33 0).n) ((l33 0).c), .slice ((l35 0).A) ((l35 0).n) ((l35 0).c)]) (.one (.sc (.sl))) fun l36 =>
                         (.nx (builtin .append #[25, 25] 25 #[false, false] #[.slice ((l36 0).A) ((l36 0).n) ((l36 0).c), .slice ((l5 0).A) ((l5 0).n) ((l5 0).c)]) (.one (.sc (.sl))) fun l37 =>
                          (.call 28 [.int .u8 10, .slice ((l37 0).A) ((l37 0).n) ((l37 0).c)] (.one (.sc (.sl))) fun l38 => -- octroiref06_tlv
                           (.done (.slice ((l38 0).A) ((l38 0).n) ((l38 0).c))))))))))))))))))))))))))) h) : Fn Try.prog 26 #[.agg #[.int .i64 a0_0, .int .u16 a0_1, .int .i64 a0_2, .int .i64 a0_3, .int .u32 a0_4, .int .i64 a0_5, .int .u64 a0_6, .int .u16 a0_7, .int .i64 a0_8]] I h Q :=
  Wp.fn (args := [.agg #[.int .i64 a0_0, .int .u16 a0_1, .int .i64 a0_2, .int .i64 a0_3, .int .u32 a0_4, .int .i64 a0_5, .int .u64 a0_6, .int .u16 a0_7, .int .i64 a0_8]]) Try.func26 rfl (by kernel_rfl) (of_tree (cfg := g_octroiref06_part) 1000 (by kernel_rfl) Try.func26 rfl Try.checked.mixed hh)
theorem ca_octroiref06_part : callable Try.prog 26 := ⟨_, Try.func26, by kernel_rfl, by kernel_rfl⟩
/-! ### octroiref06_long: function 27 of Go -/
abbrev F_octroiref06_long : FuncId := 27
noncomputable def c_octroiref06_long : Code := (Try.f27.body).getD .skip
noncomputable def g_octroiref06_long : Cfg := { sh := shs, fsh := fshs, results := [.tmp 2], hint := fun _ _ => none, ord := fun _ => none, pre := fun _ => [], un := fun _ _ _ => false }
set_option maxRecDepth 100000 in
set_option maxHeartbeats 4000000 in
theorem r_octroiref06_long (a0 : Int) {I : Ctx} {h : Mem} {Q : Value → Mem → Prop}
  (hh : holds Try.prog 27 I (cl_ Q)
   (.call 48 [.int .u32 (IntKind.wrap .u32 (IntKind.wrap .u64 (Int.tdiv a0 4294967296))), .int .i64 4] (.one (.sc (.sl))) fun l1 => -- octroiref01_Put
    (.call 48 [.int .u32 (IntKind.wrap .u32 (Int.tmod a0 4294967296)), .int .i64 4] (.one (.sc (.sl))) fun l2 => -- octroiref01_Put
     (.nx (builtin .append #[25, 25] 25 #[false, false] #[.slice ((l1 0).A) ((l1 0).n) ((l1 0).c), .slice ((l2 0).A) ((l2 0).n) ((l2 0).c)]) (.one (.sc (.sl))) fun l3 =>
      (.done (.slice ((l3 0).A) ((l3 0).n) ((l3 0).c)))))) h) : Fn Try.prog 27 #[.int .u64 a0] I h Q :=
  Wp.fn (args := [.int .u64 a0]) Try.func27 rfl (by kernel_rfl) (of_tree (cfg := g_octroiref06_long) 1000 (by kernel_rfl) Try.func27 rfl Try.checked.mixed hh)
theorem ca_octroiref06_long : callable Try.prog 27 := ⟨_, Try.func27, by kernel_rfl, by kernel_rfl⟩
/-! ### octroiref06_tlv: function 28 of Go -/
abbrev F_octroiref06_tlv : FuncId := 28
noncomputable def c_octroiref06_tlv : Code := (Try.f28.body).getD .skip
noncomputable def g_octroiref06_tlv : Cfg := { sh := shs, fsh := fshs, results := [.tmp 4], hint := fun _ _ => none, ord := fun _ => none, pre := fun _ => [], un := fun _ _ _ => false }
set_option maxRecDepth 100000 in
set_option maxHeartbeats 4000000 in
theorem r_octroiref06_tlv (a0 : Int) (Aa1 : Option Addr) (na1 : Nat) (ca1 : Nat) {I : Ctx} {h : Mem} {Q : Value → Mem → Prop}
  (hh : holds Try.prog 28 I (cl_ Q)
   (.sem (Instr.buildSlice 25 2 #[(0, .int .u8 a0), (1, .int .u8 (IntKind.wrap .u8 ((na1 : Nat) : Int)))]) (.one (.sc (.row 2))) fun l1 =>
    (.nx (builtin .append #[25, 25] 25 #[false, false] #[.slice (some ⟨(l1 0).n, 0, none⟩) 2 2, .slice Aa1 na1 ca1]) (.one (.sc (.sl))) fun l2 =>
     (.done (.slice ((l2 0).A) ((l2 0).n) ((l2 0).c))))) h) : Fn Try.prog 28 #[.int .u8 a0, .slice Aa1 na1 ca1] I h Q :=
  Wp.fn (args := [.int .u8 a0, .slice Aa1 na1 ca1]) Try.func28 rfl (by kernel_rfl) (of_tree (cfg := g_octroiref06_tlv) 1000 (by kernel_rfl) Try.func28 rfl Try.checked.mixed hh)
theorem ca_octroiref06_tlv : callable Try.prog 28 := ⟨_, Try.func28, by kernel_rfl, by kernel_rfl⟩
/-! ### octroiref06_update: function 29 of Go -/
abbrev F_octroiref06_update : FuncId := 29
noncomputable def c_octroiref06_update : Code := (Try.f29.body).getD .skip
noncomputable def g_octroiref06_update : Cfg := { sh := shs, fsh := fshs, results := [.tmp 4], hint := fun _ _ => none, ord := fun _ => none, pre := fun _ => [], un := fun _ _ _ => false }
set_option maxRecDepth 100000 in
set_option maxHeartbeats 4000000 in
theorem r_octroiref06_update (a0_0 : Int) (a0_1 : Int) (a0_2 : Int) (a0_3 : Int) (a0_4 : Int) (a0_5 : Int) (a0_6 : Int) (a0_7 : Int) (a0_8 : Int) (a1 : Int) {I : Ctx} {h : Mem} {Q : Value → Mem → Prop}
  (hh : holds Try.prog 29 I (cl_ Q)
   (.sem (Instr.box 37 (.agg #[.int .i64 a0_0, .int .u16 a0_1, .int .i64 a0_2, .int .i64 a0_3, .int .u32 a0_4, .int .i64 a0_5, .int .u64 a0_6, .int .u16 a0_7, .int .i64 a0_8])) shBlk fun l1 =>
    (.rd (Instr.loadAt 3 (.pointer (some ⟨(l1 0).n, 5, none⟩))) (.one (.sc (.int .i64))) fun l2 =>
     (.call 47 [.int .i64 ((l2 0).i)] (.one (.sc (.int .i64))) fun l3 => -- octroiref06_needs
      (.rd (Instr.loadAt 23 (.pointer (some ⟨(l1 0).n, 4, none⟩))) (.one (.sc (.int .u32))) fun l4 =>
       (.call 15 [.int .u32 a1, .int .u32 ((l4 0).i), .int .i64 ((l3 0).i)] (.one (.sc (.int .i64))) fun l5 => -- octroiref06_Squeeze
        (.rd (Instr.loadAt 3 (.pointer (some ⟨(l1 0).n, 5, none⟩))) (.one (.sc (.int .i64))) fun l6 =>
         (.sem (Instr.buildSlice 25 4 #[(0, .int .u8 1), (1, .int .u8 128), (2, .int .u8 (IntKind.wrap .u8 ((l6 0).i))), (3, .int .u8 (IntKind.wrap .u8 ((l5 0).i)))]) (.one (.sc (.row 4))) fun l7 =>
          (.rd (Instr.loadAt 3 (.pointer (some ⟨(l1 0).n, 2, none⟩))) (.one (.sc (.int .i64))) fun l8 =>
           (.call 30 [.int .i64 ((l8 0).i)] (.one (.sc (.sl))) fun l9 => -- octroiref06_two
            (.nx (builtin .append #[25, 25] 25 #[false, false] #[.slice (some ⟨(l7 0).n, 0, none⟩) 4 4, .slice ((l9 0).A) ((l9 0).n) ((l9 0).c)]) (.one (.sc (.sl))) fun l10 =>
             (.rd (Instr.loadAt 32 (.pointer (some ⟨(l1 0).n, 1, none⟩))) (.one (.sc (.int .u16))) fun l11 =>
              (.call 30 [.int .i64 (IntKind.wrap .i64 ((l11 0).i))] (.one (.sc (.sl))) fun l12 => -- octroiref06_two
               (.nx (builtin .append #[25, 25] 25 #[false, false] #[.slice ((l10 0).A) ((l10 0).n) ((l10 0).c), .slice ((l12 0).A) ((l12 0).n) ((l12 0).c)]) (.one (.sc (.sl))) fun l13 =>
                (.rd (Instr.loadAt 3 (.pointer (some ⟨(l1 0).n, 3, none⟩))) (.one (.sc (.int .i64))) fun l14 =>
                 (.call 30 [.int .i64 ((l14 0).i)] (.one (.sc (.sl))) fun l15 => -- octroiref06_two
                  (.nx (builtin .append #[25, 25] 25 #[false, false] #[.slice ((l13 0).A) ((l13 0).n) ((l13 0).c), .slice ((l15 0).A) ((l15 0).n) ((l15 0).c)]) (.one (.sc (.sl))) fun l16 =>
                   (.rd (Instr.loadAt 23 (.pointer (some ⟨(l1 0).n, 4, none⟩))) (.one (.sc (.int .u32))) fun l17 =>
                    (.call 32 [.int .u32 ((l17 0).i), .int .i64 ((l3 0).i)] (.one (.sc (.sl))) fun l18 => -- octroiref06_addr
                     (.rd (Instr.sliceAt 25 (.slice ((l18 0).A) ((l18 0).n) ((l18 0).c)) (some (.int .i64 ((l5 0).i))) none none) (.one (.sc (.sl))) fun l19 =>
                      (.nx (builtin .append #[25, 25] 25 #[false, false] #[.slice ((l16 0).A) ((l16 0).n) ((l16 0).c), .slice ((l19 0).A) ((l19 0).n) ((l19 0).c)]) (.one (.sc (.sl))) fun l20 =>
                       (.rd (Instr.loadAt 32 (.pointer (some ⟨(l1 0).n, 7, none⟩))) (.one (.sc (.int .u16))) fun l21 =>
                        (.ite (((l21 0).i : Int) != 0)
                         (.sem (Instr.buildSlice 25 2 #[(0, .int .u8 200), (1, .int .u8 2)]) (.one (.sc (.row 2))) fun l22 =>
                          (.nx (builtin .append #[25, 25] 25 #[false, false] #[.slice ((l20 0).A) ((l20 0).n) ((l20 0).c), .slice (some ⟨(l22 0).n, 0, none⟩) 2 2]) (.one (.sc (.sl))) fun l23 =>
                           (.rd (Instr.loadAt 32 (.pointer (some ⟨(l1 0).n, 7, none⟩))) (.one (.sc (.int .u16))) fun l24 =>
                            (.call 30 [.int .i64 (IntKind.wrap .i64 ((l24 0).i))] (.one (.sc (.sl))) fun l25 => -- octroiref06_two
                             (.nx (builtin .append #[25, 25] 25 #[false, false] #[.slice ((l23 0).A) ((l23 0).n) ((l23 0).c), .slice ((l25 0).A) ((l25 0).n) ((l25 0).c)]) (.one (.sc (.sl))) fun l26 =>
                              (.done (.slice ((l26 0).A) ((l26 0).n) ((l26 0).c))))))))
                         (.done (.slice ((l20 0).A) ((l20 0).n) ((l20 0).c))))))))))))))))))))))))) h) : Fn Try.prog 29 #[.agg #[.int .i64 a0_0, .int .u16 a0_1, .int .i64 a0_2, .int .i64 a0_3, .int .u32 a0_4, .int .i64 a0_5, .int .u64 a0_6, .int .u16 a0_7, .int .i64 a0_8], .int .u32 a1] I h Q :=
  Wp.fn (args := [.agg #[.int .i64 a0_0, .int .u16 a0_1, .int .i64 a0_2, .int .i64 a0_3, .int .u32 a0_4, .int .i64 a0_5, .int .u64 a0_6, .int .u16 a0_7, .int .i64 a0_8], .int .u32 a1]) Try.func29 rfl (by kernel_rfl) (of_tree (cfg := g_octroiref06_update) 1000 (by kernel_rfl) Try.func29 rfl Try.checked.mixed hh)
theorem ca_octroiref06_update : callable Try.prog 29 := ⟨_, Try.func29, by kernel_rfl, by kernel_rfl⟩
/-! ### octroiref06_two: function 30 of Go -/
abbrev F_octroiref06_two : FuncId := 30
noncomputable def c_octroiref06_two : Code := (Try.f30.body).getD .skip
noncomputable def g_octroiref06_two : Cfg := { sh := shs, fsh := fshs, results := [.tmp 2], hint := fun _ _ => none, ord := fun _ => none, pre := fun _ => [], un := fun _ _ _ => false }
set_option maxRecDepth 100000 in
set_option maxHeartbeats 4000000 in
theorem r_octroiref06_two (a0 : Int) {I : Ctx} {h : Mem} {Q : Value → Mem → Prop}
  (hh : holds Try.prog 30 I (cl_ Q)
   (.call 48 [.int .u32 (IntKind.wrap .u32 a0), .int .i64 2] (.one (.sc (.sl))) fun l1 => -- octroiref01_Put
    (.done (.slice ((l1 0).A) ((l1 0).n) ((l1 0).c)))) h) : Fn Try.prog 30 #[.int .i64 a0] I h Q :=
  Wp.fn (args := [.int .i64 a0]) Try.func30 rfl (by kernel_rfl) (of_tree (cfg := g_octroiref06_two) 1000 (by kernel_rfl) Try.func30 rfl Try.checked.mixed hh)
theorem ca_octroiref06_two : callable Try.prog 30 := ⟨_, Try.func30, by kernel_rfl, by kernel_rfl⟩
/-! ### num_Put32: function 31 of Go -/
abbrev F_num_Put32 : FuncId := 31
noncomputable def c_num_Put32 : Code := (Try.f31.body).getD .skip
noncomputable def g_num_Put32 : Cfg := { sh := shs, fsh := fshs, results := [.tmp 2], hint := fun _ _ => none, ord := fun _ => none, pre := fun _ => [], un := fun _ _ _ => false }
set_option maxRecDepth 100000 in
set_option maxHeartbeats 4000000 in
theorem r_num_Put32 (a0 : Int) {I : Ctx} {h : Mem} {Q : Value → Mem → Prop}
  (hh : holds Try.prog 31 I (cl_ Q)
   (.call 49 [.int .u32 a0, .int .i64 4] (.one (.sc (.sl))) fun l1 => -- num_put
    (.done (.slice ((l1 0).A) ((l1 0).n) ((l1 0).c)))) h) : Fn Try.prog 31 #[.int .u32 a0] I h Q :=
  Wp.fn (args := [.int .u32 a0]) Try.func31 rfl (by kernel_rfl) (of_tree (cfg := g_num_Put32) 1000 (by kernel_rfl) Try.func31 rfl Try.checked.mixed hh)
theorem ca_num_Put32 : callable Try.prog 31 := ⟨_, Try.func31, by kernel_rfl, by kernel_rfl⟩
/-! ### octroiref06_addr: function 32 of Go -/
abbrev F_octroiref06_addr : FuncId := 32
noncomputable def c_octroiref06_addr : Code := (Try.f32.body).getD .skip
noncomputable def g_octroiref06_addr : Cfg := { sh := shs, fsh := fshs, results := [.tmp 4], hint := fun _ _ => none, ord := fun _ => none, pre := fun _ => [], un := fun _ _ _ => false }
set_option maxRecDepth 100000 in
set_option maxHeartbeats 4000000 in
theorem r_octroiref06_addr (a0 : Int) (a1 : Int) {I : Ctx} {h : Mem} {Q : Value → Mem → Prop}
  (hh : holds Try.prog 32 I (cl_ Q)
   (.call 48 [.int .u32 a0, .int .i64 4] (.one (.sc (.sl))) fun l1 => -- octroiref01_Put
    (.rd (Instr.sliceAt 25 (.slice ((l1 0).A) ((l1 0).n) ((l1 0).c)) none (some (.int .i64 a1)) none) (.one (.sc (.sl))) fun l2 =>
     (.done (.slice ((l2 0).A) ((l2 0).n) ((l2 0).c))))) h) : Fn Try.prog 32 #[.int .u32 a0, .int .i64 a1] I h Q :=
  Wp.fn (args := [.int .u32 a0, .int .i64 a1]) Try.func32 rfl (by kernel_rfl) (of_tree (cfg := g_octroiref06_addr) 1000 (by kernel_rfl) Try.func32 rfl Try.checked.mixed hh)
theorem ca_octroiref06_addr : callable Try.prog 32 := ⟨_, Try.func32, by kernel_rfl, by kernel_rfl⟩
/-! ### babelpkt_at2: function 33 of Go -/
abbrev F_babelpkt_at2 : FuncId := 33
noncomputable def c_babelpkt_at2 : Code := (Try.f33.body).getD .skip
noncomputable def g_babelpkt_at2 : Cfg := { sh := shs, fsh := fshs, results := [.tmp 4], hint := fun _ _ => none, ord := fun _ => none, pre := fun _ => [], un := fun _ _ _ => false }
set_option maxRecDepth 100000 in
set_option maxHeartbeats 4000000 in
theorem r_babelpkt_at2 (Aa0 : Option Addr) (na0 : Nat) (ca0 : Nat) (a1 : Int) {I : Ctx} {h : Mem} {Q : Value → Mem → Prop}
  (hh : holds Try.prog 33 I (cl_ Q)
   (.call 50 [.slice Aa0 na0 ca0, .int .i64 a1] (.tup [(.sc (.int .u16)), (.sc (.bool))]) fun l1 => -- num_Get16
    (.done (.int .i64 (IntKind.wrap .i64 ((l1 0).i))))) h) : Fn Try.prog 33 #[.slice Aa0 na0 ca0, .int .i64 a1] I h Q :=
  Wp.fn (args := [.slice Aa0 na0 ca0, .int .i64 a1]) Try.func33 rfl (by kernel_rfl) (of_tree (cfg := g_babelpkt_at2) 1000 (by kernel_rfl) Try.func33 rfl Try.checked.mixed hh)
theorem ca_babelpkt_at2 : callable Try.prog 33 := ⟨_, Try.func33, by kernel_rfl, by kernel_rfl⟩
/-! ### babelpkt_reader_take: function 34 of Go -/
abbrev F_babelpkt_reader_take : FuncId := 34
noncomputable def c_babelpkt_reader_take : Code := (Try.f34.body).getD .skip
noncomputable def g_babelpkt_reader_take : Cfg := { sh := shs, fsh := fshs, results := [.tmp 6], hint := fun _ _ => none, ord := fun _ => none, pre := fun _ => [], un := fun _ _ _ => false }
set_option maxRecDepth 100000 in
set_option maxHeartbeats 4000000 in
theorem r_babelpkt_reader_take (a0 : Addr) (a1 : Int) (Aa2 : Option Addr) (na2 : Nat) (ca2 : Nat) {I : Ctx} {h : Mem} {Q : Value → Mem → Prop}
  (hh : holds Try.prog 34 I (cl_ Q)
   (.ite ((a1 : Int) == 4)
    (.ite ((a1 : Int) == 4)
     (.call 51 [.pointer (some a0), .int .u8 a1, .slice Aa2 na2 ca2] (.one (.sc (.bool))) fun l1 => -- babelpkt_reader_short
      (.done (.bool ((l1 0).b))))
     (.ite ((a1 : Int) == 8)
      (.call 52 [.pointer (some a0), .slice Aa2 na2 ca2] (.one (.sc (.bool))) fun l2 => -- babelpkt_reader_update
       (.done (.bool ((l2 0).b))))
      (.ite ((a1 : Int) == 9)
       (.ite ((a1 : Int) == 9)
        (.call 53 [.pointer (some a0), .int .u8 a1, .slice Aa2 na2 ca2] (.one (.sc (.bool))) fun l3 => -- babelpkt_reader_asks
         (.done (.bool ((l3 0).b))))
        (.done (.bool true)))
       (.ite ((a1 : Int) == 10)
        (.call 53 [.pointer (some a0), .int .u8 a1, .slice Aa2 na2 ca2] (.one (.sc (.bool))) fun l4 => -- babelpkt_reader_asks
         (.done (.bool ((l4 0).b))))
        (.done (.bool true))))))
    (.ite ((a1 : Int) == 5)
     (.ite ((a1 : Int) == 5)
      (.call 51 [.pointer (some a0), .int .u8 a1, .slice Aa2 na2 ca2] (.one (.sc (.bool))) fun l5 => -- babelpkt_reader_short
       (.done (.bool ((l5 0).b))))
      (.ite ((a1 : Int) == 8)
       (.call 52 [.pointer (some a0), .slice Aa2 na2 ca2] (.one (.sc (.bool))) fun l6 => -- babelpkt_reader_update
        (.done (.bool ((l6 0).b))))
       (.ite ((a1 : Int) == 9)
        (.ite ((a1 : Int) == 9)
         (.call 53 [.pointer (some a0), .int .u8 a1, .slice Aa2 na2 ca2] (.one (.sc (.bool))) fun l7 => -- babelpkt_reader_asks
          (.done (.bool ((l7 0).b))))
         (.done (.bool true)))
        (.ite ((a1 : Int) == 10)
         (.call 53 [.pointer (some a0), .int .u8 a1, .slice Aa2 na2 ca2] (.one (.sc (.bool))) fun l8 => -- babelpkt_reader_asks
          (.done (.bool ((l8 0).b))))
         (.done (.bool true))))))
     (.ite ((a1 : Int) == 6)
      (.call 51 [.pointer (some a0), .int .u8 a1, .slice Aa2 na2 ca2] (.one (.sc (.bool))) fun l9 => -- babelpkt_reader_short
       (.done (.bool ((l9 0).b))))
      (.ite ((a1 : Int) == 8)
       (.call 52 [.pointer (some a0), .slice Aa2 na2 ca2] (.one (.sc (.bool))) fun l10 => -- babelpkt_reader_update
        (.done (.bool ((l10 0).b))))
       (.ite ((a1 : Int) == 9)
        (.ite ((a1 : Int) == 9)
         (.call 53 [.pointer (some a0), .int .u8 a1, .slice Aa2 na2 ca2] (.one (.sc (.bool))) fun l11 => -- babelpkt_reader_asks
          (.done (.bool ((l11 0).b))))
         (.done (.bool true)))
        (.ite ((a1 : Int) == 10)
         (.call 53 [.pointer (some a0), .int .u8 a1, .slice Aa2 na2 ca2] (.one (.sc (.bool))) fun l12 => -- babelpkt_reader_asks
          (.done (.bool ((l12 0).b))))
         (.done (.bool true)))))))) h) : Fn Try.prog 34 #[.pointer (some a0), .int .u8 a1, .slice Aa2 na2 ca2] I h Q :=
  Wp.fn (args := [.pointer (some a0), .int .u8 a1, .slice Aa2 na2 ca2]) Try.func34 rfl (by kernel_rfl) (of_tree (cfg := g_babelpkt_reader_take) 1000 (by kernel_rfl) Try.func34 rfl Try.checked.mixed hh)
theorem ca_babelpkt_reader_take : callable Try.prog 34 := ⟨_, Try.func34, by kernel_rfl, by kernel_rfl⟩
/-! ### octroiref06_num2: function 35 of Go -/
abbrev F_octroiref06_num2 : FuncId := 35
noncomputable def c_octroiref06_num2 : Code := (Try.f35.body).getD .skip
noncomputable def g_octroiref06_num2 : Cfg := { sh := shs, fsh := fshs, results := [.tmp 4], hint := fun _ _ => none, ord := fun _ => none, pre := fun _ => [], un := fun _ _ _ => false }
set_option maxRecDepth 100000 in
set_option maxHeartbeats 4000000 in
theorem r_octroiref06_num2 (Aa0 : Option Addr) (na0 : Nat) (ca0 : Nat) (a1 : Int) {I : Ctx} {h : Mem} {Q : Value → Mem → Prop}
  (hh : holds Try.prog 35 I (cl_ Q)
   (.call 54 [.slice Aa0 na0 ca0, .int .i64 a1, .int .i64 2] (.tup [(.sc (.int .u32)), (.sc (.bool))]) fun l1 => -- octroiref01_Get
    (.done (.int .i64 (IntKind.wrap .i64 ((l1 0).i))))) h) : Fn Try.prog 35 #[.slice Aa0 na0 ca0, .int .i64 a1] I h Q :=
  Wp.fn (args := [.slice Aa0 na0 ca0, .int .i64 a1]) Try.func35 rfl (by kernel_rfl) (of_tree (cfg := g_octroiref06_num2) 1000 (by kernel_rfl) Try.func35 rfl Try.checked.mixed hh)
theorem ca_octroiref06_num2 : callable Try.prog 35 := ⟨_, Try.func35, by kernel_rfl, by kernel_rfl⟩
/-! ### octroiref06_Reader_take: function 36 of Go -/
abbrev F_octroiref06_Reader_take : FuncId := 36
noncomputable def c_octroiref06_Reader_take : Code := (Try.f36.body).getD .skip
noncomputable def g_octroiref06_Reader_take : Cfg := { sh := shs, fsh := fshs, results := [.tmp 6], hint := fun _ _ => none, ord := fun _ => none, pre := fun _ => [], un := fun _ _ _ => false }
set_option maxRecDepth 100000 in
set_option maxHeartbeats 4000000 in
theorem r_octroiref06_Reader_take (a0 : Addr) (a1 : Int) (Aa2 : Option Addr) (na2 : Nat) (ca2 : Nat) {I : Ctx} {h : Mem} {Q : Value → Mem → Prop}
  (hh : holds Try.prog 36 I (cl_ Q)
   (.ite ((a1 : Int) == 4)
    (.ite ((a1 : Int) == 4)
     (.call 55 [.pointer (some a0), .int .u8 a1, .slice Aa2 na2 ca2] (.one (.sc (.bool))) fun l1 => -- octroiref06_Reader_short
      (.done (.bool ((l1 0).b))))
     (.ite ((a1 : Int) == 8)
      (.call 56 [.pointer (some a0), .slice Aa2 na2 ca2] (.one (.sc (.bool))) fun l2 => -- octroiref06_Reader_update
       (.done (.bool ((l2 0).b))))
      (.ite ((a1 : Int) == 9)
       (.ite ((a1 : Int) == 9)
        (.call 57 [.pointer (some a0), .int .u8 a1, .slice Aa2 na2 ca2] (.one (.sc (.bool))) fun l3 => -- octroiref06_Reader_ask
         (.done (.bool ((l3 0).b))))
        (.done (.bool true)))
       (.ite ((a1 : Int) == 10)
        (.call 57 [.pointer (some a0), .int .u8 a1, .slice Aa2 na2 ca2] (.one (.sc (.bool))) fun l4 => -- octroiref06_Reader_ask
         (.done (.bool ((l4 0).b))))
        (.done (.bool true))))))
    (.ite ((a1 : Int) == 5)
     (.ite ((a1 : Int) == 5)
      (.call 55 [.pointer (some a0), .int .u8 a1, .slice Aa2 na2 ca2] (.one (.sc (.bool))) fun l5 => -- octroiref06_Reader_short
       (.done (.bool ((l5 0).b))))
      (.ite ((a1 : Int) == 8)
       (.call 56 [.pointer (some a0), .slice Aa2 na2 ca2] (.one (.sc (.bool))) fun l6 => -- octroiref06_Reader_update
        (.done (.bool ((l6 0).b))))
       (.ite ((a1 : Int) == 9)
        (.ite ((a1 : Int) == 9)
         (.call 57 [.pointer (some a0), .int .u8 a1, .slice Aa2 na2 ca2] (.one (.sc (.bool))) fun l7 => -- octroiref06_Reader_ask
          (.done (.bool ((l7 0).b))))
         (.done (.bool true)))
        (.ite ((a1 : Int) == 10)
         (.call 57 [.pointer (some a0), .int .u8 a1, .slice Aa2 na2 ca2] (.one (.sc (.bool))) fun l8 => -- octroiref06_Reader_ask
          (.done (.bool ((l8 0).b))))
         (.done (.bool true))))))
     (.ite ((a1 : Int) == 6)
      (.call 55 [.pointer (some a0), .int .u8 a1, .slice Aa2 na2 ca2] (.one (.sc (.bool))) fun l9 => -- octroiref06_Reader_short
       (.done (.bool ((l9 0).b))))
      (.ite ((a1 : Int) == 8)
       (.call 56 [.pointer (some a0), .slice Aa2 na2 ca2] (.one (.sc (.bool))) fun l10 => -- octroiref06_Reader_update
        (.done (.bool ((l10 0).b))))
       (.ite ((a1 : Int) == 9)
        (.ite ((a1 : Int) == 9)
         (.call 57 [.pointer (some a0), .int .u8 a1, .slice Aa2 na2 ca2] (.one (.sc (.bool))) fun l11 => -- octroiref06_Reader_ask
          (.done (.bool ((l11 0).b))))
         (.done (.bool true)))
        (.ite ((a1 : Int) == 10)
         (.call 57 [.pointer (some a0), .int .u8 a1, .slice Aa2 na2 ca2] (.one (.sc (.bool))) fun l12 => -- octroiref06_Reader_ask
          (.done (.bool ((l12 0).b))))
         (.done (.bool true)))))))) h) : Fn Try.prog 36 #[.pointer (some a0), .int .u8 a1, .slice Aa2 na2 ca2] I h Q :=
  Wp.fn (args := [.pointer (some a0), .int .u8 a1, .slice Aa2 na2 ca2]) Try.func36 rfl (by kernel_rfl) (of_tree (cfg := g_octroiref06_Reader_take) 1000 (by kernel_rfl) Try.func36 rfl Try.checked.mixed hh)
theorem ca_octroiref06_Reader_take : callable Try.prog 36 := ⟨_, Try.func36, by kernel_rfl, by kernel_rfl⟩
/-! ### babelpkt_plain: function 37 of Go -/
abbrev F_babelpkt_plain : FuncId := 37
noncomputable def c_babelpkt_plain : Code := (Try.f37.body).getD .skip
def p_babelpkt_plain : Nat → List (List Nat) := fun r => match r with | 4 => [[], [0], [], [2], [0, 1], [0, 1, 4], [0, 1, 2, 3, 4, 5], [0, 1, 2, 3, 4, 5, 6]] | 6 => [[], [0], [], [2], [0, 1], [0, 1, 4], [0, 1, 2, 3, 4, 5], [0, 1, 2, 3, 4, 5, 6]] | 13 => [[], [0], [], [2], [], [4], [], [6], [0, 1], [0, 1, 8], [0, 1, 2, 3, 8, 9], [0, 1, 2, 3, 8, 9, 10], [0, 1, 2, 3, 4, 5, 8, 9, 10, 11], [0, 1, 2, 3, 4, 5, 8, 9, 10, 11, 12], [0, 1, 2, 3, 4, 5, 6, 7, 8, 9, 10, 11, 12, 13], [0, 1, 2, 3, 4, 5, 6, 7, 8, 9, 10, 11, 12, 13, 14]] | _ => []
noncomputable def g_babelpkt_plain : Cfg := { sh := shs, fsh := fshs, results := [.cell 2 37], hint := fun _ _ => none, ord := fun r => match r with | 4 => some [0, 1, 2, 3, 4, 5, 6, 7] | 6 => some [0, 1, 2, 3, 4, 5, 6, 7] | 13 => some [0, 1, 2, 3, 4, 5, 6, 7, 8, 9, 10, 11, 12, 13, 14, 15] | _ => none, pre := p_babelpkt_plain, un := unOf p_babelpkt_plain }
set_option maxRecDepth 100000 in
set_option maxHeartbeats 4000000 in
theorem r_babelpkt_plain (a0_0 : Int) (a0_1 : Int) (a0_2 : Int) (a0_3 : Int) (a0_4 : Int) (a0_5 : Int) (a0_6 : Int) (a0_7 : Int) (a0_8 : Int) {I : Ctx} {h : Mem} {Q : Value → Mem → Prop}
  (hh : holds Try.prog 37 I (cl_ Q)
   (.sem (Instr.box 37 (.agg #[.int .i64 a0_0, .int .u16 a0_1, .int .i64 a0_2, .int .i64 a0_3, .int .u32 a0_4, .int .i64 a0_5, .int .u64 a0_6, .int .u16 a0_7, .int .i64 a0_8])) shBlk fun l1 =>
    (.sem (Instr.alloc 37 true (.tuple #[])) shBlk fun l2 =>
     (.rd (Instr.loadAt 3 (.pointer (some ⟨(l1 0).n, 0, none⟩))) (.one (.sc (.int .i64))) fun l3 =>
      (.sem (Instr.alloc 37 true (.tuple #[])) shBlk fun l4 =>
       (.unit (Instr.storeAt 37 (.pointer (some ⟨(l4 0).n, 0, none⟩)) (.agg #[.int .i64 ((l3 0).i), .int .u16 0, .int .i64 0, .int .i64 0, .int .u32 0, .int .i64 0, .int .u64 0, .int .u16 0, .int .i64 0]))
        (.rd (Instr.loadAt 3 (.pointer (some ⟨(l1 0).n, 0, none⟩))) (.one (.sc (.int .i64))) fun l5 =>
         (.ite (((l5 0).i : Int) == 0)
          (.rd (Instr.loadAt 32 (.pointer (some ⟨(l1 0).n, 1, none⟩))) (.one (.sc (.int .u16))) fun l6 =>
           (.rd (Instr.loadAt 3 (.pointer (some ⟨(l1 0).n, 2, none⟩))) (.one (.sc (.int .i64))) fun l7 =>
            (.unit (Instr.storeAt 32 (.pointer (some ⟨(l4 0).n, 1, none⟩)) (.int .u16 ((l6 0).i)))
             (.pin (vN (Instr.loadAt 3 (.pointer (some ⟨(l1 0).n, 2, none⟩)))) (.int .i64 ((l7 0).i))
              (.unit (Instr.storeAt 3 (.pointer (some ⟨(l4 0).n, 2, none⟩)) (.int .i64 ((l7 0).i)))
               (.rd (Instr.loadAt 37 (.pointer (some ⟨(l4 0).n, 0, none⟩))) (.one (.agg [.int .i64, .int .u16, .int .i64, .int .i64, .int .u32, .int .i64, .int .u64, .int .u16, .int .i64])) fun l8 =>
                (.unit (Instr.storeAt 37 (.pointer (some ⟨(l2 0).n, 0, none⟩)) (.agg #[.int .i64 ((l8 0).i), .int .u16 ((l8 1).i), .int .i64 ((l8 2).i), .int .i64 ((l8 3).i), .int .u32 ((l8 4).i), .int .i64 ((l8 5).i), .int .u64 ((l8 6).i), .int .u16 ((l8 7).i), .int .i64 ((l8 8).i)]))
                 (.rd (loadVar 37 ⟨(l2 0).n, 0, none⟩) (.one (.agg [.int .i64, .int .u16, .int .i64, .int .i64, .int .u32, .int .i64, .int .u64, .int .u16, .int .i64])) fun l9 =>
                  (.done (.agg #[.int .i64 ((l9 0).i), .int .u16 ((l9 1).i), .int .i64 ((l9 2).i), .int .i64 ((l9 3).i), .int .u32 ((l9 4).i), .int .i64 ((l9 5).i), .int .u64 ((l9 6).i), .int .u16 ((l9 7).i), .int .i64 ((l9 8).i)]))))))))))
          (.ite (((l5 0).i : Int) == 1)
           (.rd (Instr.loadAt 3 (.pointer (some ⟨(l1 0).n, 3, none⟩))) (.one (.sc (.int .i64))) fun l10 =>
            (.rd (Instr.loadAt 3 (.pointer (some ⟨(l1 0).n, 2, none⟩))) (.one (.sc (.int .i64))) fun l11 =>
             (.unit (Instr.storeAt 3 (.pointer (some ⟨(l4 0).n, 3, none⟩)) (.int .i64 ((l10 0).i)))
              (.pin (vN (Instr.loadAt 3 (.pointer (some ⟨(l1 0).n, 2, none⟩)))) (.int .i64 ((l11 0).i))
               (.unit (Instr.storeAt 3 (.pointer (some ⟨(l4 0).n, 2, none⟩)) (.int .i64 ((l11 0).i)))
                (.rd (Instr.loadAt 37 (.pointer (some ⟨(l4 0).n, 0, none⟩))) (.one (.agg [.int .i64, .int .u16, .int .i64, .int .i64, .int .u32, .int .i64, .int .u64, .int .u16, .int .i64])) fun l12 =>
                 (.unit (Instr.storeAt 37 (.pointer (some ⟨(l2 0).n, 0, none⟩)) (.agg #[.int .i64 ((l12 0).i), .int .u16 ((l12 1).i), .int .i64 ((l12 2).i), .int .i64 ((l12 3).i), .int .u32 ((l12 4).i), .int .i64 ((l12 5).i), .int .u64 ((l12 6).i), .int .u16 ((l12 7).i), .int .i64 ((l12 8).i)]))
                  (.rd (loadVar 37 ⟨(l2 0).n, 0, none⟩) (.one (.agg [.int .i64, .int .u16, .int .i64, .int .i64, .int .u32, .int .i64, .int .u64, .int .u16, .int .i64])) fun l13 =>
                   (.done (.agg #[.int .i64 ((l13 0).i), .int .u16 ((l13 1).i), .int .i64 ((l13 2).i), .int .i64 ((l13 3).i), .int .u32 ((l13 4).i), .int .i64 ((l13 5).i), .int .u64 ((l13 6).i), .int .u16 ((l13 7).i), .int .i64 ((l13 8).i)]))))))))))
           (.ite (((l5 0).i : Int) == 2)
            (.rd (Instr.loadAt 37 (.pointer (some ⟨(l1 0).n, 0, none⟩))) (.one (.agg [.int .i64, .int .u16, .int .i64, .int .i64, .int .u32, .int .i64, .int .u64, .int .u16, .int .i64])) fun l14 =>
             (.unit (Instr.storeAt 37 (.pointer (some ⟨(l4 0).n, 0, none⟩)) (.agg #[.int .i64 ((l14 0).i), .int .u16 ((l14 1).i), .int .i64 ((l14 2).i), .int .i64 ((l14 3).i), .int .u32 ((l14 4).i), .int .i64 ((l14 5).i), .int .u64 ((l14 6).i), .int .u16 ((l14 7).i), .int .i64 ((l14 8).i)]))
              (.unit (Instr.storeAt 3 (.pointer (some ⟨(l4 0).n, 8, none⟩)) (.int .i64 0))
               (.rd (Instr.loadAt 37 (.pointer (some ⟨(l4 0).n, 0, none⟩))) (.one (.agg [.int .i64, .int .u16, .int .i64, .int .i64, .int .u32, .int .i64, .int .u64, .int .u16, .int .i64])) fun l15 =>
                (.unit (Instr.storeAt 37 (.pointer (some ⟨(l2 0).n, 0, none⟩)) (.agg #[.int .i64 ((l15 0).i), .int .u16 ((l15 1).i), .int .i64 ((l15 2).i), .int .i64 ((l15 3).i), .int .u32 ((l15 4).i), .int .i64 ((l15 5).i), .int .u64 ((l15 6).i), .int .u16 ((l15 7).i), .int .i64 ((l15 8).i)]))
                 (.rd (loadVar 37 ⟨(l2 0).n, 0, none⟩) (.one (.agg [.int .i64, .int .u16, .int .i64, .int .i64, .int .u32, .int .i64, .int .u64, .int .u16, .int .i64])) fun l16 =>
                  (.done (.agg #[.int .i64 ((l16 0).i), .int .u16 ((l16 1).i), .int .i64 ((l16 2).i), .int .i64 ((l16 3).i), .int .u32 ((l16 4).i), .int .i64 ((l16 5).i), .int .u64 ((l16 6).i), .int .u16 ((l16 7).i), .int .i64 ((l16 8).i)]))))))))
            (.ite (((l5 0).i : Int) == 3)
             (.rd (Instr.loadAt 34 (.pointer (some ⟨(l1 0).n, 4, none⟩))) (.one (.agg [.int .u32, .int .i64])) fun l17 =>
              (.unit (Instr.storeAt 34 (.pointer (some ⟨(l4 0).n, 4, none⟩)) (.agg #[.int .u32 ((l17 0).i), .int .i64 ((l17 1).i)]))
               (.rd (Instr.loadAt 37 (.pointer (some ⟨(l4 0).n, 0, none⟩))) (.one (.agg [.int .i64, .int .u16, .int .i64, .int .i64, .int .u32, .int .i64, .int .u64, .int .u16, .int .i64])) fun l18 =>
                (.unit (Instr.storeAt 37 (.pointer (some ⟨(l2 0).n, 0, none⟩)) (.agg #[.int .i64 ((l18 0).i), .int .u16 ((l18 1).i), .int .i64 ((l18 2).i), .int .i64 ((l18 3).i), .int .u32 ((l18 4).i), .int .i64 ((l18 5).i), .int .u64 ((l18 6).i), .int .u16 ((l18 7).i), .int .i64 ((l18 8).i)]))
                 (.rd (loadVar 37 ⟨(l2 0).n, 0, none⟩) (.one (.agg [.int .i64, .int .u16, .int .i64, .int .i64, .int .u32, .int .i64, .int .u64, .int .u16, .int .i64])) fun l19 =>
                  (.done (.agg #[.int .i64 ((l19 0).i), .int .u16 ((l19 1).i), .int .i64 ((l19 2).i), .int .i64 ((l19 3).i), .int .u32 ((l19 4).i), .int .i64 ((l19 5).i), .int .u64 ((l19 6).i), .int .u16 ((l19 7).i), .int .i64 ((l19 8).i)])))))))
             (.ite (((l5 0).i : Int) == 4)
              (.rd (Instr.loadAt 34 (.pointer (some ⟨(l1 0).n, 4, none⟩))) (.one (.agg [.int .u32, .int .i64])) fun l20 =>
               (.rd (Instr.loadAt 32 (.pointer (some ⟨(l1 0).n, 1, none⟩))) (.one (.sc (.int .u16))) fun l21 =>
                (.rd (Instr.loadAt 3 (.pointer (some ⟨(l1 0).n, 8, none⟩))) (.one (.sc (.int .i64))) fun l22 =>
                 (.rd (Instr.loadAt 35 (.pointer (some ⟨(l1 0).n, 6, none⟩))) (.one (.sc (.int .u64))) fun l23 =>
                  (.unit (Instr.storeAt 34 (.pointer (some ⟨(l4 0).n, 4, none⟩)) (.agg #[.int .u32 ((l20 0).i), .int .i64 ((l20 1).i)]))
                   (.pin (vN (Instr.loadAt 35 (.pointer (some ⟨(l1 0).n, 6, none⟩)))) (.int .u64 ((l23 0).i))
                    (.pin (vN (Instr.loadAt 3 (.pointer (some ⟨(l1 0).n, 8, none⟩)))) (.int .i64 ((l22 0).i))
                     (.pin (vN (Instr.loadAt 32 (.pointer (some ⟨(l1 0).n, 1, none⟩)))) (.int .u16 ((l21 0).i))
                      (.unit (Instr.storeAt 32 (.pointer (some ⟨(l4 0).n, 1, none⟩)) (.int .u16 ((l21 0).i)))
                       (.pin (vN (Instr.loadAt 35 (.pointer (some ⟨(l1 0).n, 6, none⟩)))) (.int .u64 ((l23 0).i))
                        (.pin (vN (Instr.loadAt 3 (.pointer (some ⟨(l1 0).n, 8, none⟩)))) (.int .i64 ((l22 0).i))
                         (.unit (Instr.storeAt 3 (.pointer (some ⟨(l4 0).n, 8, none⟩)) (.int .i64 ((l22 0).i)))
                          (.pin (vN (Instr.loadAt 35 (.pointer (some ⟨(l1 0).n, 6, none⟩)))) (.int .u64 ((l23 0).i))
                           (.unit (Instr.storeAt 35 (.pointer (some ⟨(l4 0).n, 6, none⟩)) (.int .u64 ((l23 0).i)))
                            (.rd (Instr.loadAt 37 (.pointer (some ⟨(l4 0).n, 0, none⟩))) (.one (.agg [.int .i64, .int .u16, .int .i64, .int .i64, .int .u32, .int .i64, .int .u64, .int .u16, .int .i64])) fun l24 =>
                             (.unit (Instr.storeAt 37 (.pointer (some ⟨(l2 0).n, 0, none⟩)) (.agg #[.int .i64 ((l24 0).i), .int .u16 ((l24 1).i), .int .i64 ((l24 2).i), .int .i64 ((l24 3).i), .int .u32 ((l24 4).i), .int .i64 ((l24 5).i), .int .u64 ((l24 6).i), .int .u16 ((l24 7).i), .int .i64 ((l24 8).i)]))
                              (.rd (loadVar 37 ⟨(l2 0).n, 0, none⟩) (.one (.agg [.int .i64, .int .u16, .int .i64, .int .i64, .int .u32, .int .i64, .int .u64, .int .u16, .int .i64])) fun l25 =>
                               (.done (.agg #[.int .i64 ((l25 0).i), .int .u16 ((l25 1).i), .int .i64 ((l25 2).i), .int .i64 ((l25 3).i), .int .u32 ((l25 4).i), .int .i64 ((l25 5).i), .int .u64 ((l25 6).i), .int .u16 ((l25 7).i), .int .i64 ((l25 8).i)])))))))))))))))))))
              (.rd (Instr.loadAt 37 (.pointer (some ⟨(l4 0).n, 0, none⟩))) (.one (.agg [.int .i64, .int .u16, .int .i64, .int .i64, .int .u32, .int .i64, .int .u64, .int .u16, .int .i64])) fun l26 =>
               (.unit (Instr.storeAt 37 (.pointer (some ⟨(l2 0).n, 0, none⟩)) (.agg #[.int .i64 ((l26 0).i), .int .u16 ((l26 1).i), .int .i64 ((l26 2).i), .int .i64 ((l26 3).i), .int .u32 ((l26 4).i), .int .i64 ((l26 5).i), .int .u64 ((l26 6).i), .int .u16 ((l26 7).i), .int .i64 ((l26 8).i)]))
                (.rd (loadVar 37 ⟨(l2 0).n, 0, none⟩) (.one (.agg [.int .i64, .int .u16, .int .i64, .int .i64, .int .u32, .int .i64, .int .u64, .int .u16, .int .i64])) fun l27 =>
                 (.done (.agg #[.int .i64 ((l27 0).i), .int .u16 ((l27 1).i), .int .i64 ((l27 2).i), .int .i64 ((l27 3).i), .int .u32 ((l27 4).i), .int .i64 ((l27 5).i), .int .u64 ((l27 6).i), .int .u16 ((l27 7).i), .int .i64 ((l27 8).i)])))))))))))))))) h) : Fn Try.prog 37 #[.agg #[.int .i64 a0_0, .int .u16 a0_1, .int .i64 a0_2, .int .i64 a0_3, .int .u32 a0_4, .int .i64 a0_5, .int .u64 a0_6, .int .u16 a0_7, .int .i64 a0_8]] I h Q :=
  Wp.fn (args := [.agg #[.int .i64 a0_0, .int .u16 a0_1, .int .i64 a0_2, .int .i64 a0_3, .int .u32 a0_4, .int .i64 a0_5, .int .u64 a0_6, .int .u16 a0_7, .int .i64 a0_8]]) Try.func37 rfl (by kernel_rfl) (of_tree (cfg := g_babelpkt_plain) 1000 (by kernel_rfl) Try.func37 rfl Try.checked.mixed hh)
theorem ca_babelpkt_plain : callable Try.prog 37 := ⟨_, Try.func37, by kernel_rfl, by kernel_rfl⟩
/-! ### prefix_May: function 38 of Go -/
abbrev F_prefix_May : FuncId := 38
noncomputable def c_prefix_May : Code := (Try.f38.body).getD .skip
def p_prefix_May : Nat → List (List Nat) := fun r => match r with | 1 => [[], [0], [0, 1], [0, 1, 2], [0, 1, 2, 3], [0, 1, 2, 3, 4], [0, 1, 2, 3, 4, 5], [0, 1, 2, 3, 4, 5, 6], [0, 1, 2, 3, 4, 5, 6, 7], [0, 1, 2, 3, 4, 5, 6, 7, 8], [0, 1, 2, 3, 4, 5, 6, 7, 8, 9], [0, 1, 2, 3, 4, 5, 6, 7, 8], [0, 1, 2, 3, 4, 5, 6, 7, 8, 11], [0, 1, 2, 3, 4, 5, 6, 7, 8, 11, 12], [0, 1, 2, 3, 4, 5, 6, 7, 8, 9, 10, 11, 12, 13], [0, 1, 2, 3, 4, 5, 6, 7, 8, 9, 10, 11, 12, 13, 14], [0, 1, 2, 3, 4, 5, 6, 7, 8, 9, 10, 11, 12, 13, 14, 15], [0, 1, 2, 3, 4, 5, 6, 7, 8, 9, 10, 11, 12, 13, 14, 15, 16]] | _ => []
noncomputable def g_prefix_May : Cfg := { sh := shs, fsh := fshs, results := [.tmp 2], hint := fun _ _ => none, ord := fun r => match r with | 1 => some [0, 1, 2, 3, 4, 5, 6, 7, 8, 9, 10, 11, 12, 13, 14, 15, 16, 17] | _ => none, pre := p_prefix_May, un := unOf p_prefix_May }
set_option maxRecDepth 100000 in
set_option maxHeartbeats 4000000 in
theorem r_prefix_May (a0_0 : Int) (a0_1 : Int) {I : Ctx} {h : Mem} {Q : Value → Mem → Prop}
  (hh : holds Try.prog 38 I (cl_ Q)
   (.sem (Instr.box 34 (.agg #[.int .u32 a0_0, .int .i64 a0_1])) shBlk fun l1 =>
    (.rd (Instr.loadAt 3 (.pointer (some ⟨(l1 0).n, 1, none⟩))) (.one (.sc (.int .i64))) fun l2 =>
     (.ite (decide (((l2 0).i : Int) ≥ 0))
      (.rd (Instr.loadAt 3 (.pointer (some ⟨(l1 0).n, 1, none⟩))) (.one (.sc (.int .i64))) fun l3 =>
       (.ite (decide (((l3 0).i : Int) ≤ 32))
        (.rd (Instr.loadAt 23 (.pointer (some ⟨(l1 0).n, 0, none⟩))) (.one (.sc (.int .u32))) fun l4 =>
         (.rd (Instr.loadAt 3 (.pointer (some ⟨(l1 0).n, 1, none⟩))) (.one (.sc (.int .i64))) fun l5 =>
          (.call 58 [.int .i64 ((l5 0).i)] (.one (.sc (.int .u32))) fun l6 => -- prefix_Mask
           (.pin (vN (Instr.loadAt 23 (.pointer (some ⟨(l1 0).n, 0, none⟩)))) (.int .u32 ((l4 0).i))
            (.done (.bool ((bitop .andNot .u32 ((l4 0).i) ((l6 0).i) : Int) == 0)))))))
        (.done (.bool false))))
      (.done (.bool false))))) h) : Fn Try.prog 38 #[.agg #[.int .u32 a0_0, .int .i64 a0_1]] I h Q :=
  Wp.fn (args := [.agg #[.int .u32 a0_0, .int .i64 a0_1]]) Try.func38 rfl (by kernel_rfl) (of_tree (cfg := g_prefix_May) 1000 (by kernel_rfl) Try.func38 rfl Try.checked.mixed hh)
theorem ca_prefix_May : callable Try.prog 38 := ⟨_, Try.func38, by kernel_rfl, by kernel_rfl⟩
/-! ### slices_IndexFunc_BabelTlv: function 39 of Go -/
abbrev F_slices_IndexFunc_BabelTlv : FuncId := 39
noncomputable def c_slices_IndexFunc_BabelTlv : Code := (Try.f39.body).getD .skip
noncomputable def g_slices_IndexFunc_BabelTlv : Cfg := { sh := shs, fsh := fshs, results := [.tmp 4], hint := fun _ _ => none, ord := fun _ => none, pre := fun _ => [], un := fun _ _ _ => false }
noncomputable def k_slices_IndexFunc_BabelTlv_1 : List Item := [.code (bd (bd (sr (sl (sr c_slices_IndexFunc_BabelTlv))))), .inLoop (bd (bd (sr (sl (sr c_slices_IndexFunc_BabelTlv))))), .inBlock 0, .code (sr (sr c_slices_IndexFunc_BabelTlv))]
noncomputable def t_slices_IndexFunc_BabelTlv_1 (Aa0 : Option Addr) (na0 : Nat) (ca0 : Nat) (x8 : Int) (u : Nat → Value) : List Value := [.slice Aa0 na0 ca0, .func (.func 19) #[] #[], undef, undef, (u 4), (u 5), (u 6), .int .i64 ((na0 : Nat) : Int), .int .i64 x8, (u 9), (u 10), (u 11), (u 12), (u 13), (u 14), (u 15), (u 16), (u 17), (u 18)]
set_option maxRecDepth 100000 in
set_option maxHeartbeats 4000000 in
theorem r_slices_IndexFunc_BabelTlv (Aa0 : Option Addr) (na0 : Nat) (ca0 : Nat) {I : Ctx} {h : Mem} {Q : Value → Mem → Prop}
  (hh : holds Try.prog 39 I (cl_ Q)
   (.stop k_slices_IndexFunc_BabelTlv_1 (t_slices_IndexFunc_BabelTlv_1 Aa0 na0 ca0 0 (jl [(4, .int .i64 0), (5, undef), (6, .slice Aa0 na0 ca0), (9, undef), (10, undef), (11, undef), (12, undef), (13, undef), (14, undef), (15, undef), (16, undef), (17, undef), (18, undef)]))) h) : Fn Try.prog 39 #[.slice Aa0 na0 ca0, .func (.func 19) #[] #[]] I h Q :=
  Wp.fn (args := [.slice Aa0 na0 ca0, .func (.func 19) #[] #[]]) Try.func39 rfl (by kernel_rfl) (of_tree (cfg := g_slices_IndexFunc_BabelTlv) 1000 (by kernel_rfl) Try.func39 rfl Try.checked.mixed hh)
theorem ca_slices_IndexFunc_BabelTlv : callable Try.prog 39 := ⟨_, Try.func39, by kernel_rfl, by kernel_rfl⟩
set_option maxRecDepth 100000 in
set_option maxHeartbeats 4000000 in
theorem r_slices_IndexFunc_BabelTlv_1 (Aa0 : Option Addr) (na0 : Nat) (ca0 : Nat) (x8 : Int) (u : Nat → Value) {I : Ctx} {h : Mem} {Q : Value → Mem → Prop}
  (hh : holds Try.prog 39 I Q
   (.ite (decide ((x8 : Int) < ((na0 : Nat) : Int)))
    (.rd (Instr.indexAt 22 (.slice Aa0 na0 ca0) (.int .i64 x8)) (.one (.sc (.padr))) fun l1 =>
     (.rd (Instr.loadAt 37 (.pointer (some ((l1 0).a)))) (.one (.agg [.int .i64, .int .u16, .int .i64, .int .i64, .int .u32, .int .i64, .int .u64, .int .u16, .int .i64])) fun l2 =>
      (.call 19 [.agg #[.int .i64 ((l2 0).i), .int .u16 ((l2 1).i), .int .i64 ((l2 2).i), .int .i64 ((l2 3).i), .int .u32 ((l2 4).i), .int .i64 ((l2 5).i), .int .u64 ((l2 6).i), .int .u16 ((l2 7).i), .int .i64 ((l2 8).i)]] (.one (.sc (.bool))) fun l3 => -- babelpkt_Encode_fn1
       (.ite ((l3 0).b)
        (.done (.int .i64 x8))
        (.stop k_slices_IndexFunc_BabelTlv_1 (t_slices_IndexFunc_BabelTlv_1 Aa0 na0 ca0 (IntKind.wrap .i64 (x8 + 1)) (jl [(4, (u 4)), (5, .int .i64 x8), (6, (u 6)), (9, .bool (decide ((x8 : Int) < ((na0 : Nat) : Int)))), (10, .int .i64 x8), (11, .func (.func 19) #[] #[]), (12, .slice Aa0 na0 ca0), (13, .int .i64 x8), (14, .pointer (some ((l1 0).a))), (15, .agg #[.int .i64 ((l2 0).i), .int .u16 ((l2 1).i), .int .i64 ((l2 2).i), .int .i64 ((l2 3).i), .int .u32 ((l2 4).i), .int .i64 ((l2 5).i), .int .u64 ((l2 6).i), .int .u16 ((l2 7).i), .int .i64 ((l2 8).i)]), (16, .bool ((l3 0).b)), (17, (u 17)), (18, .int .i64 (IntKind.wrap .i64 (x8 + 1)))])))))))
    (.done (.int .i64 (-1)))) h) : Wp Try.prog 39 k_slices_IndexFunc_BabelTlv_1 (t_slices_IndexFunc_BabelTlv_1 Aa0 na0 ca0 x8 u) I h Q :=
  of_tree (cfg := g_slices_IndexFunc_BabelTlv) 1000 (by kernel_rfl) Try.func39 rfl Try.checked.mixed hh
/-! ### babelpkt_tlv: function 40 of Go -/
abbrev F_babelpkt_tlv : FuncId := 40
noncomputable def c_babelpkt_tlv : Code := (Try.f40.body).getD .skip
noncomputable def g_babelpkt_tlv : Cfg := { sh := shs, fsh := fshs, results := [.tmp 4], hint := fun _ _ => none, ord := fun _ => none, pre := fun _ => [], un := fun _ _ _ => false }
set_option maxRecDepth 100000 in
set_option maxHeartbeats 4000000 in
theorem r_babelpkt_tlv (a0 : Int) (Aa1 : Option Addr) (na1 : Nat) (ca1 : Nat) {I : Ctx} {h : Mem} {Q : Value → Mem → Prop}
  (hh : holds Try.prog 40 I (cl_ Q)
   (.call 23 [.slice Aa1 na1 ca1] (.one (.sc (.sl))) fun l1 => -- slices_Concat_byte
    (.sem (Instr.buildSlice 25 2 #[(0, .int .u8 a0), (1, .int .u8 (IntKind.wrap .u8 (((l1 0).n : Nat) : Int)))]) (.one (.sc (.row 2))) fun l2 =>
     (.nx (builtin .append #[25, 25] 25 #[false, false] #[.slice (some ⟨(l2 0).n, 0, none⟩) 2 2, .slice ((l1 0).A) ((l1 0).n) ((l1 0).c)]) (.one (.sc (.sl))) fun l3 =>
      (.done (.slice ((l3 0).A) ((l3 0).n) ((l3 0).c)))))) h) : Fn Try.prog 40 #[.int .u8 a0, .slice Aa1 na1 ca1] I h Q :=
  Wp.fn (args := [.int .u8 a0, .slice Aa1 na1 ca1]) Try.func40 rfl (by kernel_rfl) (of_tree (cfg := g_babelpkt_tlv) 1000 (by kernel_rfl) Try.func40 rfl Try.checked.mixed hh)
theorem ca_babelpkt_tlv : callable Try.prog 40 := ⟨_, Try.func40, by kernel_rfl, by kernel_rfl⟩
/-! ### num_Put16: function 41 of Go -/
abbrev F_num_Put16 : FuncId := 41
noncomputable def c_num_Put16 : Code := (Try.f41.body).getD .skip
noncomputable def g_num_Put16 : Cfg := { sh := shs, fsh := fshs, results := [.tmp 2], hint := fun _ _ => none, ord := fun _ => none, pre := fun _ => [], un := fun _ _ _ => false }
set_option maxRecDepth 100000 in
set_option maxHeartbeats 4000000 in
theorem r_num_Put16 (a0 : Int) {I : Ctx} {h : Mem} {Q : Value → Mem → Prop}
  (hh : holds Try.prog 41 I (cl_ Q)
   (.call 49 [.int .u32 (IntKind.wrap .u32 a0), .int .i64 2] (.one (.sc (.sl))) fun l1 => -- num_put
    (.done (.slice ((l1 0).A) ((l1 0).n) ((l1 0).c)))) h) : Fn Try.prog 41 #[.int .u16 a0] I h Q :=
  Wp.fn (args := [.int .u16 a0]) Try.func41 rfl (by kernel_rfl) (of_tree (cfg := g_num_Put16) 1000 (by kernel_rfl) Try.func41 rfl Try.checked.mixed hh)
theorem ca_num_Put16 : callable Try.prog 41 := ⟨_, Try.func41, by kernel_rfl, by kernel_rfl⟩
/-! ### babelpkt_writer_update: function 42 of Go -/
abbrev F_babelpkt_writer_update : FuncId := 42
noncomputable def c_babelpkt_writer_update : Code := (Try.f42.body).getD .skip
def p_babelpkt_writer_update : Nat → List (List Nat) := fun r => match r with | 1 => [[], [0], [0, 1], [0, 1, 2], [0, 1, 2, 3], [0, 1, 2, 3, 4], [0, 1, 2, 3, 4, 5], [0, 1, 2, 3, 4, 5, 6], [0, 1, 2, 3, 4, 5, 6, 7], [0, 1, 2, 3, 4, 5, 6, 7, 8], [0, 1, 2, 3, 4, 5], [0, 1, 2, 3, 4, 5, 10], [0, 1, 2, 3, 4, 5, 6, 7, 8, 9, 10, 11], [0, 1, 2, 3, 4, 5, 6, 7, 8, 9, 10, 11, 12]] | 2 => [[], [], [1], [1, 2], [1, 2, 3], [], [], [6], [6, 7], [5, 6, 7, 8], [5, 6, 7, 8, 9], [1, 2, 3, 4, 5, 6, 7, 8, 9, 10], [0, 1, 2, 3, 4, 5, 6, 7, 8, 9, 10, 11], [0, 1, 2, 3, 4, 5, 6, 7, 8, 9, 10, 11, 12], [0, 1, 2, 3, 4, 5, 6, 7, 8, 9, 10, 11, 12, 13]] | 4 => [[], [0], [0, 1], [0, 1, 2], [], [4], [4, 5], [], [7], [7, 8], [7, 8, 9], [0, 1, 2, 3, 4, 5, 6, 7, 8, 9, 10], [0, 1, 2, 3, 4, 5, 6, 7, 8, 9, 10, 11]] | 8 => [[], [], [1], [1, 2], [1, 2, 3], [], [5], [5, 6], [5, 6, 7], [], [9], [5, 6, 7, 8, 9, 10], [], [12], [12, 13], [], [15], [12, 13, 14, 15, 16], [], [18], [12, 13, 14, 15, 16, 17, 18, 19], [], [21], [12, 13, 14, 15, 16, 17, 18, 19, 20, 21, 22], [], [12, 13, 14, 15, 16, 17, 18, 19, 20, 21, 22, 23, 24], [], [5, 6, 7, 8, 9, 10, 11, 12, 13, 14, 15, 16, 17, 18, 19, 20, 21, 22, 23, 24, 25, 26], [5, 6, 7, 8, 9, 10, 11, 12, 13, 14, 15, 16, 17, 18, 19, 20, 21, 22, 23, 24, 25, 26, 27], [1, 2, 3, 4, 5, 6, 7, 8, 9, 10, 11, 12, 13, 14, 15, 16, 17, 18, 19, 20, 21, 22, 23, 24, 25, 26, 27, 28], [0, 1, 2, 3, 4, 5, 6, 7, 8, 9, 10, 11, 12, 13, 14, 15, 16, 17, 18, 19, 20, 21, 22, 23, 24, 25, 26, 27, 28, 29], [0, 1, 2, 3, 4, 5, 6, 7, 8, 9, 10, 11, 12, 13, 14, 15, 16, 17, 18, 19, 20, 21, 22, 23, 24, 25, 26, 27, 28, 29, 30], [0, 1, 2, 3, 4, 5, 6, 7, 8, 9, 10, 11, 12, 13, 14, 15, 16, 17, 18, 19, 20, 21, 22, 23, 24, 25, 26, 27, 28, 29, 30, 31]] | _ => []
noncomputable def g_babelpkt_writer_update : Cfg := { sh := shs, fsh := fshs, results := [], hint := fun _ _ => none, ord := fun r => match r with | 1 => some [0, 1, 2, 3, 4, 5, 6, 7, 8, 9, 10, 11, 12, 13] | 2 => some [0, 1, 2, 3, 4, 6, 7, 8, 5, 9, 10, 11, 12, 13, 14] | 4 => some [0, 1, 2, 3, 4, 5, 6, 7, 8, 9, 10, 11, 12] | 8 => some [0, 1, 2, 3, 4, 5, 6, 7, 8, 9, 10, 12, 13, 15, 16, 18, 19, 21, 22, 24, 26, 14, 17, 20, 23, 25, 11, 27, 28, 29, 30, 31, 32] | _ => none, pre := p_babelpkt_writer_update, un := unOf p_babelpkt_writer_update }
set_option maxRecDepth 100000 in
set_option maxHeartbeats 4000000 in
theorem r_babelpkt_writer_update (a0 : Addr) (a1_0 : Int) (a1_1 : Int) (a1_2 : Int) (a1_3 : Int) (a1_4 : Int) (a1_5 : Int) (a1_6 : Int) (a1_7 : Int) (a1_8 : Int) {I : Ctx} {h : Mem} {Q : Value → Mem → Prop}
  (hh : holds Try.prog 42 I (cl_ Q)
   (.sem (Instr.box 37 (.agg #[.int .i64 a1_0, .int .u16 a1_1, .int .i64 a1_2, .int .i64 a1_3, .int .u32 a1_4, .int .i64 a1_5, .int .u64 a1_6, .int .u16 a1_7, .int .i64 a1_8])) shBlk fun l1 =>
    (.rd (Instr.loadAt 4 (.pointer (some (a0.add 2)))) (.one (.sc (.bool))) fun l2 =>
     (.ite (!((l2 0).b))
      (.rd (Instr.loadAt 25 (.pointer (some a0))) (.one (.sc (.sl))) fun l3 =>
       (.rd (Instr.loadAt 35 (.pointer (some ⟨(l1 0).n, 6, none⟩))) (.one (.sc (.int .u64))) fun l4 =>
        (.call 44 [.int .u64 ((l4 0).i)] (.one (.sc (.sl))) fun l5 => -- babelpkt_long
         (.pin (vN (Instr.loadAt 25 (.pointer (some a0)))) (.slice ((l3 0).A) ((l3 0).n) ((l3 0).c))
          (.sem (Instr.buildSlice 25 2 #[(0, .int .u8 0), (1, .int .u8 0)]) (.one (.sc (.row 2))) fun l6 =>
           (.sem (Instr.buildSlice 73 2 #[(0, .slice (some ⟨(l6 0).n, 0, none⟩) 2 2), (1, .slice ((l5 0).A) ((l5 0).n) ((l5 0).c))]) (.one (.sc (.row 2))) fun l7 =>
            (.call 40 [.int .u8 6, .slice (some ⟨(l7 0).n, 0, none⟩) 2 2] (.one (.sc (.sl))) fun l8 => -- babelpkt_tlv
             (.pin (vN (Instr.loadAt 25 (.pointer (some a0)))) (.slice ((l3 0).A) ((l3 0).n) ((l3 0).c))
              (.nx (builtin .append #[25, 25] 25 #[false, false] #[.slice ((l3 0).A) ((l3 0).n) ((l3 0).c), .slice ((l8 0).A) ((l8 0).n) ((l8 0).c)]) (.one (.sc (.sl))) fun l9 =>
               (.unit (Instr.storeAt 25 (.pointer (some a0)) (.slice ((l9 0).A) ((l9 0).n) ((l9 0).c)))
                (.rd (Instr.loadAt 35 (.pointer (some ⟨(l1 0).n, 6, none⟩))) (.one (.sc (.int .u64))) fun l10 =>
                 (.unit (Instr.storeAt 35 (.pointer (some (a0.add 1))) (.int .u64 ((l10 0).i)))
                  (.unit (Instr.storeAt 4 (.pointer (some (a0.add 2))) (.bool true))
                   (.rd (Instr.loadAt 23 (.pointer (some (a0.add 3)))) (.one (.sc (.int .u32))) fun l11 =>
                    (.rd (Instr.loadAt 23 (.pointer (some ⟨(l1 0).n, 4, none⟩))) (.one (.sc (.int .u32))) fun l12 =>
                     (.rd (Instr.loadAt 3 (.pointer (some ⟨(l1 0).n, 5, none⟩))) (.one (.sc (.int .i64))) fun l13 =>
                      (.call 59 [.int .i64 ((l13 0).i)] (.one (.sc (.int .i64))) fun l14 => -- babelpkt_needs
                       (.pin (vN (Instr.loadAt 23 (.pointer (some ⟨(l1 0).n, 4, none⟩)))) (.int .u32 ((l12 0).i))
                        (.pin (vN (Instr.loadAt 23 (.pointer (some (a0.add 3))))) (.int .u32 ((l11 0).i))
                         (.call 14 [.int .u32 ((l11 0).i), .int .u32 ((l12 0).i), .int .i64 ((l14 0).i)] (.one (.sc (.int .i64))) fun l15 => -- babelpkt_Squeeze
                          (.rd (Instr.loadAt 32 (.pointer (some ⟨(l1 0).n, 7, none⟩))) (.one (.sc (.int .u16))) fun l16 =>
                           (.ite (((l16 0).i : Int) != 0)
                            (.rd (Instr.loadAt 32 (.pointer (some ⟨(l1 0).n, 7, none⟩))) (.one (.sc (.int .u16))) fun l17 =>
                             (.call 41 [.int .u16 ((l17 0).i)] (.one (.sc (.sl))) fun l18 => -- num_Put16
                              (.sem (Instr.buildSlice 73 1 #[(0, .slice ((l18 0).A) ((l18 0).n) ((l18 0).c))]) (.one (.sc (.row 1))) fun l19 =>
                               (.call 40 [.int .u8 200, .slice (some ⟨(l19 0).n, 0, none⟩) 1 1] (.one (.sc (.sl))) fun l20 => -- babelpkt_tlv
                                (.rd (Instr.loadAt 25 (.pointer (some a0))) (.one (.sc (.sl))) fun l21 =>
                                 (.rd (Instr.loadAt 3 (.pointer (some ⟨(l1 0).n, 5, none⟩))) (.one (.sc (.int .i64))) fun l22 =>
                                  (.rd (Instr.loadAt 3 (.pointer (some ⟨(l1 0).n, 2, none⟩))) (.one (.sc (.int .i64))) fun l23 =>
                                   (.rd (Instr.loadAt 32 (.pointer (some ⟨(l1 0).n, 1, none⟩))) (.one (.sc (.int .u16))) fun l24 =>
                                    (.rd (Instr.loadAt 3 (.pointer (some ⟨(l1 0).n, 3, none⟩))) (.one (.sc (.int .i64))) fun l25 =>
                                     (.rd (Instr.loadAt 34 (.pointer (some ⟨(l1 0).n, 4, none⟩))) (.one (.agg [.int .u32, .int .i64])) fun l26 =>
                                      (.call 24 [.int .i64 ((l23 0).i)] (.one (.sc (.sl))) fun l27 => -- babelpkt_two
                                       (.pin (vN (Instr.loadAt 34 (.pointer (some ⟨(l1 0).n, 4, none⟩)))) (.agg #[.int .u32 ((l26 0).i), .int .i64 ((l26 1).i)])
                                        (.pin (vN (Instr.loadAt 3 (.pointer (some ⟨(l1 0).n, 3, none⟩)))) (.int .i64 ((l25 0).i))
                                         (.pin (vN (Instr.loadAt 32 (.pointer (some ⟨(l1 0).n, 1, none⟩)))) (.int .u16 ((l24 0).i))
                                          (.pin (vN (Instr.loadAt 3 (.pointer (some ⟨(l1 0).n, 5, none⟩)))) (.int .i64 ((l22 0).i))
                                           (.pin (vN (Instr.loadAt 25 (.pointer (some a0)))) (.slice ((l21 0).A) ((l21 0).n) ((l21 0).c))
                                            (.call 41 [.int .u16 ((l24 0).i)] (.one (.sc (.sl))) fun l28 => -- num_Put16
                                             (.pin (vN (Instr.loadAt 34 (.pointer (some ⟨(l1 0).n, 4, none⟩)))) (.agg #[.int .u32 ((l26 0).i), .int .i64 ((l26 1).i)])
                                              (.pin (vN (Instr.loadAt 3 (.pointer (some ⟨(l1 0).n, 3, none⟩)))) (.int .i64 ((l25 0).i))
                                               (.pin (vN (Instr.loadAt 3 (.pointer (some ⟨(l1 0).n, 5, none⟩)))) (.int .i64 ((l22 0).i))
                                                (.pin (vN (Instr.loadAt 25 (.pointer (some a0)))) (.slice ((l21 0).A) ((l21 0).n) ((l21 0).c))
                                                 (.call 24 [.int .i64 ((l25 0).i)] (.one (.sc (.sl))) fun l29 => -- babelpkt_two
                                                  (.pin (vN (Instr.loadAt 34 (.pointer (some ⟨(l1 0).n, 4, none⟩)))) (.agg #[.int .u32 ((l26 0).i), .int .i64 ((l26 1).i)])
                                                   (.pin (vN (Instr.loadAt 3 (.pointer (some ⟨(l1 0).n, 5, none⟩)))) (.int .i64 ((l22 0).i))
                                                    (.pin (vN (Instr.loadAt 25 (.pointer (some a0)))) (.slice ((l21 0).A) ((l21 0).n) ((l21 0).c))
                                                     (.call 43 [.agg #[.int .u32 ((l26 0).i), .int .i64 ((l26 1).i)]] (.one (.sc (.sl))) fun l30 => -- babelpkt_addr
                                                      (.pin (vN (Instr.loadAt 3 (.pointer (some ⟨(l1 0).n, 5, none⟩)))) (.int .i64 ((l22 0).i))
                                                       (.pin (vN (Instr.loadAt 25 (.pointer (some a0)))) (.slice ((l21 0).A) ((l21 0).n) ((l21 0).c))
                                                        (.rd (Instr.sliceAt 25 (.slice ((l30 0).A) ((l30 0).n) ((l30 0).c)) (some (.int .i64 ((l15 0).i))) none none) (.one (.sc (.sl))) fun l31 =>
                                                         (.sem (Instr.buildSlice 25 4 #[(0, .int .u8 1), (1, .int .u8 128), (2, .int .u8 (IntKind.wrap .u8 ((l22 0).i))), (3, .int .u8 (IntKind.wrap .u8 ((l15 0).i)))]) (.one (.sc (.row 4))) fun l32 =>
                                                          (.sem (Instr.buildSlice 73 6 #[(0, .slice (some ⟨(l32 0).n, 0, none⟩) 4 4), (1, .slice ((l27 0).A) ((l27 0).n) ((l27 0).c)), (2, .slice ((l28 0).A) ((l28 0).n) ((l28 0).c)), (3, .slice ((l29 0).A) ((l29 0).n) ((l29 0).c)), (4, .slice ((l31 0).A) ((l31 0).n) ((l31 0).c)), (5, .slice ((l20 0).A) ((l20 0).n) ((l20 0).c))]) (.one (.sc (.row 6))) fun l33 =>
                                                           (.call 40 [.int .u8 8, .slice (some ⟨(l33 0).n, 0, none⟩) 6 6] (.one (.sc (.sl))) fun l34 => -- babelpkt_tlv
                                                            (.pin (vN (Instr.loadAt 25 (.pointer (some a0)))) (.slice ((l21 0).A) ((l21 0).n) ((l21 0).c))
                                                             (.nx (builtin .append #[25, 25] 25 #[false, false] #[.slice ((l21 0).A) ((l21 0).n) ((l21 0).c), .slice ((l34 0).A) ((l34 0).n) ((l34 0).c)]) (.one (.sc (.sl))) fun l35 =>
                                                              (.unit (Instr.storeAt 25 (.pointer (some a0)) (.slice ((l35 0).A) ((l35 0).n) ((l35 0).c)))
                                                               (.rd (Instr.loadAt 23 (.pointer (some ⟨(l1 0).n, 4, none⟩))) (.one (.sc (.int .u32))) fun l36 =>
                                                                (.unit (Instr.storeAt 23 (.pointer (some (a0.add 3))) (.int .u32 ((l36 0).i)))
                                                                 (.done (undef)))))))))))))))))))))))))))))))))))))))
                            (.rd (Instr.loadAt 25 (.pointer (some a0))) (.one (.sc (.sl))) fun l37 =>
                             (.rd (Instr.loadAt 3 (.pointer (some ⟨(l1 0).n, 5, none⟩))) (.one (.sc (.int .i64))) fun l38 =>
                              (.rd (Instr.loadAt 3 (.pointer (some ⟨(l1 0).n, 2, none⟩))) (.one (.sc (.int .i64))) fun l39 =>
                               (.rd (Instr.loadAt 32 (.pointer (some ⟨(l1 0).n, 1, none⟩))) (.one (.sc (.int .u16))) fun l40 =>
                                (.rd (Instr.loadAt 3 (.pointer (some ⟨(l1 0).n, 3, none⟩))) (.one (.sc (.int .i64))) fun l41 =>
                                 (.rd (Instr.loadAt 34 (.pointer (some ⟨(l1 0).n, 4, none⟩))) (.one (.agg [.int .u32, .int .i64])) fun l42 =>
                                  (.call 24 [.int .i64 ((l39 0).i)] (.one (.sc (.sl))) fun l43 => -- babelpkt_two
                                   (.pin (vN (Instr.loadAt 34 (.pointer (some ⟨(l1 0).n, 4, none⟩)))) (.agg #[.int .u32 ((l42 0).i), .int .i64 ((l42 1).i)])
                                    (.pin (vN (Instr.loadAt 3 (.pointer (some ⟨(l1 0).n, 3, none⟩)))) (.int .i64 ((l41 0).i))
                                     (.pin (vN (Instr.loadAt 32 (.pointer (some ⟨(l1 0).n, 1, none⟩)))) (.int .u16 ((l40 0).i))
                                      (.pin (vN (Instr.loadAt 3 (.pointer (some ⟨(l1 0).n, 5, none⟩)))) (.int .i64 ((l38 0).i))
                                       (.pin (vN (Instr.loadAt 25 (.pointer (some a0)))) (.slice ((l37 0).A) ((l37 0).n) ((l37 0).c))
                                        (.call 41 [.int .u16 ((l40 0).i)] (.one (.sc (.sl))) fun l44 => -- num_Put16
                                         (.pin (vN (Instr.loadAt 34 (.pointer (some ⟨(l1 0).n, 4, none⟩)))) (.agg #[.int .u32 ((l42 0).i), .int .i64 ((l42 1).i)])
                                          (.pin (vN (Instr.loadAt 3 (.pointer (some ⟨(l1 0).n, 3, none⟩)))) (.int .i64 ((l41 0).i))
                                           (.pin (vN (Instr.loadAt 3 (.pointer (some ⟨(l1 0).n, 5, none⟩)))) (.int .i64 ((l38 0).i))
                                            (.pin (vN (Instr.loadAt 25 (.pointer (some a0)))) (.slice ((l37 0).A) ((l37 0).n) ((l37 0).c))
                                             (.call 24 [.int .i64 ((l41 0).i)] (.one (.sc (.sl))) fun l45 => -- babelpkt_two
                                              (.pin (vN (Instr.loadAt 34 (.pointer (some ⟨(l1 0).n, 4, none⟩)))) (.agg #[.int .u32 ((l42 0).i), .int .i64 ((l42 1).i)])
                                               (.pin (vN (Instr.loadAt 3 (.pointer (some ⟨(l1 0).n, 5, none⟩)))) (.int .i64 ((l38 0).i))
                                                (.pin (vN (Instr.loadAt 25 (.pointer (some a0)))) (.slice ((l37 0).A) ((l37 0).n) ((l37 0).c))
                                                 (.call 43 [.agg #[.int .u32 ((l42 0).i), .int .i64 ((l42 1).i)]] (.one (.sc (.sl))) fun l46 => -- babelpkt_addr
                                                  (.pin (vN (Instr.loadAt 3 (.pointer (some ⟨(l1 0).n, 5, none⟩)))) (.int .i64 ((l38 0).i))
                                                   (.pin (vN (Instr.loadAt 25 (.pointer (some a0)))) (.slice ((l37 0).A) ((l37 0).n) ((l37 0).c))
                                                    (.rd (Instr.sliceAt 25 (.slice ((l46 0).A) ((l46 0).n) ((l46 0).c)) (some (.int .i64 ((l15 0).i))) none none) (.one (.sc (.sl))) fun l47 =>
                                                     (.sem (Instr.buildSlice 25 4 #[(0, .int .u8 1), (1, .int .u8 128), (2, .int .u8 (IntKind.wrap .u8 ((l38 0).i))), (3, .int .u8 (IntKind.wrap .u8 ((l15 0).i)))]) (.one (.sc (.row 4))) fun l48 =>
                                                      (.sem (Instr.buildSlice 73 6 #[(0, .slice (some ⟨(l48 0).n, 0, none⟩) 4 4), (1, .slice ((l43 0).A) ((l43 0).n) ((l43 0).c)), (2, .slice ((l44 0).A) ((l44 0).n) ((l44 0).c)), (3, .slice ((l45 0).A) ((l45 0).n) ((l45 0).c)), (4, .slice ((l47 0).A) ((l47 0).n) ((l47 0).c)), (5, .slice none 0 0)]) (.one (.sc (.row 6))) fun l49 =>
                                                       (.call 40 [.int .u8 8, .slice (some ⟨(l49 0).n, 0, none⟩) 6 6] (.one (.sc (.sl))) fun l50 => -- babelpkt_tlv
                                                        (.pin (vN (Instr.loadAt 25 (.pointer (some a0)))) (.slice ((l37 0).A) ((l37 0).n) ((l37 0).c))
                                                         (.nx (builtin .append #[25, 25] 25 #[false, false] #[.slice ((l37 0).A) ((l37 0).n) ((l37 0).c), .slice ((l50 0).A) ((l50 0).n) ((l50 0).c)]) (.one (.sc (.sl))) fun l51 =>
                                                          (.unit (Instr.storeAt 25 (.pointer (some a0)) (.slice ((l51 0).A) ((l51 0).n) ((l51 0).c)))
                                                           (.rd (Instr.loadAt 23 (.pointer (some ⟨(l1 0).n, 4, none⟩))) (.one (.sc (.int .u32))) fun l52 =>
                                                            (.unit (Instr.storeAt 23 (.pointer (some (a0.add 3))) (.int .u32 ((l52 0).i)))
                                                             (.done (undef)))))))))))))))))))))))))))))))))))))))))))))))))))))))))
      (.rd (Instr.loadAt 35 (.pointer (some (a0.add 1)))) (.one (.sc (.int .u64))) fun l53 =>
       (.rd (Instr.loadAt 35 (.pointer (some ⟨(l1 0).n, 6, none⟩))) (.one (.sc (.int .u64))) fun l54 =>
        (.ite (((l53 0).i : Int) != ((l54 0).i))
         (.rd (Instr.loadAt 25 (.pointer (some a0))) (.one (.sc (.sl))) fun l55 =>
          (.rd (Instr.loadAt 35 (.pointer (some ⟨(l1 0).n, 6, none⟩))) (.one (.sc (.int .u64))) fun l56 =>
           (.call 44 [.int .u64 ((l56 0).i)] (.one (.sc (.sl))) fun l57 => -- babelpkt_long
            (.pin (vN (Instr.loadAt 25 (.pointer (some a0)))) (.slice ((l55 0).A) ((l55 0).n) ((l55 0).c))
             (.sem (Instr.buildSlice 25 2 #[(0, .int .u8 0), (1, .int .u8 0)]) (.one (.sc (.row 2))) fun l58 =>
              (.sem (Instr.buildSlice 73 2 #[(0, .slice (some ⟨(l58 0).n, 0, none⟩) 2 2), (1, .slice ((l57 0).A) ((l57 0).n) ((l57 0).c))]) (.one (.sc (.row 2))) fun l59 =>
               (.call 40 [.int .u8 6, .slice (some ⟨(l59 0).n, 0, none⟩) 2 2] (.one (.sc (.sl))) fun l60 => -- babelpkt_tlv
                (.pin (vN (Instr.loadAt 25 (.pointer (some a0)))) (.slice ((l55 0).A) ((l55 0).n) ((l55 0).c))
                 (.nx (builtin .append #[25, 25] 25 #[false, false] #[.slice ((l55 0).A) ((l55 0).n) ((l55 0).c), .slice ((l60 0).A) ((l60 0).n) ((l60 0).c)]) (.one (.sc (.sl))) fun l61 =>
                  (.unit (Instr.storeAt 25 (.pointer (some a0)) (.slice ((l61 0).A) ((l61 0).n) ((l61 0).c)))
                   (.rd (Instr.loadAt 35 (.pointer (some ⟨(l1 0).n, 6, none⟩))) (.one (.sc (.int .u64))) fun l62 =>
                    (.unit (Instr.storeAt 35 (.pointer (some (a0.add 1))) (.int .u64 ((l62 0).i)))
                     (.unit (Instr.storeAt 4 (.pointer (some (a0.add 2))) (.bool true))
                      (.rd (Instr.loadAt 23 (.pointer (some (a0.add 3)))) (.one (.sc (.int .u32))) fun l63 =>
                       (.rd (Instr.loadAt 23 (.pointer (some ⟨(l1 0).n, 4, none⟩))) (.one (.sc (.int .u32))) fun l64 =>
                        (.rd (Instr.loadAt 3 (.pointer (some ⟨(l1 0).n, 5, none⟩))) (.one (.sc (.int .i64))) fun l65 =>
                         (.call 59 [.int .i64 ((l65 0).i)] (.one (.sc (.int .i64))) fun l66 => -- babelpkt_needs
                          (.pin (vN (Instr.loadAt 23 (.pointer (some ⟨(l1 0).n, 4, none⟩)))) (.int .u32 ((l64 0).i))
                           (.pin (vN (Instr.loadAt 23 (.pointer (some (a0.add 3))))) (.int .u32 ((l63 0).i))
                            (.call 14 [.int .u32 ((l63 0).i), .int .u32 ((l64 0).i), .int .i64 ((l66 0).i)] (.one (.sc (.int .i64))) fun l67 => -- babelpkt_Squeeze
                             (.rd (Instr.loadAt 32 (.pointer (some ⟨(l1 0).n, 7, none⟩))) (.one (.sc (.int .u16))) fun l68 =>
                              (.ite (((l68 0).i : Int) != 0)
                               (.rd (Instr.loadAt 32 (.pointer (some ⟨(l1 0).n, 7, none⟩))) (.one (.sc (.int .u16))) fun l69 =>
                                (.call 41 [.int .u16 ((l69 0).i)] (.one (.sc (.sl))) fun l70 => -- num_Put16
                                 (.sem (Instr.buildSlice 73 1 #[(0, .slice ((l70 0).A) ((l70 0).n) ((l70 0).c))]) (.one (.sc (.row 1))) fun l71 =>
                                  (.call 40 [.int .u8 200, .slice (some ⟨(l71 0).n, 0, none⟩) 1 1] (.one (.sc (.sl))) fun l72 => -- babelpkt_tlv
                                   (.rd (Instr.loadAt 25 (.pointer (some a0))) (.one (.sc (.sl))) fun l73 =>
                                    (.rd (Instr.loadAt 3 (.pointer (some ⟨(l1 0).n, 5, none⟩))) (.one (.sc (.int .i64))) fun l74 =>
                                     (.rd (Instr.loadAt 3 (.pointer (some ⟨(l1 0).n, 2, none⟩))) (.one (.sc (.int .i64))) fun l75 =>
                                      (.rd (Instr.loadAt 32 (.pointer (some ⟨(l1 0).n, 1, none⟩))) (.one (.sc (.int .u16))) fun l76 =>
                                       (.rd (Instr.loadAt 3 (.pointer (some ⟨(l1 0).n, 3, none⟩))) (.one (.sc (.int .i64))) fun l77 =>
                                        (.rd (Instr.loadAt 34 (.pointer (some ⟨(l1 0).n, 4, none⟩))) (.one (.agg [.int .u32, .int .i64])) fun l78 =>
                                         (.call 24 [.int .i64 ((l75 0).i)] (.one (.sc (.sl))) fun l79 => -- babelpkt_two
                                          (.pin (vN (Instr.loadAt 34 (.pointer (some ⟨(l1 0).n, 4, none⟩)))) (.agg #[.int .u32 ((l78 0).i), .int .i64 ((l78 1).i)])
                                           (.pin (vN (Instr.loadAt 3 (.pointer (some ⟨(l1 0).n, 3, none⟩)))) (.int .i64 ((l77 0).i))
                                            (.pin (vN (Instr.loadAt 32 (.pointer (some ⟨(l1 0).n, 1, none⟩)))) (.int .u16 ((l76 0).i))
                                             (.pin (vN (Instr.loadAt 3 (.pointer (some ⟨(l1 0).n, 5, none⟩)))) (.int .i64 ((l74 0).i))
                                              (.pin (vN (Instr.loadAt 25 (.pointer (some a0)))) (.slice ((l73 0).A) ((l73 0).n) ((l73 0).c))
                                               (.call 41 [.int .u16 ((l76 0).i)] (.one (.sc (.sl))) fun l80 => -- num_Put16
                                                (.pin (vN (Instr.loadAt 34 (.pointer (some ⟨(l1 0).n, 4, none⟩)))) (.agg #[.int .u32 ((l78 0).i), .int .i64 ((l78 1).i)])
                                                 (.pin (vN (Instr.loadAt 3 (.pointer (some ⟨(l1 0).n, 3, none⟩)))) (.int .i64 ((l77 0).i))
                                                  (.pin (vN (Instr.loadAt 3 (.pointer (some ⟨(l1 0).n, 5, none⟩)))) (.int .i64 ((l74 0).i))
                                                   (.pin (vN (Instr.loadAt 25 (.pointer (some a0)))) (.slice ((l73 0).A) ((l73 0).n) ((l73 0).c))
                                                    (.call 24 [.int .i64 ((l77 0).i)] (.one (.sc (.sl))) fun l81 => -- babelpkt_two
                                                     (.pin (vN (Instr.loadAt 34 (.pointer (some ⟨(l1 0).n, 4, none⟩)))) (.agg #[.int .u32 ((l78 0).i), .int .i64 ((l78 1).i)])
                                                      (.pin (vN (Instr.loadAt 3 (.pointer (some ⟨(l1 0).n, 5, none⟩)))) (.int .i64 ((l74 0).i))
                                                       (.pin (vN (Instr.loadAt 25 (.pointer (some a0)))) (.slice ((l73 0).A) ((l73 0).n) ((l73 0).c))
                                                        (.call 43 [.agg #[.int .u32 ((l78 0).i), .int .i64 ((l78 1).i)]] (.one (.sc (.sl))) fun l82 => -- babelpkt_addr
                                                         (.pin (vN (Instr.loadAt 3 (.pointer (some ⟨(l1 0).n, 5, none⟩)))) (.int .i64 ((l74 0).i))
                                                          (.pin (vN (Instr.loadAt 25 (.pointer (some a0)))) (.slice ((l73 0).A) ((l73 0).n) ((l73 0).c))
                                                           (.rd (Instr.sliceAt 25 (.slice ((l82 0).A) ((l82 0).n) ((l82 0).c)) (some (.int .i64 ((l67 0).i))) none none) (.one (.sc (.sl))) fun l83 =>
                                                            (.sem (Instr.buildSlice 25 4 #[(0, .int .u8 1), (1, .int .u8 128), (2, .int .u8 (IntKind.wrap .u8 ((l74 0).i))), (3, .int .u8 (IntKind.wrap .u8 ((l67 0).i)))]) (.one (.sc (.row 4))) fun l84 =>
                                                             (.sem (Instr.buildSlice 73 6 #[(0, .slice (some ⟨(l84 0).n, 0, none⟩) 4 4), (1, .slice ((l79 0).A) ((l79 0).n) ((l79 0).c)), (2, .slice ((l80 0).A) ((l80 0).n) ((l80 0).c)), (3, .slice ((l81 0).A) ((l81 0).n) ((l81 0).c)), (4, .slice ((l83 0).A) ((l83 0).n) ((l83 0).c)), (5, .slice ((l72 0).A) ((l72 0).n) ((l72 0).c))]) (.one (.sc (.row 6))) fun l85 =>
                                                              (.call 40 [.int .u8 8, .slice (some ⟨(l85 0).n, 0, none⟩) 6 6] (.one (.sc (.sl))) fun l86 => -- babelpkt_tlv
                                                               (.pin (vN (Instr.loadAt 25 (.pointer (some a0)))) (.slice ((l73 0).A) ((l73 0).n) ((l73 0).c))
                                                                (.nx (builtin .append #[25, 25] 25 #[false, false] #[.slice ((l73 0).A) ((l73 0).n) ((l73 0).c), .slice ((l86 0).A) ((l86 0).n) ((l86 0).c)]) (.one (.sc (.sl))) fun l87 =>
                                                                 (.unit (Instr.storeAt 25 (.pointer (some a0)) (.slice ((l87 0).A) ((l87 0).n) ((l87 0).c)))
                                                                  (.rd (Instr.loadAt 23 (.pointer (some ⟨(l1 0).n, 4, none⟩))) (.one (.sc (.int .u32))) fun l88 =>
                                                                   (.unit (Instr.storeAt 23 (.pointer (some (a0.add 3))) (.int .u32 ((l88 0).i)))
                                                                    (.done (undef)))))))))))))))))))))))))))))))))))))))
                               (.rd (Instr.loadAt 25 (.pointer (some a0))) (.one (.sc (.sl))) fun l89 =>
                                (.rd (Instr.loadAt 3 (.pointer (some ⟨(l1 0).n, 5, none⟩))) (.one (.sc (.int .i64))) fun l90 =>
                                 (.rd (Instr.loadAt 3 (.pointer (some ⟨(l1 0).n, 2, none⟩))) (.one (.sc (.int .i64))) fun l91 =>
                                  (.rd (Instr.loadAt 32 (.pointer (some ⟨(l1 0).n, 1, none⟩))) (.one (.sc (.int .u16))) fun l92 =>
                                   (.rd (Instr.loadAt 3 (.pointer (some ⟨(l1 0).n, 3, none⟩))) (.one (.sc (.int .i64))) fun l93 =>
                                    (.rd (Instr.loadAt 34 (.pointer (some ⟨(l1 0).n, 4, none⟩))) (.one (.agg [.int .u32, .int .i64])) fun l94 =>
                                     (.call 24 [.int .i64 ((l91 0).i)] (.one (.sc (.sl))) fun l95 => -- babelpkt_two
                                      (.pin (vN (Instr.loadAt 34 (.pointer (some ⟨(l1 0).n, 4, none⟩)))) (.agg #[.int .u32 ((l94 0).i), .int .i64 ((l94 1).i)])
                                       (.pin (vN (Instr.loadAt 3 (.pointer (some ⟨(l1 0).n, 3, none⟩)))) (.int .i64 ((l93 0).i))
                                        (.pin (vN (Instr.loadAt 32 (.pointer (some ⟨(l1 0).n, 1, none⟩)))) (.int .u16 ((l92 0).i))
                                         (.pin (vN (Instr.loadAt 3 (.pointer (some ⟨(l1 0).n, 5, none⟩)))) (.int .i64 ((l90 0).i))
                                          (.pin (vN (Instr.loadAt 25 (.pointer (some a0)))) (.slice ((l89 0).A) ((l89 0).n) ((l89 0).c))
                                           (.call 41 [.int .u16 ((l92 0).i)] (.one (.sc (.sl))) fun l96 => -- num_Put16
                                            (.pin (vN (Instr.loadAt 34 (.pointer (some ⟨(l1 0).n, 4, none⟩)))) (.agg #[.int .u32 ((l94 0).i), .int .i64 ((l94 1).i)])
                                             (.pin (vN (Instr.loadAt 3 (.pointer (some ⟨(l1 0).n, 3, none⟩)))) (.int .i64 ((l93 0).i))
                                              (.pin (vN (Instr.loadAt 3 (.pointer (some ⟨(l1 0).n, 5, none⟩)))) (.int .i64 ((l90 0).i))
                                               (.pin (vN (Instr.loadAt 25 (.pointer (some a0)))) (.slice ((l89 0).A) ((l89 0).n) ((l89 0).c))
                                                (.call 24 [.int .i64 ((l93 0).i)] (.one (.sc (.sl))) fun l97 => -- babelpkt_two
                                                 (.pin (vN (Instr.loadAt 34 (.pointer (some ⟨(l1 0).n, 4, none⟩)))) (.agg #[.int .u32 ((l94 0).i), .int .i64 ((l94 1).i)])
                                                  (.pin (vN (Instr.loadAt 3 (.pointer (some ⟨(l1 0).n, 5, none⟩)))) (.int .i64 ((l90 0).i))
                                                   (.pin (vN (Instr.loadAt 25 (.pointer (some a0)))) (.slice ((l89 0).A) ((l89 0).n) ((l89 0).c))
                                                    (.call 43 [.agg #[.int .u32 ((l94 0).i), .int .i64 ((l94 1).i)]] (.one (.sc (.sl))) fun l98 => -- babelpkt_addr
                                                     (.pin (vN (Instr.loadAt 3 (.pointer (some ⟨(l1 0).n, 5, none⟩)))) (.int .i64 ((l90 0).i))
                                                      (.pin (vN (Instr.loadAt 25 (.pointer (some a0)))) (.slice ((l89 0).A) ((l89 0).n) ((l89 0).c))
                                                       (.rd (Instr.sliceAt 25 (.slice ((l98 0).A) ((l98 0).n) ((l98 0).c)) (some (.int .i64 ((l67 0).i))) none none) (.one (.sc (.sl))) fun l99 =>
                                                        (.sem (Instr.buildSlice 25 4 #[(0, .int .u8 1), (1, .int .u8 128), (2, .int .u8 (IntKind.wrap .u8 ((l90 0).i))), (3, .int .u8 (IntKind.wrap .u8 ((l67 0).i)))]) (.one (.sc (.row 4))) fun l100 =>
                                                         (.sem (Instr.buildSlice 73 6 #[(0, .slice (some ⟨(l100 0).n, 0, none⟩) 4 4), (1, .slice ((l95 0).A) ((l95 0).n) ((l95 0).c)), (2, .slice ((l96 0).A) ((l96 0).n) ((l96 0).c)), (3, .slice ((l97 0).A) ((l97 0).n) ((l97 0).c)), (4, .slice ((l99 0).A) ((l99 0).n) ((l99 0).c)), (5, .slice none 0 0)]) (.one (.sc (.row 6))) fun l101 =>
                                                          (.call 40 [.int .u8 8, .slice (some ⟨(l101 0).n, 0, none⟩) 6 6] (.one (.sc (.sl))) fun l102 => -- babelpkt_tlv
                                                           (.pin (vN (Instr.loadAt 25 (.pointer (some a0)))) (.slice ((l89 0).A) ((l89 0).n) ((l89 0).c))
                                                            (.nx (builtin .append #[25, 25] 25 #[false, false] #[.slice ((l89 0).A) ((l89 0).n) ((l89 0).c), .slice ((l102 0).A) ((l102 0).n) ((l102 0).c)]) (.one (.sc (.sl))) fun l103 =>
                                                             (.unit (Instr.storeAt 25 (.pointer (some a0)) (.slice ((l103 0).A) ((l103 0).n) ((l103 0).c)))
                                                              (.rd (Instr.loadAt 23 (.pointer (some ⟨(l1 0).n, 4, none⟩))) (.one (.sc (.int .u32))) fun l104 =>
                                                               (.unit (Instr.storeAt 23 (.pointer (some (a0.add 3))) (.int .u32 ((l104 0).i)))
                                                                (.done (undef)))))))))))))))))))))))))))))))))))))))))))))))))))))))))
         (.rd (Instr.loadAt 23 (.pointer (some (a0.add 3)))) (.one (.sc (.int .u32))) fun l105 =>
          (.rd (Instr.loadAt 23 (.pointer (some ⟨(l1 0).n, 4, none⟩))) (.one (.sc (.int .u32))) fun l106 =>
           (.rd (Instr.loadAt 3 (.pointer (some ⟨(l1 0).n, 5, none⟩))) (.one (.sc (.int .i64))) fun l107 =>
            (.call 59 [.int .i64 ((l107 0).i)] (.one (.sc (.int .i64))) fun l108 => -- babelpkt_needs
             (.pin (vN (Instr.loadAt 23 (.pointer (some ⟨(l1 0).n, 4, none⟩)))) (.int .u32 ((l106 0).i))
              (.pin (vN (Instr.loadAt 23 (.pointer (some (a0.add 3))))) (.int .u32 ((l105 0).i))
               (.call 14 [.int .u32 ((l105 0).i), .int .u32 ((l106 0).i), .int .i64 ((l108 0).i)] (.one (.sc (.int .i64))) fun l109 => -- babelpkt_Squeeze
                (.rd (Instr.loadAt 32 (.pointer (some ⟨(l1 0).n, 7, none⟩))) (.one (.sc (.int .u16))) fun l110 =>
                 (.ite (((l110 0).i : Int) != 0)
                  (.rd (Instr.loadAt 32 (.pointer (some ⟨(l1 0).n, 7, none⟩))) (.one (.sc (.int .u16))) fun l111 =>
                   (.call 41 [.int .u16 ((l111 0).i)] (.one (.sc (.sl))) fun l112 => -- num_Put16
                    (.sem (Instr.buildSlice 73 1 #[(0, .slice ((l112 0).A) ((l112 0).n) ((l112 0).c))]) (.one (.sc (.row 1))) fun l113 =>
                     (.call 40 [.int .u8 200, .slice (some ⟨(l113 0).n, 0, none⟩) 1 1] (.one (.sc (.sl))) fun l114 => -- babelpkt_tlv
                      (.rd (Instr.loadAt 25 (.pointer (some a0))) (.one (.sc (.sl))) fun l115 =>
                       (.rd (Instr.loadAt 3 (.pointer (some ⟨(l1 0).n, 5, none⟩))) (.one (.sc (.int .i64))) fun l116 =>
                        (.rd (Instr.loadAt 3 (.pointer (some ⟨(l1 0).n, 2, none⟩))) (.one (.sc (.int .i64))) fun l117 =>
                         (.rd (Instr.loadAt 32 (.pointer (some ⟨(l1 0).n, 1, none⟩))) (.one (.sc (.int .u16))) fun l118 =>
                          (.rd (Instr.loadAt 3 (.pointer (some ⟨(l1 0).n, 3, none⟩))) (.one (.sc (.int .i64))) fun l119 =>
                           (.rd (Instr.loadAt 34 (.pointer (some ⟨(l1 0).n, 4, none⟩))) (.one (.agg [.int .u32, .int .i64])) fun l120 =>
                            (.call 24 [.int .i64 ((l117 0).i)] (.one (.sc (.sl))) fun l121 => -- babelpkt_two
                             (.pin (vN (Instr.loadAt 34 (.pointer (some ⟨(l1 0).n, 4, none⟩)))) (.agg #[.int .u32 ((l120 0).i), .int .i64 ((l120 1).i)])
                              (.pin (vN (Instr.loadAt 3 (.pointer (some ⟨(l1 0).n, 3, none⟩)))) (.int .i64 ((l119 0).i))
                               (.pin (vN (Instr.loadAt 32 (.pointer (some ⟨(l1 0).n, 1, none⟩)))) (.int .u16 ((l118 0).i))
                                (.pin (vN (Instr.loadAt 3 (.pointer (some ⟨(l1 0).n, 5, none⟩)))) (.int .i64 ((l116 0).i))
                                 (.pin (vN (Instr.loadAt 25 (.pointer (some a0)))) (.slice ((l115 0).A) ((l115 0).n) ((l115 0).c))
                                  (.call 41 [.int .u16 ((l118 0).i)] (.one (.sc (.sl))) fun l122 => -- num_Put16
                                   (.pin (vN (Instr.loadAt 34 (.pointer (some ⟨(l1 0).n, 4, none⟩)))) (.agg #[.int .u32 ((l120 0).i), .int .i64 ((l120 1).i)])
                                    (.pin (vN (Instr.loadAt 3 (.pointer (some ⟨(l1 0).n, 3, none⟩)))) (.int .i64 ((l119 0).i))
                                     (.pin (vN (Instr.loadAt 3 (.pointer (some ⟨(l1 0).n, 5, none⟩)))) (.int .i64 ((l116 0).i))
                                      (.pin (vN (Instr.loadAt 25 (.pointer (some a0)))) (.slice ((l115 0).A) ((l115 0).n) ((l115 0).c))
                                       (.call 24 [.int .i64 ((l119 0).i)] (.one (.sc (.sl))) fun l123 => -- babelpkt_two
                                        (.pin (vN (Instr.loadAt 34 (.pointer (some ⟨(l1 0).n, 4, none⟩)))) (.agg #[.int .u32 ((l120 0).i), .int .i64 ((l120 1).i)])
                                         (.pin (vN (Instr.loadAt 3 (.pointer (some ⟨(l1 0).n, 5, none⟩)))) (.int .i64 ((l116 0).i))
                                          (.pin (vN (Instr.loadAt 25 (.pointer (some a0)))) (.slice ((l115 0).A) ((l115 0).n) ((l115 0).c))
                                           (.call 43 [.agg #[.int .u32 ((l120 0).i), .int .i64 ((l120 1).i)]] (.one (.sc (.sl))) fun l124 => -- babelpkt_addr
                                            (.pin (vN (Instr.loadAt 3 (.pointer (some ⟨(l1 0).n, 5, none⟩)))) (.int .i64 ((l116 0).i))
                                             (.pin (vN (Instr.loadAt 25 (.pointer (some a0)))) (.slice ((l115 0).A) ((l115 0).n) ((l115 0).c))
                                              (.rd (Instr.sliceAt 25 (.slice ((l124 0).A) ((l124 0).n) ((l124 0).c)) (some (.int .i64 ((l109 0).i))) none none) (.one (.sc (.sl))) fun l125 =>
                                               (.sem (Instr.buildSlice 25 4 #[(0, .int .u8 1), (1, .int .u8 128), (2, .int .u8 (IntKind.wrap .u8 ((l116 0).i))), (3, .int .u8 (IntKind.wrap .u8 ((l109 0).i)))]) (.one (.sc (.row 4))) fun l126 =>
                                                (.sem (Instr.buildSlice 73 6 #[(0, .slice (some ⟨(l126 0).n, 0, none⟩) 4 4), (1, .slice ((l121 0).A) ((l121 0).n) ((l121 0).c)), (2, .slice ((l122 0).A) ((l122 0).n) ((l122 0).c)), (3, .slice ((l123 0).A) ((l123 0).n) ((l123 0).c)), (4, .slice ((l125 0).A) ((l125 0).n) ((l125 0).c)), (5, .slice ((l114 0).A) ((l114 0).n) ((l114 0).c))]) (.one (.sc (.row 6))) fun l127 =>
                                                 (.call 40 [.int .u8 8, .slice (some ⟨(l127 0).n, 0, none⟩) 6 6] (.one (.sc (.sl))) fun l128 => -- babelpkt_tlv
                                                  (.pin (vN (Instr.loadAt 25 (.pointer (some a0)))) (.slice ((l115 0).A) ((l115 0).n) ((l115 0).c))
                                                   (.nx (builtin .append #[25, 25] 25 #[false, false] #[.slice ((l115 0).A) ((l115 0).n) ((l115 0).c), .slice ((l128 0).A) ((l128 0).n) ((l128 0).c)]) (.one (.sc (.sl))) fun l129 =>
                                                    (.unit (Instr.storeAt 25 (.pointer (some a0)) (.slice ((l129 0).A) ((l129 0).n) ((l129 0).c)))
                                                     (.rd (Instr.loadAt 23 (.pointer (some ⟨(l1 0).n, 4, none⟩))) (.one (.sc (.int .u32))) fun l130 =>
                                                      (.unit (Instr.storeAt 23 (.pointer (some (a0.add 3))) (.int .u32 ((l130 0).i)))
                                                       (.done (undef)))))))))))))))))))))))))))))))))))))))
                  (.rd (Instr.loadAt 25 (.pointer (some a0))) (.one (.sc (.sl))) fun l131 =>
                   (.rd (Instr.loadAt 3 (.pointer (some ⟨(l1 0).n, 5, none⟩))) (.one (.sc (.int .i64))) fun l132 =>
                    (.rd (Instr.loadAt 3 (.pointer (some ⟨(l1 0).n, 2, none⟩))) (.one (.sc (.int .i64))) fun l133 =>
                     (.rd (Instr.loadAt 32 (.pointer (some ⟨(l1 0).n, 1, none⟩))) (.one (.sc (.int .u16))) fun l134 =>
                      (.rd (Instr.loadAt 3 (.pointer (some ⟨(l1 0).n, 3, none⟩))) (.one (.sc (.int .i64))) fun l135 =>
                       (.rd (Instr.loadAt 34 (.pointer (some ⟨(l1 0).n, 4, none⟩))) (.one (.agg [.int .u32, .int .i64])) fun l136 =>
                        (.call 24 [.int .i64 ((l133 0).i)] (.one (.sc (.sl))) fun l137 => -- babelpkt_two
                         (.pin (vN (Instr.loadAt 34 (.pointer (some ⟨(l1 0).n, 4, none⟩)))) (.agg #[.int .u32 ((l136 0).i), .int .i64 ((l136 1).i)])
                          (.pin (vN (Instr.loadAt 3 (.pointer (some ⟨(l1 0).n, 3, none⟩)))) (.int .i64 ((l135 0).i))
                           (.pin (vN (Instr.loadAt 32 (.pointer (some ⟨(l1 0).n, 1, none⟩)))) (.int .u16 ((l134 0).i))
                            (.pin (vN (Instr.loadAt 3 (.pointer (some ⟨(l1 0).n, 5, none⟩)))) (.int .i64 ((l132 0).i))
                             (.pin (vN (Instr.loadAt 25 (.pointer (some a0)))) (.slice ((l131 0).A) ((l131 0).n) ((l131 0).c))
                              (.call 41 [.int .u16 ((l134 0).i)] (.one (.sc (.sl))) fun l138 => -- num_Put16
                               (.pin (vN (Instr.loadAt 34 (.pointer (some ⟨(l1 0).n, 4, none⟩)))) (.agg #[.int .u32 ((l136 0).i), .int .i64 ((l136 1).i)])
                                (.pin (vN (Instr.loadAt 3 (.pointer (some ⟨(l1 0).n, 3, none⟩)))) (.int .i64 ((l135 0).i))
                                 (.pin (vN (Instr.loadAt 3 (.pointer (some ⟨(l1 0).n, 5, none⟩)))) (.int .i64 ((l132 0).i))
                                  (.pin (vN (Instr.loadAt 25 (.pointer (some a0)))) (.slice ((l131 0).A) ((l131 0).n) ((l131 0).c))
                                   (.call 24 [.int .i64 ((l135 0).i)] (.one (.sc (.sl))) fun l139 => -- babelpkt_two
                                    (.pin (vN (Instr.loadAt 34 (.pointer (some ⟨(l1 0).n, 4, none⟩)))) (.agg #[.int .u32 ((l136 0).i), .int .i64 ((l136 1).i)])
                                     (.pin (vN (Instr.loadAt 3 (.pointer (some ⟨(l1 0).n, 5, none⟩)))) (.int .i64 ((l132 0).i))
                                      (.pin (vN (Instr.loadAt 25 (.pointer (some a0)))) (.slice ((l131 0).A) ((l131 0).n) ((l131 0).c))
                                       (.call 43 [.agg #[.int .u32 ((l136 0).i), .int .i64 ((l136 1).i)]] (.one (.sc (.sl))) fun l140 => -- babelpkt_addr
                                        (.pin (vN (Instr.loadAt 3 (.pointer (some ⟨(l1 0).n, 5, none⟩)))) (.int .i64 ((l132 0).i))
                                         (.pin (vN (Instr.loadAt 25 (.pointer (some a0)))) (.slice ((l131 0).A) ((l131 0).n) ((l131 0).c))
                                          (.rd (Instr.sliceAt 25 (.slice ((l140 0).A) ((l140 0).n) ((l140 0).c)) (some (.int .i64 ((l109 0).i))) none none) (.one (.sc (.sl))) fun l141 =>
                                           (.sem (Instr.buildSlice 25 4 #[(0, .int .u8 1), (1, .int .u8 128), (2, .int .u8 (IntKind.wrap .u8 ((l132 0).i))), (3, .int .u8 (IntKind.wrap .u8 ((l109 0).i)))]) (.one (.sc (.row 4))) fun l142 =>
                                            (.sem (Instr.buildSlice 73 6 #[(0, .slice (some ⟨(l142 0).n, 0, none⟩) 4 4), (1, .slice ((l137 0).A) ((l137 0).n) ((l137 0).c)), (2, .slice ((l138 0).A) ((l138 0).n) ((l138 0).c)), (3, .slice ((l139 0).A) ((l139 0).n) ((l139 0).c)), (4, .slice ((l141 0).A) ((l141 0).n) ((l141 0).c)), (5, .slice none 0 0)]) (.one (.sc (.row 6))) fun l143 =>
                                             (.call 40 [.int .u8 8, .slice (some ⟨(l143 0).n, 0, none⟩) 6 6] (.one (.sc (.sl))) fun l144 => -- babelpkt_tlv
                                              (.pin (vN (Instr.loadAt 25 (.pointer (some a0)))) (.slice ((l131 0).A) ((l131 0).n) ((l131 0).c))
                                               (.nx (builtin .append #[25, 25] 25 #[false, false] #[.slice ((l131 0).A) ((l131 0).n) ((l131 0).c), .slice ((l144 0).A) ((l144 0).n) ((l144 0).c)]) (.one (.sc (.sl))) fun l145 =>
                                                (.unit (Instr.storeAt 25 (.pointer (some a0)) (.slice ((l145 0).A) ((l145 0).n) ((l145 0).c)))
                                                 (.rd (Instr.loadAt 23 (.pointer (some ⟨(l1 0).n, 4, none⟩))) (.one (.sc (.int .u32))) fun l146 =>
                                                  (.unit (Instr.storeAt 23 (.pointer (some (a0.add 3))) (.int .u32 ((l146 0).i)))
                                                   (.done (undef)))))))))))))))))))))))))))))))))))))))))))))))))) h) : Fn Try.prog 42 #[.pointer (some a0), .agg #[.int .i64 a1_0, .int .u16 a1_1, .int .i64 a1_2, .int .i64 a1_3, .int .u32 a1_4, .int .i64 a1_5, .int .u64 a1_6, .int .u16 a1_7, .int .i64 a1_8]] I h Q :=
  Wp.fn (args := [.pointer (some a0), .agg #[.int .i64 a1_0, .int .u16 a1_1, .int .i64 a1_2, .int .i64 a1_3, .int .u32 a1_4, .int .i64 a1_5, .int .u64 a1_6, .int .u16 a1_7, .int .i64 a1_8]]) Try.func42 rfl (by kernel_rfl) (of_tree (cfg := g_babelpkt_writer_update) 1000 (by kernel_rfl) Try.func42 rfl Try.checked.mixed hh)
theorem ca_babelpkt_writer_update : callable Try.prog 42 := ⟨_, Try.func42, by kernel_rfl, by kernel_rfl⟩
/-! ### babelpkt_addr: function 43 of Go -/
abbrev F_babelpkt_addr : FuncId := 43
noncomputable def c_babelpkt_addr : Code := (Try.f43.body).getD .skip
def p_babelpkt_addr : Nat → List (List Nat) := fun r => match r with | 1 => [[], [0], [0, 1], [], [3], [0, 1, 2, 3, 4], [0, 1, 2, 3, 4, 5], [0, 1, 2, 3, 4, 5, 6]] | _ => []
noncomputable def g_babelpkt_addr : Cfg := { sh := shs, fsh := fshs, results := [.tmp 2], hint := fun _ _ => none, ord := fun r => match r with | 1 => some [0, 1, 3, 4, 2, 5, 6, 7] | _ => none, pre := p_babelpkt_addr, un := unOf p_babelpkt_addr }
set_option maxRecDepth 100000 in
set_option maxHeartbeats 4000000 in
theorem r_babelpkt_addr (a0_0 : Int) (a0_1 : Int) {I : Ctx} {h : Mem} {Q : Value → Mem → Prop}
  (hh : holds Try.prog 43 I (cl_ Q)
   (.sem (Instr.box 34 (.agg #[.int .u32 a0_0, .int .i64 a0_1])) shBlk fun l1 =>
    (.rd (Instr.loadAt 23 (.pointer (some ⟨(l1 0).n, 0, none⟩))) (.one (.sc (.int .u32))) fun l2 =>
     (.rd (Instr.loadAt 3 (.pointer (some ⟨(l1 0).n, 1, none⟩))) (.one (.sc (.int .i64))) fun l3 =>
      (.call 31 [.int .u32 ((l2 0).i)] (.one (.sc (.sl))) fun l4 => -- num_Put32
       (.pin (vN (Instr.loadAt 3 (.pointer (some ⟨(l1 0).n, 1, none⟩)))) (.int .i64 ((l3 0).i))
        (.call 59 [.int .i64 ((l3 0).i)] (.one (.sc (.int .i64))) fun l5 => -- babelpkt_needs
         (.rd (Instr.sliceAt 25 (.slice ((l4 0).A) ((l4 0).n) ((l4 0).c)) none (some (.int .i64 ((l5 0).i))) none) (.one (.sc (.sl))) fun l6 =>
          (.done (.slice ((l6 0).A) ((l6 0).n) ((l6 0).c)))))))))) h) : Fn Try.prog 43 #[.agg #[.int .u32 a0_0, .int .i64 a0_1]] I h Q :=
  Wp.fn (args := [.agg #[.int .u32 a0_0, .int .i64 a0_1]]) Try.func43 rfl (by kernel_rfl) (of_tree (cfg := g_babelpkt_addr) 1000 (by kernel_rfl) Try.func43 rfl Try.checked.mixed hh)
theorem ca_babelpkt_addr : callable Try.prog 43 := ⟨_, Try.func43, by kernel_rfl, by kernel_rfl⟩
/-! ### babelpkt_long: function 44 of Go -/
abbrev F_babelpkt_long : FuncId := 44
noncomputable def c_babelpkt_long : Code := (Try.f44.body).getD .skip
noncomputable def g_babelpkt_long : Cfg := { sh := shs, fsh := fshs, results := [.tmp 2], hint := fun _ _ => none, ord := fun _ => none, pre := fun _ => [], un := fun _ _ _ => false }
set_option maxRecDepth 100000 in
set_option maxHeartbeats 4000000 in
theorem r_babelpkt_long (a0 : Int) {I : Ctx} {h : Mem} {Q : Value → Mem → Prop}
  (hh : holds Try.prog 44 I (cl_ Q)
   (.call 31 [.int .u32 (IntKind.wrap .u32 (Int.fdiv a0 (2 ^ 32)))] (.one (.sc (.sl))) fun l1 => -- num_Put32
    (.call 31 [.int .u32 (IntKind.wrap .u32 a0)] (.one (.sc (.sl))) fun l2 => -- num_Put32
     (.sem (Instr.buildSlice 73 2 #[(0, .slice ((l1 0).A) ((l1 0).n) ((l1 0).c)), (1, .slice ((l2 0).A) ((l2 0).n) ((l2 0).c))]) (.one (.sc (.row 2))) fun l3 =>
      (.call 23 [.slice (some ⟨(l3 0).n, 0, none⟩) 2 2] (.one (.sc (.sl))) fun l4 => -- slices_Concat_byte
       (.done (.slice ((l4 0).A) ((l4 0).n) ((l4 0).c))))))) h) : Fn Try.prog 44 #[.int .u64 a0] I h Q :=
  Wp.fn (args := [.int .u64 a0]) Try.func44 rfl (by kernel_rfl) (of_tree (cfg := g_babelpkt_long) 1000 (by kernel_rfl) Try.func44 rfl Try.checked.mixed hh)
theorem ca_babelpkt_long : callable Try.prog 44 := ⟨_, Try.func44, by kernel_rfl, by kernel_rfl⟩
/-! ### slices_Grow_byte: function 45 of Go -/
abbrev F_slices_Grow_byte : FuncId := 45
noncomputable def c_slices_Grow_byte : Code := (Try.f45.body).getD .skip
noncomputable def g_slices_Grow_byte : Cfg := { sh := shs, fsh := fshs, results := [.tmp 4], hint := fun _ _ => none, ord := fun _ => none, pre := fun _ => [], un := fun _ _ _ => false }
set_option maxRecDepth 100000 in
set_option maxHeartbeats 4000000 in
theorem r_slices_Grow_byte (Aa0 : Option Addr) (na0 : Nat) (ca0 : Nat) (a1 : Int) {I : Ctx} {h : Mem} {Q : Value → Mem → Prop}
  (hh : holds Try.prog 45 I (cl_ Q)
   (.ite (decide ((a1 : Int) < 0))
    (.stuck)
    (.ite (decide ((IntKind.wrap .i64 (a1 - (IntKind.wrap .i64 (((ca0 : Nat) : Int) - ((na0 : Nat) : Int)))) : Int) > 0))
     (.rd (Instr.sliceAt 25 (.slice Aa0 na0 ca0) none (some (.int .i64 ((ca0 : Nat) : Int))) none) (.one (.sc (.sl))) fun l1 =>
      (.nx (builtin .append #[25, 3] 25 #[false, false] #[.slice ((l1 0).A) ((l1 0).n) ((l1 0).c), .int .i64 (IntKind.wrap .i64 (a1 - (IntKind.wrap .i64 (((ca0 : Nat) : Int) - ((na0 : Nat) : Int)))))]) (.one (.sc (.sl))) fun l2 =>
       (.rd (Instr.sliceAt 25 (.slice ((l2 0).A) ((l2 0).n) ((l2 0).c)) none (some (.int .i64 ((na0 : Nat) : Int))) none) (.one (.sc (.sl))) fun l3 =>
        (.done (.slice ((l3 0).A) ((l3 0).n) ((l3 0).c))))))
     (.done (.slice Aa0 na0 ca0)))) h) : Fn Try.prog 45 #[.slice Aa0 na0 ca0, .int .i64 a1] I h Q :=
  Wp.fn (args := [.slice Aa0 na0 ca0, .int .i64 a1]) Try.func45 rfl (by kernel_rfl) (of_tree (cfg := g_slices_Grow_byte) 1000 (by kernel_rfl) Try.func45 rfl Try.checked.mixed hh)
theorem ca_slices_Grow_byte : callable Try.prog 45 := ⟨_, Try.func45, by kernel_rfl, by kernel_rfl⟩
/-! ### octroiref02_May: function 46 of Go -/
abbrev F_octroiref02_May : FuncId := 46
noncomputable def c_octroiref02_May : Code := (Try.f46.body).getD .skip
def p_octroiref02_May : Nat → List (List Nat) := fun r => match r with | 1 => [[], [0], [0, 1], [0, 1, 2], [0, 1, 2, 3], [0, 1, 2, 3, 4], [0, 1, 2, 3, 4, 5], [0, 1, 2, 3, 4, 5, 6], [0, 1, 2, 3, 4, 5, 6, 7], [0, 1, 2, 3, 4, 5, 6, 7, 8], [0, 1, 2, 3, 4, 5, 6, 7, 8, 9], [0, 1, 2, 3, 4, 5, 6, 7, 8], [0, 1, 2, 3, 4, 5, 6, 7, 8, 11], [0, 1, 2, 3, 4, 5, 6, 7, 8, 11, 12], [0, 1, 2, 3, 4, 5, 6, 7, 8, 9, 10, 11, 12, 13], [0, 1, 2, 3, 4, 5, 6, 7, 8], [0, 1, 2, 3, 4, 5, 6, 7, 8, 15], [0, 1, 2, 3, 4, 5, 6, 7, 8, 9, 10, 11, 12, 13, 14, 15, 16], [0, 1, 2, 3, 4, 5, 6, 7, 8, 9, 10, 11, 12, 13, 14, 15, 16, 17], [0, 1, 2, 3, 4, 5, 6, 7, 8, 9, 10, 11, 12, 13, 14, 15, 16, 17, 18]] | _ => []
noncomputable def g_octroiref02_May : Cfg := { sh := shs, fsh := fshs, results := [.tmp 2], hint := fun _ _ => none, ord := fun r => match r with | 1 => some [0, 1, 2, 3, 4, 5, 6, 7, 8, 9, 10, 11, 12, 15, 16, 13, 14, 17, 18, 19] | _ => none, pre := p_octroiref02_May, un := unOf p_octroiref02_May }
set_option maxRecDepth 100000 in
set_option maxHeartbeats 4000000 in
theorem r_octroiref02_May (a0_0 : Int) (a0_1 : Int) {I : Ctx} {h : Mem} {Q : Value → Mem → Prop}
  (hh : holds Try.prog 46 I (cl_ Q)
   (.sem (Instr.box 34 (.agg #[.int .u32 a0_0, .int .i64 a0_1])) shBlk fun l1 =>
    (.rd (Instr.loadAt 3 (.pointer (some ⟨(l1 0).n, 1, none⟩))) (.one (.sc (.int .i64))) fun l2 =>
     (.ite (decide (((l2 0).i : Int) ≥ 0))
      (.rd (Instr.loadAt 3 (.pointer (some ⟨(l1 0).n, 1, none⟩))) (.one (.sc (.int .i64))) fun l3 =>
       (.ite (decide (((l3 0).i : Int) ≤ 32))
        (.rd (Instr.loadAt 23 (.pointer (some ⟨(l1 0).n, 0, none⟩))) (.one (.sc (.int .u32))) fun l4 =>
         (.rd (Instr.loadAt 3 (.pointer (some ⟨(l1 0).n, 1, none⟩))) (.one (.sc (.int .i64))) fun l5 =>
          (.rd (Instr.loadAt 23 (.pointer (some ⟨(l1 0).n, 0, none⟩))) (.one (.sc (.int .u32))) fun l6 =>
           (.call 60 [.int .i64 ((l5 0).i)] (.one (.sc (.int .u32))) fun l7 => -- octroiref02_Mask
            (.pin (vN (Instr.loadAt 23 (.pointer (some ⟨(l1 0).n, 0, none⟩)))) (.int .u32 ((l6 0).i))
             (.pin (vN (Instr.loadAt 23 (.pointer (some ⟨(l1 0).n, 0, none⟩)))) (.int .u32 ((l4 0).i))
              (.done (.bool ((bitop .and .u32 ((l4 0).i) ((l7 0).i) : Int) == ((l6 0).i))))))))))
        (.done (.bool false))))
      (.done (.bool false))))) h) : Fn Try.prog 46 #[.agg #[.int .u32 a0_0, .int .i64 a0_1]] I h Q :=
  Wp.fn (args := [.agg #[.int .u32 a0_0, .int .i64 a0_1]]) Try.func46 rfl (by kernel_rfl) (of_tree (cfg := g_octroiref02_May) 1000 (by kernel_rfl) Try.func46 rfl Try.checked.mixed hh)
theorem ca_octroiref02_May : callable Try.prog 46 := ⟨_, Try.func46, by kernel_rfl, by kernel_rfl⟩
/-! ### octroiref06_needs: function 47 of Go -/
abbrev F_octroiref06_needs : FuncId := 47
noncomputable def c_octroiref06_needs : Code := (Try.f47.body).getD .skip
noncomputable def g_octroiref06_needs : Cfg := { sh := shs, fsh := fshs, results := [.tmp 2], hint := fun _ _ => none, ord := fun _ => none, pre := fun _ => [], un := fun _ _ _ => false }
set_option maxRecDepth 100000 in
set_option maxHeartbeats 4000000 in
theorem r_octroiref06_needs (a0 : Int) {I : Ctx} {h : Mem} {Q : Value → Mem → Prop}
  (hh : holds Try.prog 47 I (cl_ Q)
   (.done (.int .i64 (IntKind.wrap .i64 (Int.tdiv (IntKind.wrap .i64 (a0 + 7)) 8)))) h) : Fn Try.prog 47 #[.int .i64 a0] I h Q :=
  Wp.fn (args := [.int .i64 a0]) Try.func47 rfl (by kernel_rfl) (of_tree (cfg := g_octroiref06_needs) 1000 (by kernel_rfl) Try.func47 rfl Try.checked.mixed hh)
theorem ca_octroiref06_needs : callable Try.prog 47 := ⟨_, Try.func47, by kernel_rfl, by kernel_rfl⟩
/-! ### octroiref01_Put: function 48 of Go -/
abbrev F_octroiref01_Put : FuncId := 48
noncomputable def c_octroiref01_Put : Code := (Try.f48.body).getD .skip
noncomputable def g_octroiref01_Put : Cfg := { sh := shs, fsh := fshs, results := [.tmp 4], hint := fun _ _ => none, ord := fun _ => none, pre := fun _ => [], un := fun _ _ _ => false }
noncomputable def k_octroiref01_Put_1 : List Item := [.code (bd (bd (sr (sl (sr (sr c_octroiref01_Put)))))), .inLoop (bd (bd (sr (sl (sr (sr c_octroiref01_Put)))))), .inBlock 0, .code (sr (sr (sr c_octroiref01_Put)))]
noncomputable def t_octroiref01_Put_1 (Ay5 : Option Addr) (ny5 : Nat) (cy5 : Nat) (x0 : Int) (x6 : Int) (u : Nat → Value) : List Value := [.int .u32 x0, (u 1), undef, undef, (u 4), .slice Ay5 ny5 cy5, .int .i64 x6, (u 7), (u 8), (u 9), (u 10), (u 11), (u 12), (u 13), (u 14), (u 15), (u 16), (u 17), (u 18), (u 19), (u 20), (u 21), (u 22), (u 23)]
set_option maxRecDepth 100000 in
set_option maxHeartbeats 4000000 in
theorem r_octroiref01_Put (a0 : Int) (a1 : Int) {I : Ctx} {h : Mem} {Q : Value → Mem → Prop}
  (hh : holds Try.prog 48 I (cl_ Q)
   (.sem (Instr.makeSlice 25 (.int .i64 a1) (.int .i64 a1)) (.one (.sc (.sl))) fun l1 =>
    (.stop k_octroiref01_Put_1 (t_octroiref01_Put_1 ((l1 0).A) ((l1 0).n) ((l1 0).c) a0 (IntKind.wrap .i64 (a1 - 1)) (jl [(1, .int .i64 a1), (4, .slice none 0 0), (7, .int .i64 a1), (8, .slice ((l1 0).A) ((l1 0).n) ((l1 0).c)), (9, .int .i64 a1), (10, .int .i64 (IntKind.wrap .i64 (a1 - 1))), (11, undef), (12, undef), (13, undef), (14, undef), (15, undef), (16, undef), (17, undef), (18, undef), (19, undef), (20, undef), (21, undef), (22, undef), (23, undef)])))) h) : Fn Try.prog 48 #[.int .u32 a0, .int .i64 a1] I h Q :=
  Wp.fn (args := [.int .u32 a0, .int .i64 a1]) Try.func48 rfl (by kernel_rfl) (of_tree (cfg := g_octroiref01_Put) 1000 (by kernel_rfl) Try.func48 rfl Try.checked.mixed hh)
theorem ca_octroiref01_Put : callable Try.prog 48 := ⟨_, Try.func48, by kernel_rfl, by kernel_rfl⟩
set_option maxRecDepth 100000 in
set_option maxHeartbeats 4000000 in
theorem r_octroiref01_Put_1 (Ay5 : Option Addr) (ny5 : Nat) (cy5 : Nat) (x0 : Int) (x6 : Int) (u : Nat → Value) {I : Ctx} {h : Mem} {Q : Value → Mem → Prop}
  (hh : holds Try.prog 48 I Q
   (.ite (decide ((x6 : Int) ≥ 0))
    (.rd (Instr.indexAt 25 (.slice Ay5 ny5 cy5) (.int .i64 x6)) (.one (.sc (.padr))) fun l2 =>
     (.unit (Instr.storeAt 5 (.pointer (some ((l2 0).a))) (.int .u8 (IntKind.wrap .u8 (Int.tmod x0 256))))
      (.stop k_octroiref01_Put_1 (t_octroiref01_Put_1 Ay5 ny5 cy5 (IntKind.wrap .u32 (Int.tdiv x0 256)) (IntKind.wrap .i64 (x6 - 1)) (jl [(1, (u 1)), (4, (u 4)), (7, (u 7)), (8, (u 8)), (9, (u 9)), (10, (u 10)), (11, .int .i64 x6), (12, .bool (decide ((x6 : Int) ≥ 0))), (13, .int .i64 x6), (14, .int .i64 (IntKind.wrap .i64 (x6 - 1))), (15, .slice Ay5 ny5 cy5), (16, .int .i64 x6), (17, .int .u32 x0), (18, .int .u32 (Int.tmod x0 256)), (19, .int .u8 (IntKind.wrap .u8 (Int.tmod x0 256))), (20, .pointer (some ((l2 0).a))), (21, .int .u32 x0), (22, .int .u32 (IntKind.wrap .u32 (Int.tdiv x0 256))), (23, (u 23))])))))
    (.done (.slice Ay5 ny5 cy5))) h) : Wp Try.prog 48 k_octroiref01_Put_1 (t_octroiref01_Put_1 Ay5 ny5 cy5 x0 x6 u) I h Q :=
  of_tree (cfg := g_octroiref01_Put) 1000 (by kernel_rfl) Try.func48 rfl Try.checked.mixed hh
/-! ### num_put: function 49 of Go -/
abbrev F_num_put : FuncId := 49
noncomputable def c_num_put : Code := (Try.f49.body).getD .skip
noncomputable def g_num_put : Cfg := { sh := shs, fsh := fshs, results := [.tmp 4], hint := fun r i => match r, i with | 5, 8 => some (true, .one (.sc (.int .u32))) | _, _ => none, ord := fun _ => none, pre := fun _ => [], un := fun _ _ _ => false }
noncomputable def k_num_put_1 : List Item := [.code (bd (bd (sr (sl (sr (sr c_num_put)))))), .inLoop (bd (bd (sr (sl (sr (sr c_num_put)))))), .inBlock 0, .code (sr (sr (sr c_num_put)))]
noncomputable def t_num_put_1 (a0 : Int) (a1 : Int) (Ay5 : Option Addr) (ny5 : Nat) (cy5 : Nat) (x10 : Int) (u : Nat → Value) : List Value := [.int .u32 a0, .int .i64 a1, undef, undef, (u 4), .slice Ay5 ny5 cy5, (u 6), (u 7), (u 8), .int .i64 a1, .int .i64 x10, (u 11), (u 12), (u 13), (u 14), (u 15), (u 16), (u 17), (u 18), (u 19), (u 20), (u 21), (u 22), (u 23), (u 24), (u 25)]
set_option maxRecDepth 100000 in
set_option maxHeartbeats 4000000 in
theorem r_num_put (a0 : Int) (a1 : Int) {I : Ctx} {h : Mem} {Q : Value → Mem → Prop}
  (hh : holds Try.prog 49 I (cl_ Q)
   (.sem (Instr.makeSlice 25 (.int .i64 a1) (.int .i64 a1)) (.one (.sc (.sl))) fun l1 =>
    (.stop k_num_put_1 (t_num_put_1 a0 a1 ((l1 0).A) ((l1 0).n) ((l1 0).c) 0 (jl [(4, .slice none 0 0), (6, undef), (7, .int .i64 a1), (8, .slice ((l1 0).A) ((l1 0).n) ((l1 0).c)), (11, undef), (12, undef), (13, undef), (14, undef), (15, undef), (16, undef), (17, undef), (18, undef), (19, undef), (20, undef), (21, undef), (22, undef), (23, undef), (24, undef), (25, undef)])))) h) : Fn Try.prog 49 #[.int .u32 a0, .int .i64 a1] I h Q :=
  Wp.fn (args := [.int .u32 a0, .int .i64 a1]) Try.func49 rfl (by kernel_rfl) (of_tree (cfg := g_num_put) 1000 (by kernel_rfl) Try.func49 rfl Try.checked.mixed hh)
theorem ca_num_put : callable Try.prog 49 := ⟨_, Try.func49, by kernel_rfl, by kernel_rfl⟩
set_option maxRecDepth 100000 in
set_option maxHeartbeats 4000000 in
theorem r_num_put_1 (a0 : Int) (a1 : Int) (Ay5 : Option Addr) (ny5 : Nat) (cy5 : Nat) (x10 : Int) (u : Nat → Value) {I : Ctx} {h : Mem} {Q : Value → Mem → Prop}
  (hh : holds Try.prog 49 I Q
   (.ite (decide ((x10 : Int) < a1))
    (.rdn (binN .shr 23 (.int .u32 a0) (.int .i64 (IntKind.wrap .i64 (8 * x10)))) (.one (.sc (.int .u32))) fun l2 =>
     (.rd (Instr.indexAt 25 (.slice Ay5 ny5 cy5) (.int .i64 (IntKind.wrap .i64 ((IntKind.wrap .i64 (a1 - 1)) - x10)))) (.one (.sc (.padr))) fun l3 =>
      (.unit (Instr.storeAt 5 (.pointer (some ((l3 0).a))) (.int .u8 (IntKind.wrap .u8 ((l2 0).i))))
       (.stop k_num_put_1 (t_num_put_1 a0 a1 Ay5 ny5 cy5 (IntKind.wrap .i64 (x10 + 1)) (jl [(4, (u 4)), (6, .int .i64 x10), (7, (u 7)), (8, (u 8)), (11, .bool (decide ((x10 : Int) < a1))), (12, .int .i64 x10), (13, .slice Ay5 ny5 cy5), (14, .int .i64 a1), (15, .int .i64 (IntKind.wrap .i64 (a1 - 1))), (16, .int .i64 x10), (17, .int .i64 (IntKind.wrap .i64 ((IntKind.wrap .i64 (a1 - 1)) - x10))), (18, .int .u32 a0), (19, .int .i64 x10), (20, .int .i64 (IntKind.wrap .i64 (8 * x10))), (21, .int .u32 ((l2 0).i)), (22, .int .u8 (IntKind.wrap .u8 ((l2 0).i))), (23, .pointer (some ((l3 0).a))), (24, .int .i64 (IntKind.wrap .i64 (x10 + 1))), (25, (u 25))]))))))
    (.done (.slice Ay5 ny5 cy5))) h) : Wp Try.prog 49 k_num_put_1 (t_num_put_1 a0 a1 Ay5 ny5 cy5 x10 u) I h Q :=
  of_tree (cfg := g_num_put) 1000 (by kernel_rfl) Try.func49 rfl Try.checked.mixed hh
/-! ### num_Get16: function 50 of Go -/
abbrev F_num_Get16 : FuncId := 50
noncomputable def c_num_Get16 : Code := (Try.f50.body).getD .skip
noncomputable def g_num_Get16 : Cfg := { sh := shs, fsh := fshs, results := [.tmp 4, .tmp 5], hint := fun _ _ => none, ord := fun _ => none, pre := fun _ => [], un := fun _ _ _ => false }
set_option maxRecDepth 100000 in
set_option maxHeartbeats 4000000 in
theorem r_num_Get16 (Aa0 : Option Addr) (na0 : Nat) (ca0 : Nat) (a1 : Int) {I : Ctx} {h : Mem} {Q : Value → Mem → Prop}
  (hh : holds Try.prog 50 I (cl_ Q)
   (.call 61 [.slice Aa0 na0 ca0, .int .i64 a1, .int .i64 2] (.tup [(.sc (.int .u32)), (.sc (.bool))]) fun l1 => -- num_get
    (.done (.tuple #[.int .u16 (IntKind.wrap .u16 ((l1 0).i)), .bool ((l1 1).b)]))) h) : Fn Try.prog 50 #[.slice Aa0 na0 ca0, .int .i64 a1] I h Q :=
  Wp.fn (args := [.slice Aa0 na0 ca0, .int .i64 a1]) Try.func50 rfl (by kernel_rfl) (of_tree (cfg := g_num_Get16) 1000 (by kernel_rfl) Try.func50 rfl Try.checked.mixed hh)
theorem ca_num_Get16 : callable Try.prog 50 := ⟨_, Try.func50, by kernel_rfl, by kernel_rfl⟩
/-! ### babelpkt_reader_short: function 51 of Go -/
abbrev F_babelpkt_reader_short : FuncId := 51
noncomputable def c_babelpkt_reader_short : Code := (Try.f51.body).getD .skip
def p_babelpkt_reader_short : Nat → List (List Nat) := fun r => match r with | 7 => [[], [], [1], [1, 2], [1, 2, 3], [], [5], [5, 6], [], [5, 6, 8], [5, 6, 7, 8, 9], [5, 6, 7, 8, 9, 10], [1, 2, 3, 4, 5, 6, 7, 8, 9, 10, 11], [0, 1, 2, 3, 4, 5, 6, 7, 8, 9, 10, 11, 12], [0, 1, 2, 3, 4, 5, 6, 7, 8, 9, 10, 11, 12, 13], [0, 1, 2, 3, 4, 5, 6, 7, 8, 9, 10, 11, 12, 13, 14]] | 9 => [[], [], [1], [1, 2], [1, 2, 3], [], [5], [], [5, 6, 7], [5, 6, 7, 8], [5, 6, 7, 8, 9], [1, 2, 3, 4, 5, 6, 7, 8, 9, 10], [0, 1, 2, 3, 4, 5, 6, 7, 8, 9, 10, 11], [0, 1, 2, 3, 4, 5, 6, 7, 8, 9, 10, 11, 12], [0, 1, 2, 3, 4, 5, 6, 7, 8, 9, 10, 11, 12, 13]] | _ => []
noncomputable def g_babelpkt_reader_short : Cfg := { sh := shs, fsh := fshs, results := [.tmp 6], hint := fun _ _ => none, ord := fun r => match r with | 7 => some [0, 1, 2, 3, 4, 5, 8, 6, 7, 9, 10, 11, 12, 13, 14, 15] | 9 => some [0, 1, 2, 3, 4, 5, 7, 6, 8, 9, 10, 11, 12, 13, 14] | _ => none, pre := p_babelpkt_reader_short, un := unOf p_babelpkt_reader_short }
set_option maxRecDepth 100000 in
set_option maxHeartbeats 4000000 in
theorem r_babelpkt_reader_short (a0 : Addr) (a1 : Int) (Aa2 : Option Addr) (na2 : Nat) (ca2 : Nat) {I : Ctx} {h : Mem} {Q : Value → Mem → Prop}
  (hh : holds Try.prog 51 I (cl_ Q)
   (.ite (decide ((((na2 : Nat) : Int) : Int) < 2))
    (.done (.bool false))
    (.rd (Instr.indexAt 25 (.slice Aa2 na2 ca2) (.int .i64 0)) (.one (.sc (.padr))) fun l1 =>
     (.rd (Instr.loadAt 5 (.pointer (some ((l1 0).a)))) (.one (.sc (.int .u8))) fun l2 =>
      (.ite (((l2 0).i : Int) != 0)
       (.done (.bool false))
       (.rd (Instr.indexAt 25 (.slice Aa2 na2 ca2) (.int .i64 1)) (.one (.sc (.padr))) fun l3 =>
        (.rd (Instr.loadAt 5 (.pointer (some ((l3 0).a)))) (.one (.sc (.int .u8))) fun l4 =>
         (.ite (((l4 0).i : Int) != 0)
          (.done (.bool false))
          (.ite ((a1 : Int) == 6)
           (.ite ((((na2 : Nat) : Int) : Int) == 10)
            (.call 62 [.slice Aa2 na2 ca2, .int .i64 2] (.one (.sc (.int .u64))) fun l5 => -- babelpkt_at8
             (.unit (Instr.storeAt 35 (.pointer (some (a0.add 1))) (.int .u64 ((l5 0).i)))
              (.unit (Instr.storeAt 4 (.pointer (some (a0.add 2))) (.bool true))
               (.done (.bool true)))))
            (.ite ((a1 : Int) == 4)
             (.ite ((((na2 : Nat) : Int) : Int) == 6)
              (.rd (Instr.loadAt 22 (.pointer (some (a0.add 4)))) (.one (.sc (.sl))) fun l6 =>
               (.call 33 [.slice Aa2 na2 ca2, .int .i64 2] (.one (.sc (.int .i64))) fun l7 => -- babelpkt_at2
                (.pin (vN (Instr.loadAt 22 (.pointer (some (a0.add 4))))) (.slice ((l6 0).A) ((l6 0).n) ((l6 0).c))
                 (.call 33 [.slice Aa2 na2 ca2, .int .i64 4] (.one (.sc (.int .i64))) fun l8 => -- babelpkt_at2
                  (.pin (vN (Instr.loadAt 22 (.pointer (some (a0.add 4))))) (.slice ((l6 0).A) ((l6 0).n) ((l6 0).c))
                   (.sem (Instr.buildSlice 22 1 #[(0, .agg #[.int .i64 0, .int .u16 (IntKind.wrap .u16 ((l7 0).i)), .int .i64 ((l8 0).i), .int .i64 0, .int .u32 0, .int .i64 0, .int .u64 0, .int .u16 0, .int .i64 0])]) (.one (.sc (.row 1))) fun l9 =>
                    (.nx (builtin .append #[22, 22] 22 #[false, false] #[.slice ((l6 0).A) ((l6 0).n) ((l6 0).c), .slice (some ⟨(l9 0).n, 0, none⟩) 1 1]) (.one (.sc (.sl))) fun l10 =>
                     (.unit (Instr.storeAt 22 (.pointer (some (a0.add 4))) (.slice ((l10 0).A) ((l10 0).n) ((l10 0).c)))
                      (.done (.bool true))))))))))
              (.ite ((a1 : Int) == 5)
               (.ite ((((na2 : Nat) : Int) : Int) == 6)
                (.rd (Instr.loadAt 22 (.pointer (some (a0.add 4)))) (.one (.sc (.sl))) fun l11 =>
                 (.call 33 [.slice Aa2 na2 ca2, .int .i64 2] (.one (.sc (.int .i64))) fun l12 => -- babelpkt_at2
                  (.pin (vN (Instr.loadAt 22 (.pointer (some (a0.add 4))))) (.slice ((l11 0).A) ((l11 0).n) ((l11 0).c))
                   (.call 33 [.slice Aa2 na2 ca2, .int .i64 4] (.one (.sc (.int .i64))) fun l13 => -- babelpkt_at2
                    (.pin (vN (Instr.loadAt 22 (.pointer (some (a0.add 4))))) (.slice ((l11 0).A) ((l11 0).n) ((l11 0).c))
                     (.sem (Instr.buildSlice 22 1 #[(0, .agg #[.int .i64 1, .int .u16 0, .int .i64 ((l13 0).i), .int .i64 ((l12 0).i), .int .u32 0, .int .i64 0, .int .u64 0, .int .u16 0, .int .i64 0])]) (.one (.sc (.row 1))) fun l14 =>
                      (.nx (builtin .append #[22, 22] 22 #[false, false] #[.slice ((l11 0).A) ((l11 0).n) ((l11 0).c), .slice (some ⟨(l14 0).n, 0, none⟩) 1 1]) (.one (.sc (.sl))) fun l15 =>
                       (.unit (Instr.storeAt 22 (.pointer (some (a0.add 4))) (.slice ((l15 0).A) ((l15 0).n) ((l15 0).c)))
                        (.done (.bool true))))))))))
                (.done (.bool false)))
               (.done (.bool false))))
             (.ite ((a1 : Int) == 5)
              (.ite ((((na2 : Nat) : Int) : Int) == 6)
               (.rd (Instr.loadAt 22 (.pointer (some (a0.add 4)))) (.one (.sc (.sl))) fun l16 =>
                (.call 33 [.slice Aa2 na2 ca2, .int .i64 2] (.one (.sc (.int .i64))) fun l17 => -- babelpkt_at2
                 (.pin (vN (Instr.loadAt 22 (.pointer (some (a0.add 4))))) (.slice ((l16 0).A) ((l16 0).n) ((l16 0).c))
                  (.call 33 [.slice Aa2 na2 ca2, .int .i64 4] (.one (.sc (.int .i64))) fun l18 => -- babelpkt_at2
                   (.pin (vN (Instr.loadAt 22 (.pointer (some (a0.add 4))))) (.slice ((l16 0).A) ((l16 0).n) ((l16 0).c))
                    (.sem (Instr.buildSlice 22 1 #[(0, .agg #[.int .i64 1, .int .u16 0, .int .i64 ((l18 0).i), .int .i64 ((l17 0).i), .int .u32 0, .int .i64 0, .int .u64 0, .int .u16 0, .int .i64 0])]) (.one (.sc (.row 1))) fun l19 =>
                     (.nx (builtin .append #[22, 22] 22 #[false, false] #[.slice ((l16 0).A) ((l16 0).n) ((l16 0).c), .slice (some ⟨(l19 0).n, 0, none⟩) 1 1]) (.one (.sc (.sl))) fun l20 =>
                      (.unit (Instr.storeAt 22 (.pointer (some (a0.add 4))) (.slice ((l20 0).A) ((l20 0).n) ((l20 0).c)))
                       (.done (.bool true))))))))))
               (.done (.bool false)))
              (.done (.bool false)))))
           (.ite ((a1 : Int) == 4)
            (.ite ((((na2 : Nat) : Int) : Int) == 6)
             (.rd (Instr.loadAt 22 (.pointer (some (a0.add 4)))) (.one (.sc (.sl))) fun l21 =>
              (.call 33 [.slice Aa2 na2 ca2, .int .i64 2] (.one (.sc (.int .i64))) fun l22 => -- babelpkt_at2
               (.pin (vN (Instr.loadAt 22 (.pointer (some (a0.add 4))))) (.slice ((l21 0).A) ((l21 0).n) ((l21 0).c))
                (.call 33 [.slice Aa2 na2 ca2, .int .i64 4] (.one (.sc (.int .i64))) fun l23 => -- babelpkt_at2
                 (.pin (vN (Instr.loadAt 22 (.pointer (some (a0.add 4))))) (.slice ((l21 0).A) ((l21 0).n) ((l21 0).c))
                  (.sem (Instr.buildSlice 22 1 #[(0, .agg #[.int .i64 0, .int .u16 (IntKind.wrap .u16 ((l22 0).i)), .int .i64 ((l23 0).i), .int .i64 0, .int .u32 0, .int .i64 0, .int .u64 0, .int .u16 0, .int .i64 0])]) (.one (.sc (.row 1))) fun l24 =>
                   (.nx (builtin .append #[22, 22] 22 #[false, false] #[.slice ((l21 0).A) ((l21 0).n) ((l21 0).c), .slice (some ⟨(l24 0).n, 0, none⟩) 1 1]) (.one (.sc (.sl))) fun l25 =>
                    (.unit (Instr.storeAt 22 (.pointer (some (a0.add 4))) (.slice ((l25 0).A) ((l25 0).n) ((l25 0).c)))
                     (.done (.bool true))))))))))
             (.ite ((a1 : Int) == 5)
              (.ite ((((na2 : Nat) : Int) : Int) == 6)
               (.rd (Instr.loadAt 22 (.pointer (some (a0.add 4)))) (.one (.sc (.sl))) fun l26 =>
                (.call 33 [.slice Aa2 na2 ca2, .int .i64 2] (.one (.sc (.int .i64))) fun l27 => -- babelpkt_at2
                 (.pin (vN (Instr.loadAt 22 (.pointer (some (a0.add 4))))) (.slice ((l26 0).A) ((l26 0).n) ((l26 0).c))
                  (.call 33 [.slice Aa2 na2 ca2, .int .i64 4] (.one (.sc (.int .i64))) fun l28 => -- babelpkt_at2
                   (.pin (vN (Instr.loadAt 22 (.pointer (some (a0.add 4))))) (.slice ((l26 0).A) ((l26 0).n) ((l26 0).c))
                    (.sem (Instr.buildSlice 22 1 #[(0, .agg #[.int .i64 1, .int .u16 0, .int .i64 ((l28 0).i), .int .i64 ((l27 0).i), .int .u32 0, .int .i64 0, .int .u64 0, .int .u16 0, .int .i64 0])]) (.one (.sc (.row 1))) fun l29 =>
                     (.nx (builtin .append #[22, 22] 22 #[false, false] #[.slice ((l26 0).A) ((l26 0).n) ((l26 0).c), .slice (some ⟨(l29 0).n, 0, none⟩) 1 1]) (.one (.sc (.sl))) fun l30 =>
                      (.unit (Instr.storeAt 22 (.pointer (some (a0.add 4))) (.slice ((l30 0).A) ((l30 0).n) ((l30 0).c)))
                       (.done (.bool true))))))))))
               (.done (.bool false)))
              (.done (.bool false))))
            (.ite ((a1 : Int) == 5)
             (.ite ((((na2 : Nat) : Int) : Int) == 6)
              (.rd (Instr.loadAt 22 (.pointer (some (a0.add 4)))) (.one (.sc (.sl))) fun l31 =>
               (.call 33 [.slice Aa2 na2 ca2, .int .i64 2] (.one (.sc (.int .i64))) fun l32 => -- babelpkt_at2
                (.pin (vN (Instr.loadAt 22 (.pointer (some (a0.add 4))))) (.slice ((l31 0).A) ((l31 0).n) ((l31 0).c))
                 (.call 33 [.slice Aa2 na2 ca2, .int .i64 4] (.one (.sc (.int .i64))) fun l33 => -- babelpkt_at2
                  (.pin (vN (Instr.loadAt 22 (.pointer (some (a0.add 4))))) (.slice ((l31 0).A) ((l31 0).n) ((l31 0).c))
                   (.sem (Instr.buildSlice 22 1 #[(0, .agg #[.int .i64 1, .int .u16 0, .int .i64 ((l33 0).i), .int .i64 ((l32 0).i), .int .u32 0, .int .i64 0, .int .u64 0, .int .u16 0, .int .i64 0])]) (.one (.sc (.row 1))) fun l34 =>
                    (.nx (builtin .append #[22, 22] 22 #[false, false] #[.slice ((l31 0).A) ((l31 0).n) ((l31 0).c), .slice (some ⟨(l34 0).n, 0, none⟩) 1 1]) (.one (.sc (.sl))) fun l35 =>
                     (.unit (Instr.storeAt 22 (.pointer (some (a0.add 4))) (.slice ((l35 0).A) ((l35 0).n) ((l35 0).c)))
                      (.done (.bool true))))))))))
              (.done (.bool false)))
             (.done (.bool false)))))))))))) h) : Fn Try.prog 51 #[.pointer (some a0), .int .u8 a1, .slice Aa2 na2 ca2] I h Q :=
  Wp.fn (args := [.pointer (some a0), .int .u8 a1, .slice Aa2 na2 ca2]) Try.func51 rfl (by kernel_rfl) (of_tree (cfg := g_babelpkt_reader_short) 1000 (by kernel_rfl) Try.func51 rfl Try.checked.mixed hh)
theorem ca_babelpkt_reader_short : callable Try.prog 51 := ⟨_, Try.func51, by kernel_rfl, by kernel_rfl⟩
end Go.Proofs.YtcfnliodgoenkaaS
