import Derived.Test.YtahllmihgpaaeaaT0
set_option linter.unusedVariables false
namespace Go.Proofs.YtahllmihgpaaeaaS
/-! ### octroilaw05_RippktEncodes: function 3 of Go -/
abbrev F_octroilaw05_RippktEncodes : FuncId := 3
noncomputable def c_octroilaw05_RippktEncodes : Code := (Try.f3.body).getD .skip
noncomputable def g_octroilaw05_RippktEncodes : Cfg := { sh := shs, fsh := fshs, results := [.tmp 2], hint := fun r i => match r, i with | 6, 3 => some (true, .one (.sc (.str))) | 6, 5 => some (true, .one (.sc (.str))) | _, _ => none, ord := fun _ => none, pre := fun _ => [], un := fun _ _ _ => false }
set_option maxRecDepth 100000 in
theorem r_octroilaw05_RippktEncodes (a0_0 : Int) (a0_1 : Bool) (Aa0_2 : Option Addr) (na0_2 : Nat) (ca0_2 : Nat) {I : Ctx} {h : Mem} {Q : Value → Mem → Prop}
  (hh : holds Try.prog 3 I (cl_ Q)
   (.sem (Instr.box 24 (.agg #[.int .i64 a0_0, .bool a0_1, .slice Aa0_2 na0_2 ca0_2])) shBlk fun l1 =>
    (.call 10 [] (.one (.sc (.bool))) fun l2 => -- octroilaw05_awake
     (.rd (Instr.loadAt 22 (.pointer (some ⟨(l1 0).n, 2, none⟩))) (.one (.sc (.sl))) fun l3 =>
      (.ite (decide (((((l3 0).n : Nat) : Int) : Int) > 100))
       (.done (.bool ((l2 0).b)))
       (.rd (Instr.loadAt 24 (.pointer (some ⟨(l1 0).n, 0, none⟩))) (.one (.agg [.int .i64, .bool, .sl])) fun l4 =>
        (.call 11 [.agg #[.int .i64 ((l4 0).i), .bool ((l4 1).b), .slice ((l4 2).A) ((l4 2).n) ((l4 2).c)]] (.tup [(.sc (.sl)), (.sc (.int .i64))]) fun l5 => -- rippkt_Encode
         (.rd (Instr.loadAt 24 (.pointer (some ⟨(l1 0).n, 0, none⟩))) (.one (.agg [.int .i64, .bool, .sl])) fun l6 =>
          (.call 12 [.agg #[.int .i64 ((l6 0).i), .bool ((l6 1).b), .slice ((l6 2).A) ((l6 2).n) ((l6 2).c)]] (.tup [(.sc (.sl)), (.sc (.int .i64))]) fun l7 => -- octroiref05_Encode
           (.ite ((l2 0).b)
            (.rdn (convN 26 9 (.slice ((l5 0).A) ((l5 0).n) ((l5 0).c))) (.one (.sc (.str))) fun l8 =>
             (.rdn (convN 26 9 (.slice ((l7 0).A) ((l7 0).n) ((l7 0).c))) (.one (.sc (.str))) fun l9 =>
              (.ite (((l8 0).s).toList == ((l9 0).s).toList)
               (.done (.bool (((l5 1).i : Int) == ((l7 1).i))))
               (.done (.bool false)))))
            (.done (.bool false))))))))))) h) : Fn Try.prog 3 #[.agg #[.int .i64 a0_0, .bool a0_1, .slice Aa0_2 na0_2 ca0_2]] I h Q :=
  Wp.fn (args := [.agg #[.int .i64 a0_0, .bool a0_1, .slice Aa0_2 na0_2 ca0_2]]) Try.func3 rfl (by kernel_rfl) (of_tree (cfg := g_octroilaw05_RippktEncodes) 1000 (by kernel_rfl) Try.func3 rfl Try.checked.mixed hh)
theorem ca_octroilaw05_RippktEncodes : callable Try.prog 3 := ⟨_, Try.func3, by kernel_rfl, by kernel_rfl⟩
/-! ### octroilaw05_RippktEntries: function 4 of Go -/
abbrev F_octroilaw05_RippktEntries : FuncId := 4
noncomputable def c_octroilaw05_RippktEntries : Code := (Try.f4.body).getD .skip
def p_octroilaw05_RippktEntries : Nat → List (List Nat) := fun r => match r with | 8 => [[], [0], [], [2], [2, 3], [], [5], [2, 3, 4, 5, 6], [0, 1, 2, 3, 4, 5, 6, 7], [], [0, 1, 2, 3, 4, 5, 6, 7, 8, 9]] | 10 => [[], [0], [0, 1], [0, 1, 2], [0, 1, 2, 3], [0, 1, 2], [0, 1, 2, 5], [0, 1, 2], [0, 1, 2, 7], [0, 1, 2, 7, 8], [0, 1, 2, 5, 6, 7, 8, 9], [0, 1, 2, 3, 4, 5, 6, 7, 8, 9, 10], [0, 1, 2, 3, 4, 5, 6, 7, 8, 9, 10, 11], [0, 1, 2, 3, 4, 5, 6, 7, 8, 9, 10, 11, 12], [0, 1, 2, 3, 4, 5, 6, 7, 8, 9, 10, 11, 12, 13], [0, 1, 2, 3, 4, 5, 6, 7, 8, 9, 10, 11, 12, 13, 14], [0, 1, 2, 3, 4, 5, 6, 7, 8, 9, 10, 11, 12, 13], [0, 1, 2, 3, 4, 5, 6, 7, 8, 9, 10, 11, 12, 13, 16], [0, 1, 2, 3, 4, 5, 6, 7, 8, 9, 10, 11, 12, 13, 16, 17], [0, 1, 2, 3, 4, 5, 6, 7, 8, 9, 10, 11, 12, 13, 16, 17, 18], [0, 1, 2, 3, 4, 5, 6, 7, 8, 9, 10, 11, 12, 13, 16, 17, 18, 19], [0, 1, 2, 3, 4, 5, 6, 7, 8, 9, 10, 11, 12, 13, 14, 15, 16, 17, 18, 19, 20], [0, 1, 2, 3, 4, 5, 6, 7, 8, 9, 10, 11, 12, 13, 14, 15, 16, 17, 18, 19, 20, 21], [0, 1, 2, 3, 4, 5, 6, 7, 8, 9, 10, 11, 12, 13, 14, 15, 16, 17, 18, 19, 20, 21, 22]] | _ => []
noncomputable def g_octroilaw05_RippktEntries : Cfg := { sh := shs, fsh := fshs, results := [.tmp 4], hint := fun r i => match r, i with | 10, 4 => some (true, .one (.sc (.str))) | 10, 6 => some (true, .one (.sc (.str))) | 10, 9 => some (true, .one (.sc (.str))) | 10, 10 => some (true, .one (.sc (.str))) | _, _ => none, ord := fun r => match r with | 8 => some [0, 1, 2, 3, 5, 6, 4, 7, 8, 9, 10] | 10 => some [0, 1, 2, 3, 4, 5, 6, 7, 8, 9, 10, 11, 12, 13, 14, 15, 16, 17, 18, 19, 20, 21, 22, 23] | _ => none, pre := p_octroilaw05_RippktEntries, un := unOf p_octroilaw05_RippktEntries }
set_option maxRecDepth 100000 in
theorem r_octroilaw05_RippktEntries (a0_0 : Int) (a0_1 : Bool) (Aa0_2 : Option Addr) (na0_2 : Nat) (ca0_2 : Nat) (a1_0 : Int) (a1_1 : Bool) (Aa1_2 : Option Addr) (na1_2 : Nat) (ca1_2 : Nat) {I : Ctx} {h : Mem} {Q : Value → Mem → Prop}
  (hh : holds Try.prog 4 I (cl_ Q)
   (.sem (Instr.box 24 (.agg #[.int .i64 a0_0, .bool a0_1, .slice Aa0_2 na0_2 ca0_2])) shBlk fun l1 =>
    (.sem (Instr.box 24 (.agg #[.int .i64 a1_0, .bool a1_1, .slice Aa1_2 na1_2 ca1_2])) shBlk fun l2 =>
     (.call 10 [] (.one (.sc (.bool))) fun l3 => -- octroilaw05_awake
      (.ite (!((l3 0).b))
       (.done (.bool ((l3 0).b)))
       (.rd (Instr.loadAt 22 (.pointer (some ⟨(l1 0).n, 2, none⟩))) (.one (.sc (.sl))) fun l4 =>
        (.ite (decide (((((l4 0).n : Nat) : Int) : Int) > 12))
         (.done (.bool ((l3 0).b)))
         (.rd (Instr.loadAt 22 (.pointer (some ⟨(l2 0).n, 2, none⟩))) (.one (.sc (.sl))) fun l5 =>
          (.ite (decide (((((l5 0).n : Nat) : Int) : Int) > 12))
           (.done (.bool ((l3 0).b)))
           (.rd (Instr.loadAt 4 (.pointer (some ⟨(l1 0).n, 1, none⟩))) (.one (.sc (.bool))) fun l6 =>
            (.ite ((l6 0).b)
             (.done (.bool ((l3 0).b)))
             (.rd (Instr.loadAt 4 (.pointer (some ⟨(l2 0).n, 1, none⟩))) (.one (.sc (.bool))) fun l7 =>
              (.ite ((l7 0).b)
               (.done (.bool ((l3 0).b)))
               (.rd (Instr.loadAt 3 (.pointer (some ⟨(l1 0).n, 0, none⟩))) (.one (.sc (.int .i64))) fun l8 =>
                (.rd (Instr.loadAt 3 (.pointer (some ⟨(l2 0).n, 0, none⟩))) (.one (.sc (.int .i64))) fun l9 =>
                 (.ite (((l8 0).i : Int) != ((l9 0).i))
                  (.done (.bool ((l3 0).b)))
                  (.rd (Instr.loadAt 24 (.pointer (some ⟨(l1 0).n, 0, none⟩))) (.one (.agg [.int .i64, .bool, .sl])) fun l10 =>
                   (.call 11 [.agg #[.int .i64 ((l10 0).i), .bool ((l10 1).b), .slice ((l10 2).A) ((l10 2).n) ((l10 2).c)]] (.tup [(.sc (.sl)), (.sc (.int .i64))]) fun l11 => -- rippkt_Encode
                    (.rd (Instr.loadAt 24 (.pointer (some ⟨(l2 0).n, 0, none⟩))) (.one (.agg [.int .i64, .bool, .sl])) fun l12 =>
                     (.call 11 [.agg #[.int .i64 ((l12 0).i), .bool ((l12 1).b), .slice ((l12 2).A) ((l12 2).n) ((l12 2).c)]] (.tup [(.sc (.sl)), (.sc (.int .i64))]) fun l13 => -- rippkt_Encode
                      (.ite (((l11 1).i : Int) != 0)
                       (.done (.bool true))
                       (.ite (((l13 1).i : Int) != 0)
                        (.done (.bool true))
                        (.rd (Instr.loadAt 3 (.pointer (some ⟨(l1 0).n, 0, none⟩))) (.one (.sc (.int .i64))) fun l14 =>
                         (.rd (Instr.loadAt 22 (.pointer (some ⟨(l1 0).n, 2, none⟩))) (.one (.sc (.sl))) fun l15 =>
                          (.rd (Instr.loadAt 22 (.pointer (some ⟨(l2 0).n, 2, none⟩))) (.one (.sc (.sl))) fun l16 =>
                           (.nx (builtin .append #[22, 22] 22 #[true, false] #[.slice none 0 0, .slice ((l15 0).A) ((l15 0).n) ((l15 0).c)]) (.one (.sc (.sl))) fun l17 =>
                            (.pin (vN (Instr.loadAt 22 (.pointer (some ⟨(l2 0).n, 2, none⟩)))) (.slice ((l16 0).A) ((l16 0).n) ((l16 0).c))
                             (.pin (vN (Instr.loadAt 3 (.pointer (some ⟨(l1 0).n, 0, none⟩)))) (.int .i64 ((l14 0).i))
                              (.nx (builtin .append #[22, 22] 22 #[false, false] #[.slice ((l17 0).A) ((l17 0).n) ((l17 0).c), .slice ((l16 0).A) ((l16 0).n) ((l16 0).c)]) (.one (.sc (.sl))) fun l18 =>
                               (.pin (vN (Instr.loadAt 3 (.pointer (some ⟨(l1 0).n, 0, none⟩)))) (.int .i64 ((l14 0).i))
                                (.sem (Instr.alloc 24 true (.tuple #[])) shBlk fun l19 =>
                                 (.unit (Instr.storeAt 24 (.pointer (some ⟨(l19 0).n, 0, none⟩)) (.agg #[.int .i64 ((l14 0).i), .bool false, .slice ((l18 0).A) ((l18 0).n) ((l18 0).c)]))
                                  (.rd (Instr.loadAt 24 (.pointer (some ⟨(l19 0).n, 0, none⟩))) (.one (.agg [.int .i64, .bool, .sl])) fun l20 =>
                                   (.call 11 [.agg #[.int .i64 ((l20 0).i), .bool ((l20 1).b), .slice ((l20 2).A) ((l20 2).n) ((l20 2).c)]] (.tup [(.sc (.sl)), (.sc (.int .i64))]) fun l21 => -- rippkt_Encode
                                    (.ite (((l21 1).i : Int) == 0)
                                     (.rdn (convN 26 9 (.slice ((l21 0).A) ((l21 0).n) ((l21 0).c))) (.one (.sc (.str))) fun l22 =>
                                      (.rdn (convN 26 9 (.slice ((l11 0).A) ((l11 0).n) ((l11 0).c))) (.one (.sc (.str))) fun l23 =>
                                       (.rd (Instr.sliceAt 26 (.slice ((l13 0).A) ((l13 0).n) ((l13 0).c)) (some (.int .i64 4)) none none) (.one (.sc (.sl))) fun l24 =>
                                        (.rdn (convN 26 9 (.slice ((l24 0).A) ((l24 0).n) ((l24 0).c))) (.one (.sc (.str))) fun l25 =>
                                         (.rdn (binN .add 9 (.string ((l23 0).s)) (.string ((l25 0).s))) (.one (.sc (.str))) fun l26 =>
                                          (.ite (((l22 0).s).toList == ((l26 0).s).toList)
                                           (.rd (Instr.loadAt 22 (.pointer (some ⟨(l1 0).n, 2, none⟩))) (.one (.sc (.sl))) fun l27 =>
                                            (.done (.bool (((((l11 0).n : Nat) : Int) : Int) == (IntKind.wrap .i64 (4 + (IntKind.wrap .i64 (20 * (((l27 0).n : Nat) : Int)))))))))
                                           (.done (.bool false))))))))
                                     (.done (.bool false)))))))))))))))))))))))))))))))))))) h) : Fn Try.prog 4 #[.agg #[.int .i64 a0_0, .bool a0_1, .slice Aa0_2 na0_2 ca0_2], .agg #[.int .i64 a1_0, .bool a1_1, .slice Aa1_2 na1_2 ca1_2]] I h Q :=
  Wp.fn (args := [.agg #[.int .i64 a0_0, .bool a0_1, .slice Aa0_2 na0_2 ca0_2], .agg #[.int .i64 a1_0, .bool a1_1, .slice Aa1_2 na1_2 ca1_2]]) Try.func4 rfl (by kernel_rfl) (of_tree (cfg := g_octroilaw05_RippktEntries) 1000 (by kernel_rfl) Try.func4 rfl Try.checked.mixed hh)
theorem ca_octroilaw05_RippktEntries : callable Try.prog 4 := ⟨_, Try.func4, by kernel_rfl, by kernel_rfl⟩
/-! ### octroilaw05_RippktDecodes: function 5 of Go -/
abbrev F_octroilaw05_RippktDecodes : FuncId := 5
noncomputable def c_octroilaw05_RippktDecodes : Code := (Try.f5.body).getD .skip
noncomputable def g_octroilaw05_RippktDecodes : Cfg := { sh := shs, fsh := fshs, results := [.tmp 2], hint := fun _ _ => none, ord := fun _ => none, pre := fun _ => [], un := fun _ _ _ => false }
set_option maxRecDepth 100000 in
theorem r_octroilaw05_RippktDecodes (Aa0 : Option Addr) (na0 : Nat) (ca0 : Nat) {I : Ctx} {h : Mem} {Q : Value → Mem → Prop}
  (hh : holds Try.prog 5 I (cl_ Q)
   (.call 10 [] (.one (.sc (.bool))) fun l1 => -- octroilaw05_awake
    (.ite (decide ((((na0 : Nat) : Int) : Int) > 3000))
     (.done (.bool ((l1 0).b)))
     (.call 13 [.slice Aa0 na0 ca0] (.tup [.agg [.int .i64, .bool, .sl], (.sc (.int .i64))]) fun l2 => -- rippkt_Decode
      (.sem (Instr.alloc 24 true (.tuple #[])) shBlk fun l3 =>
       (.unit (Instr.storeAt 24 (.pointer (some ⟨(l3 0).n, 0, none⟩)) (.agg #[.int .i64 ((l2 0).i), .bool ((l2 1).b), .slice ((l2 2).A) ((l2 2).n) ((l2 2).c)]))
        (.call 14 [.slice Aa0 na0 ca0] (.tup [.agg [.int .i64, .bool, .sl], (.sc (.int .i64))]) fun l4 => -- octroiref05_Decode
         (.sem (Instr.alloc 24 true (.tuple #[])) shBlk fun l5 =>
          (.unit (Instr.storeAt 24 (.pointer (some ⟨(l5 0).n, 0, none⟩)) (.agg #[.int .i64 ((l4 0).i), .bool ((l4 1).b), .slice ((l4 2).A) ((l4 2).n) ((l4 2).c)]))
           (.rd (Instr.loadAt 24 (.pointer (some ⟨(l3 0).n, 0, none⟩))) (.one (.agg [.int .i64, .bool, .sl])) fun l6 =>
            (.rd (Instr.loadAt 24 (.pointer (some ⟨(l5 0).n, 0, none⟩))) (.one (.agg [.int .i64, .bool, .sl])) fun l7 =>
             (.call 15 [.agg #[.int .i64 ((l6 0).i), .bool ((l6 1).b), .slice ((l6 2).A) ((l6 2).n) ((l6 2).c)], .agg #[.int .i64 ((l7 0).i), .bool ((l7 1).b), .slice ((l7 2).A) ((l7 2).n) ((l7 2).c)]] (.one (.sc (.bool))) fun l8 => -- octroiref05_Same
              (.ite ((l1 0).b)
               (.ite ((l8 0).b)
                (.done (.bool (((l2 3).i : Int) == ((l4 3).i))))
                (.done (.bool false)))
               (.done (.bool false)))))))))))))) h) : Fn Try.prog 5 #[.slice Aa0 na0 ca0] I h Q :=
  Wp.fn (args := [.slice Aa0 na0 ca0]) Try.func5 rfl (by kernel_rfl) (of_tree (cfg := g_octroilaw05_RippktDecodes) 1000 (by kernel_rfl) Try.func5 rfl Try.checked.mixed hh)
theorem ca_octroilaw05_RippktDecodes : callable Try.prog 5 := ⟨_, Try.func5, by kernel_rfl, by kernel_rfl⟩
/-! ### octroilaw05_RippktBack: function 6 of Go -/
abbrev F_octroilaw05_RippktBack : FuncId := 6
noncomputable def c_octroilaw05_RippktBack : Code := (Try.f6.body).getD .skip
noncomputable def g_octroilaw05_RippktBack : Cfg := { sh := shs, fsh := fshs, results := [.tmp 2], hint := fun _ _ => none, ord := fun _ => none, pre := fun _ => [], un := fun _ _ _ => false }
set_option maxRecDepth 100000 in
theorem r_octroilaw05_RippktBack (a0_0 : Int) (a0_1 : Bool) (Aa0_2 : Option Addr) (na0_2 : Nat) (ca0_2 : Nat) {I : Ctx} {h : Mem} {Q : Value → Mem → Prop}
  (hh : holds Try.prog 6 I (cl_ Q)
   (.sem (Instr.box 24 (.agg #[.int .i64 a0_0, .bool a0_1, .slice Aa0_2 na0_2 ca0_2])) shBlk fun l1 =>
    (.call 10 [] (.one (.sc (.bool))) fun l2 => -- octroilaw05_awake
     (.rd (Instr.loadAt 22 (.pointer (some ⟨(l1 0).n, 2, none⟩))) (.one (.sc (.sl))) fun l3 =>
      (.ite (decide (((((l3 0).n : Nat) : Int) : Int) > 100))
       (.done (.bool ((l2 0).b)))
       (.rd (Instr.loadAt 24 (.pointer (some ⟨(l1 0).n, 0, none⟩))) (.one (.agg [.int .i64, .bool, .sl])) fun l4 =>
        (.call 11 [.agg #[.int .i64 ((l4 0).i), .bool ((l4 1).b), .slice ((l4 2).A) ((l4 2).n) ((l4 2).c)]] (.tup [(.sc (.sl)), (.sc (.int .i64))]) fun l5 => -- rippkt_Encode
         (.call 13 [.slice ((l5 0).A) ((l5 0).n) ((l5 0).c)] (.tup [.agg [.int .i64, .bool, .sl], (.sc (.int .i64))]) fun l6 => -- rippkt_Decode
          (.sem (Instr.alloc 24 true (.tuple #[])) shBlk fun l7 =>
           (.unit (Instr.storeAt 24 (.pointer (some ⟨(l7 0).n, 0, none⟩)) (.agg #[.int .i64 ((l6 0).i), .bool ((l6 1).b), .slice ((l6 2).A) ((l6 2).n) ((l6 2).c)]))
            (.rd (Instr.loadAt 24 (.pointer (some ⟨(l1 0).n, 0, none⟩))) (.one (.agg [.int .i64, .bool, .sl])) fun l8 =>
             (.rd (Instr.loadAt 24 (.pointer (some ⟨(l7 0).n, 0, none⟩))) (.one (.agg [.int .i64, .bool, .sl])) fun l9 =>
              (.call 15 [.agg #[.int .i64 ((l8 0).i), .bool ((l8 1).b), .slice ((l8 2).A) ((l8 2).n) ((l8 2).c)], .agg #[.int .i64 ((l9 0).i), .bool ((l9 1).b), .slice ((l9 2).A) ((l9 2).n) ((l9 2).c)]] (.one (.sc (.bool))) fun l10 => -- octroiref05_Same
               (.ite (((l5 1).i : Int) != 0)
                (.ite ((l2 0).b)
                 (.ite (((((l5 0).n : Nat) : Int) : Int) == 0)
                  (.done (.bool (((l6 3).i : Int) == 2)))
                  (.done (.bool false)))
                 (.done (.bool false)))
                (.ite ((l2 0).b)
                 (.ite (((l6 3).i : Int) == 0)
                  (.ite ((l10 0).b)
                   (.done (.bool (decide (((((l5 0).n : Nat) : Int) : Int) ≤ 504))))
                   (.done (.bool false)))
                  (.done (.bool false)))
                 (.done (.bool false)))))))))))))))) h) : Fn Try.prog 6 #[.agg #[.int .i64 a0_0, .bool a0_1, .slice Aa0_2 na0_2 ca0_2]] I h Q :=
  Wp.fn (args := [.agg #[.int .i64 a0_0, .bool a0_1, .slice Aa0_2 na0_2 ca0_2]]) Try.func6 rfl (by kernel_rfl) (of_tree (cfg := g_octroilaw05_RippktBack) 1000 (by kernel_rfl) Try.func6 rfl Try.checked.mixed hh)
theorem ca_octroilaw05_RippktBack : callable Try.prog 6 := ⟨_, Try.func6, by kernel_rfl, by kernel_rfl⟩
/-! ### octroilaw05_RippktOnce: function 7 of Go -/
abbrev F_octroilaw05_RippktOnce : FuncId := 7
noncomputable def c_octroilaw05_RippktOnce : Code := (Try.f7.body).getD .skip
noncomputable def g_octroilaw05_RippktOnce : Cfg := { sh := shs, fsh := fshs, results := [.tmp 2], hint := fun r i => match r, i with | 8, 7 => some (true, .one (.sc (.str))) | 8, 9 => some (true, .one (.sc (.str))) | _, _ => none, ord := fun _ => none, pre := fun _ => [], un := fun _ _ _ => false }
set_option maxRecDepth 100000 in
theorem r_octroilaw05_RippktOnce (Aa0 : Option Addr) (na0 : Nat) (ca0 : Nat) {I : Ctx} {h : Mem} {Q : Value → Mem → Prop}
  (hh : holds Try.prog 7 I (cl_ Q)
   (.call 10 [] (.one (.sc (.bool))) fun l1 => -- octroilaw05_awake
    (.ite (decide ((((na0 : Nat) : Int) : Int) > 3000))
     (.done (.bool ((l1 0).b)))
     (.call 13 [.slice Aa0 na0 ca0] (.tup [.agg [.int .i64, .bool, .sl], (.sc (.int .i64))]) fun l2 => -- rippkt_Decode
      (.sem (Instr.alloc 24 true (.tuple #[])) shBlk fun l3 =>
       (.unit (Instr.storeAt 24 (.pointer (some ⟨(l3 0).n, 0, none⟩)) (.agg #[.int .i64 ((l2 0).i), .bool ((l2 1).b), .slice ((l2 2).A) ((l2 2).n) ((l2 2).c)]))
        (.ite (((l2 3).i : Int) != 0)
         (.ite ((l1 0).b)
          (.rd (Instr.loadAt 22 (.pointer (some ⟨(l3 0).n, 2, none⟩))) (.one (.sc (.sl))) fun l4 =>
           (.done (.bool (((((l4 0).n : Nat) : Int) : Int) == 0))))
          (.done (.bool false)))
         (.rd (Instr.loadAt 24 (.pointer (some ⟨(l3 0).n, 0, none⟩))) (.one (.agg [.int .i64, .bool, .sl])) fun l5 =>
          (.call 11 [.agg #[.int .i64 ((l5 0).i), .bool ((l5 1).b), .slice ((l5 2).A) ((l5 2).n) ((l5 2).c)]] (.tup [(.sc (.sl)), (.sc (.int .i64))]) fun l6 => -- rippkt_Encode
           (.ite ((l1 0).b)
            (.ite (((l6 1).i : Int) == 0)
             (.rdn (convN 26 9 (.slice ((l6 0).A) ((l6 0).n) ((l6 0).c))) (.one (.sc (.str))) fun l7 =>
              (.rdn (convN 26 9 (.slice Aa0 na0 ca0)) (.one (.sc (.str))) fun l8 =>
               (.done (.bool (((l7 0).s).toList == ((l8 0).s).toList)))))
             (.done (.bool false)))
            (.done (.bool false))))))))))) h) : Fn Try.prog 7 #[.slice Aa0 na0 ca0] I h Q :=
  Wp.fn (args := [.slice Aa0 na0 ca0]) Try.func7 rfl (by kernel_rfl) (of_tree (cfg := g_octroilaw05_RippktOnce) 1000 (by kernel_rfl) Try.func7 rfl Try.checked.mixed hh)
theorem ca_octroilaw05_RippktOnce : callable Try.prog 7 := ⟨_, Try.func7, by kernel_rfl, by kernel_rfl⟩
/-! ### octroilaw05_RippktCuts: function 8 of Go -/
abbrev F_octroilaw05_RippktCuts : FuncId := 8
noncomputable def c_octroilaw05_RippktCuts : Code := (Try.f8.body).getD .skip
noncomputable def g_octroilaw05_RippktCuts : Cfg := { sh := shs, fsh := fshs, results := [.tmp 6], hint := fun _ _ => none, ord := fun _ => none, pre := fun _ => [], un := fun _ _ _ => false }
set_option maxRecDepth 100000 in
theorem r_octroilaw05_RippktCuts (a0_0 : Int) (a0_1 : Bool) (Aa0_2 : Option Addr) (na0_2 : Nat) (ca0_2 : Nat) (a1 : Int) (Aa2 : Option Addr) (na2 : Nat) (ca2 : Nat) {I : Ctx} {h : Mem} {Q : Value → Mem → Prop}
  (hh : holds Try.prog 8 I (cl_ Q)
   (.sem (Instr.box 24 (.agg #[.int .i64 a0_0, .bool a0_1, .slice Aa0_2 na0_2 ca0_2])) shBlk fun l1 =>
    (.call 10 [] (.one (.sc (.bool))) fun l2 => -- octroilaw05_awake
     (.ite (!((l2 0).b))
      (.done (.bool ((l2 0).b)))
      (.rd (Instr.loadAt 22 (.pointer (some ⟨(l1 0).n, 2, none⟩))) (.one (.sc (.sl))) fun l3 =>
       (.ite (decide (((((l3 0).n : Nat) : Int) : Int) > 25))
        (.done (.bool ((l2 0).b)))
        (.ite (decide ((a1 : Int) < 1))
         (.done (.bool ((l2 0).b)))
         (.ite (decide ((a1 : Int) > 19))
          (.done (.bool ((l2 0).b)))
          (.ite (decide ((((na2 : Nat) : Int) : Int) < 1))
           (.done (.bool ((l2 0).b)))
           (.ite (decide ((((na2 : Nat) : Int) : Int) > 19))
            (.done (.bool ((l2 0).b)))
            (.rd (Instr.loadAt 24 (.pointer (some ⟨(l1 0).n, 0, none⟩))) (.one (.agg [.int .i64, .bool, .sl])) fun l4 =>
             (.call 11 [.agg #[.int .i64 ((l4 0).i), .bool ((l4 1).b), .slice ((l4 2).A) ((l4 2).n) ((l4 2).c)]] (.tup [(.sc (.sl)), (.sc (.int .i64))]) fun l5 => -- rippkt_Encode
              (.ite (((l5 1).i : Int) != 0)
               (.done (.bool true))
               (.nx (builtin .append #[26, 26] 26 #[true, false] #[.slice none 0 0, .slice ((l5 0).A) ((l5 0).n) ((l5 0).c)]) (.one (.sc (.sl))) fun l6 =>
                (.nx (builtin .append #[26, 26] 26 #[false, false] #[.slice ((l6 0).A) ((l6 0).n) ((l6 0).c), .slice Aa2 na2 ca2]) (.one (.sc (.sl))) fun l7 =>
                 (.call 13 [.slice ((l7 0).A) ((l7 0).n) ((l7 0).c)] (.tup [.agg [.int .i64, .bool, .sl], (.sc (.int .i64))]) fun l8 => -- rippkt_Decode
                  (.sem (Instr.alloc 24 true (.tuple #[])) shBlk fun l9 =>
                   (.unit (Instr.storeAt 24 (.pointer (some ⟨(l9 0).n, 0, none⟩)) (.agg #[.int .i64 ((l8 0).i), .bool ((l8 1).b), .slice ((l8 2).A) ((l8 2).n) ((l8 2).c)]))
                    (.ite (decide ((IntKind.wrap .i64 ((((l5 0).n : Nat) : Int) - a1) : Int) < 0))
                     (.rd (Instr.sliceAt 26 (.slice ((l5 0).A) ((l5 0).n) ((l5 0).c)) none (some (.int .i64 0)) none) (.one (.sc (.sl))) fun l10 =>
                      (.call 13 [.slice ((l10 0).A) ((l10 0).n) ((l10 0).c)] (.tup [.agg [.int .i64, .bool, .sl], (.sc (.int .i64))]) fun l11 => -- rippkt_Decode
                       (.sem (Instr.alloc 24 true (.tuple #[])) shBlk fun l12 =>
                        (.unit (Instr.storeAt 24 (.pointer (some ⟨(l12 0).n, 0, none⟩)) (.agg #[.int .i64 ((l11 0).i), .bool ((l11 1).b), .slice ((l11 2).A) ((l11 2).n) ((l11 2).c)]))
                         (.ite (((l8 3).i : Int) == 2)
                          (.done (.bool (((l11 3).i : Int) == 2)))
                          (.done (.bool false)))))))
                     (.rd (Instr.sliceAt 26 (.slice ((l5 0).A) ((l5 0).n) ((l5 0).c)) none (some (.int .i64 (IntKind.wrap .i64 ((((l5 0).n : Nat) : Int) - a1)))) none) (.one (.sc (.sl))) fun l13 =>
                      (.call 13 [.slice ((l13 0).A) ((l13 0).n) ((l13 0).c)] (.tup [.agg [.int .i64, .bool, .sl], (.sc (.int .i64))]) fun l14 => -- rippkt_Decode
                       (.sem (Instr.alloc 24 true (.tuple #[])) shBlk fun l15 =>
                        (.unit (Instr.storeAt 24 (.pointer (some ⟨(l15 0).n, 0, none⟩)) (.agg #[.int .i64 ((l14 0).i), .bool ((l14 1).b), .slice ((l14 2).A) ((l14 2).n) ((l14 2).c)]))
                         (.ite (((l8 3).i : Int) == 2)
                          (.done (.bool (((l14 3).i : Int) == 2)))
                          (.done (.bool false))))))))))))))))))))))))) h) : Fn Try.prog 8 #[.agg #[.int .i64 a0_0, .bool a0_1, .slice Aa0_2 na0_2 ca0_2], .int .i64 a1, .slice Aa2 na2 ca2] I h Q :=
  Wp.fn (args := [.agg #[.int .i64 a0_0, .bool a0_1, .slice Aa0_2 na0_2 ca0_2], .int .i64 a1, .slice Aa2 na2 ca2]) Try.func8 rfl (by kernel_rfl) (of_tree (cfg := g_octroilaw05_RippktCuts) 1000 (by kernel_rfl) Try.func8 rfl Try.checked.mixed hh)
theorem ca_octroilaw05_RippktCuts : callable Try.prog 8 := ⟨_, Try.func8, by kernel_rfl, by kernel_rfl⟩
/-! ### octroilaw05_RippktWhole: function 9 of Go -/
abbrev F_octroilaw05_RippktWhole : FuncId := 9
noncomputable def c_octroilaw05_RippktWhole : Code := (Try.f9.body).getD .skip
noncomputable def g_octroilaw05_RippktWhole : Cfg := { sh := shs, fsh := fshs, results := [.tmp 2], hint := fun r i => match r, i with | 6, 13 => some (true, .one (.sc (.str))) | 6, 15 => some (true, .one (.sc (.str))) | _, _ => none, ord := fun _ => none, pre := fun _ => [], un := fun _ _ _ => false }
set_option maxRecDepth 100000 in
theorem r_octroilaw05_RippktWhole (Aa0 : Option Addr) (na0 : Nat) (ca0 : Nat) {I : Ctx} {h : Mem} {Q : Value → Mem → Prop}
  (hh : holds Try.prog 9 I (cl_ Q)
   (.call 10 [] (.one (.sc (.bool))) fun l1 => -- octroilaw05_awake
    (.ite (decide ((((na0 : Nat) : Int) : Int) > 3000))
     (.done (.bool ((l1 0).b)))
     (.call 13 [.slice Aa0 na0 ca0] (.tup [.agg [.int .i64, .bool, .sl], (.sc (.int .i64))]) fun l2 => -- rippkt_Decode
      (.sem (Instr.alloc 24 true (.tuple #[])) shBlk fun l3 =>
       (.unit (Instr.storeAt 24 (.pointer (some ⟨(l3 0).n, 0, none⟩)) (.agg #[.int .i64 ((l2 0).i), .bool ((l2 1).b), .slice ((l2 2).A) ((l2 2).n) ((l2 2).c)]))
        (.call 11 [.agg #[.int .i64 1, .bool true, .slice none 0 0]] (.tup [(.sc (.sl)), (.sc (.int .i64))]) fun l4 => -- rippkt_Encode
         (.ite ((l1 0).b)
          (.ite (((l4 1).i : Int) == 0)
           (.ite (((l2 3).i : Int) == 0)
            (.rd (Instr.loadAt 4 (.pointer (some ⟨(l3 0).n, 1, none⟩))) (.one (.sc (.bool))) fun l5 =>
             (.rdn (convN 26 9 (.slice Aa0 na0 ca0)) (.one (.sc (.str))) fun l6 =>
              (.rdn (convN 26 9 (.slice ((l4 0).A) ((l4 0).n) ((l4 0).c))) (.one (.sc (.str))) fun l7 =>
               (.ite (((l5 0).b) == (((l6 0).s).toList == ((l7 0).s).toList))
                (.rd (Instr.loadAt 4 (.pointer (some ⟨(l3 0).n, 1, none⟩))) (.one (.sc (.bool))) fun l8 =>
                 (.ite (!((l8 0).b))
                  (.done (.bool true))
                  (.rd (Instr.loadAt 22 (.pointer (some ⟨(l3 0).n, 2, none⟩))) (.one (.sc (.sl))) fun l9 =>
                   (.done (.bool (((((l9 0).n : Nat) : Int) : Int) == 0))))))
                (.done (.bool false))))))
            (.rdn (convN 26 9 (.slice Aa0 na0 ca0)) (.one (.sc (.str))) fun l10 =>
             (.rdn (convN 26 9 (.slice ((l4 0).A) ((l4 0).n) ((l4 0).c))) (.one (.sc (.str))) fun l11 =>
              (.ite (false == (((l10 0).s).toList == ((l11 0).s).toList))
               (.rd (Instr.loadAt 4 (.pointer (some ⟨(l3 0).n, 1, none⟩))) (.one (.sc (.bool))) fun l12 =>
                (.ite (!((l12 0).b))
                 (.done (.bool true))
                 (.rd (Instr.loadAt 22 (.pointer (some ⟨(l3 0).n, 2, none⟩))) (.one (.sc (.sl))) fun l13 =>
                  (.done (.bool (((((l13 0).n : Nat) : Int) : Int) == 0))))))
               (.done (.bool false))))))
           (.done (.bool false)))
          (.done (.bool false))))))))) h) : Fn Try.prog 9 #[.slice Aa0 na0 ca0] I h Q :=
  Wp.fn (args := [.slice Aa0 na0 ca0]) Try.func9 rfl (by kernel_rfl) (of_tree (cfg := g_octroilaw05_RippktWhole) 1000 (by kernel_rfl) Try.func9 rfl Try.checked.mixed hh)
theorem ca_octroilaw05_RippktWhole : callable Try.prog 9 := ⟨_, Try.func9, by kernel_rfl, by kernel_rfl⟩
/-! ### octroilaw05_awake: function 10 of Go -/
abbrev F_octroilaw05_awake : FuncId := 10
noncomputable def c_octroilaw05_awake : Code := (Try.f10.body).getD .skip
noncomputable def g_octroilaw05_awake : Cfg := { sh := shs, fsh := fshs, results := [.tmp 0], hint := fun _ _ => none, ord := fun _ => none, pre := fun _ => [], un := fun _ _ _ => false }
set_option maxRecDepth 100000 in
theorem r_octroilaw05_awake  {I : Ctx} {h : Mem} {Q : Value → Mem → Prop}
  (hh : holds Try.prog 10 I (cl_ Q)
   (.call 11 [.agg #[.int .i64 1, .bool true, .slice none 0 0]] (.tup [(.sc (.sl)), (.sc (.int .i64))]) fun l1 => -- rippkt_Encode
    (.ite (((l1 1).i : Int) == 0)
     (.ite (((((l1 0).n : Nat) : Int) : Int) == 24)
      (.rd (Instr.indexAt 26 (.slice ((l1 0).A) ((l1 0).n) ((l1 0).c)) (.int .i64 0)) (.one (.sc (.padr))) fun l2 =>
       (.rd (Instr.loadAt 5 (.pointer (some ((l2 0).a)))) (.one (.sc (.int .u8))) fun l3 =>
        (.ite (((l3 0).i : Int) == 1)
         (.rd (Instr.indexAt 26 (.slice ((l1 0).A) ((l1 0).n) ((l1 0).c)) (.int .i64 1)) (.one (.sc (.padr))) fun l4 =>
          (.rd (Instr.loadAt 5 (.pointer (some ((l4 0).a)))) (.one (.sc (.int .u8))) fun l5 =>
           (.ite (((l5 0).i : Int) == 2)
            (.rd (Instr.indexAt 26 (.slice ((l1 0).A) ((l1 0).n) ((l1 0).c)) (.int .i64 23)) (.one (.sc (.padr))) fun l6 =>
             (.rd (Instr.loadAt 5 (.pointer (some ((l6 0).a)))) (.one (.sc (.int .u8))) fun l7 =>
              (.done (.bool (((l7 0).i : Int) == 16)))))
            (.done (.bool false)))))
         (.done (.bool false)))))
      (.done (.bool false)))
     (.done (.bool false)))) h) : Fn Try.prog 10 #[] I h Q :=
  Wp.fn (args := []) Try.func10 rfl (by kernel_rfl) (of_tree (cfg := g_octroilaw05_awake) 1000 (by kernel_rfl) Try.func10 rfl Try.checked.mixed hh)
theorem ca_octroilaw05_awake : callable Try.prog 10 := ⟨_, Try.func10, by kernel_rfl, by kernel_rfl⟩
/-! ### rippkt_Encode: function 11 of Go -/
abbrev F_rippkt_Encode : FuncId := 11
noncomputable def c_rippkt_Encode : Code := (Try.f11.body).getD .skip
noncomputable def g_rippkt_Encode : Cfg := { sh := shs, fsh := fshs, results := [.tmp 2, .tmp 3], hint := fun _ _ => none, ord := fun _ => none, pre := fun _ => [], un := fun _ _ _ => false }
noncomputable def k_rippkt_Encode_1 : List Item := [.code (bd (bd (sr (sl (sr (sr (sr (sr (sr c_rippkt_Encode))))))))), .inLoop (bd (bd (sr (sl (sr (sr (sr (sr (sr c_rippkt_Encode))))))))), .inBlock 1, .code (sr (sr (sr (sr (sr (sr c_rippkt_Encode))))))]
noncomputable def t_rippkt_Encode_1 (Ay49 : Option Addr) (ny49 : Nat) (cy49 : Nat) (y50 : Int) (A5 : Option Addr) (n5 : Nat) (c5 : Nat) (x51 : Int) (u : Nat → Value) : List Value := [(u 0), (u 1), (u 2), (u 3), (u 4), .slice A5 n5 c5, undef, (u 7), (u 8), (u 9), (u 10), (u 11), (u 12), (u 13), (u 14), (u 15), (u 16), (u 17), (u 18), (u 19), (u 20), (u 21), (u 22), (u 23), (u 24), (u 25), (u 26), (u 27), (u 28), (u 29), (u 30), (u 31), (u 32), (u 33), (u 34), (u 35), (u 36), (u 37), (u 38), (u 39), (u 40), (u 41), (u 42), (u 43), (u 44), (u 45), (u 46), (u 47), (u 48), .slice Ay49 ny49 cy49, .int .i64 y50, .int .i64 x51, (u 52), (u 53), (u 54), (u 55), (u 56), (u 57), (u 58), (u 59), (u 60)]
set_option maxRecDepth 100000 in
theorem r_rippkt_Encode (a0_0 : Int) (a0_1 : Bool) (Aa0_2 : Option Addr) (na0_2 : Nat) (ca0_2 : Nat) {I : Ctx} {h : Mem} {Q : Value → Mem → Prop}
  (hh : holds Try.prog 11 I (cl_ Q)
   (.sem (Instr.box 24 (.agg #[.int .i64 a0_0, .bool a0_1, .slice Aa0_2 na0_2 ca0_2])) shBlk fun l1 =>
    (.rd (Instr.loadAt 22 (.pointer (some ⟨(l1 0).n, 2, none⟩))) (.one (.sc (.sl))) fun l2 =>
     (.ite (decide (((((l2 0).n : Nat) : Int) : Int) > 25))
      (.done (.tuple #[.slice none 0 0, .int .i64 9]))
      (.rd (Instr.loadAt 3 (.pointer (some ⟨(l1 0).n, 0, none⟩))) (.one (.sc (.int .i64))) fun l3 =>
       (.ite (((l3 0).i : Int) != 1)
        (.rd (Instr.loadAt 3 (.pointer (some ⟨(l1 0).n, 0, none⟩))) (.one (.sc (.int .i64))) fun l4 =>
         (.ite (((l4 0).i : Int) != 2)
          (.ite (((l4 0).i : Int) != 2)
           (.done (.tuple #[.slice none 0 0, .int .i64 1]))
           (.rd (Instr.loadAt 3 (.pointer (some ⟨(l1 0).n, 0, none⟩))) (.one (.sc (.int .i64))) fun l5 =>
            (.sem (Instr.buildSlice 26 4 #[(0, .int .u8 (IntKind.wrap .u8 ((l5 0).i))), (1, .int .u8 2), (2, .int .u8 0), (3, .int .u8 0)]) (.one (.sc (.row 4))) fun l6 =>
             (.rd (Instr.loadAt 4 (.pointer (some ⟨(l1 0).n, 1, none⟩))) (.one (.sc (.bool))) fun l7 =>
              (.ite ((l7 0).b)
               (.call 19 [] (.one (.sc (.sl))) fun l8 => -- rippkt_whole
                (.nx (builtin .append #[26, 26] 26 #[false, false] #[.slice (some ⟨(l6 0).n, 0, none⟩) 4 4, .slice ((l8 0).A) ((l8 0).n) ((l8 0).c)]) (.one (.sc (.sl))) fun l9 =>
                 (.done (.tuple #[.slice ((l9 0).A) ((l9 0).n) ((l9 0).c), .int .i64 0]))))
               (.rd (Instr.loadAt 22 (.pointer (some ⟨(l1 0).n, 2, none⟩))) (.one (.sc (.sl))) fun l10 =>
                (.stop k_rippkt_Encode_1 (t_rippkt_Encode_1 ((l10 0).A) ((l10 0).n) ((l10 0).c) (((l10 0).n : Nat) : Int) (some ⟨(l6 0).n, 0, none⟩) 4 4 0 (jl [(0, .agg #[.int .i64 a0_0, .bool a0_1, .slice Aa0_2 na0_2 ca0_2]), (1, .pointer (some ⟨(l1 0).n, 0, none⟩)), (2, .slice none 0 0), (3, .int .i64 0), (4, .func (.func 16) #[] #[]), (7, undef), (8, .bool (decide (((((l2 0).n : Nat) : Int) : Int) > 25))), (9, .pointer (some ⟨(l1 0).n, 2, none⟩)), (10, .slice ((l2 0).A) ((l2 0).n) ((l2 0).c)), (11, .int .i64 (((l2 0).n : Nat) : Int)), (12, .bool (decide (((((l2 0).n : Nat) : Int) : Int) > 25))), (13, .bool (((l4 0).i : Int) != 2)), (14, .pointer (some ⟨(l1 0).n, 0, none⟩)), (15, .int .i64 ((l3 0).i)), (16, .bool (((l3 0).i : Int) != 1)), (17, .bool true), (18, .pointer (some ⟨(l1 0).n, 0, none⟩)), (19, .int .i64 ((l4 0).i)), (20, .bool (((l4 0).i : Int) != 2)), (21, .bool (((l4 0).i : Int) != 2)), (22, undef), (23, undef), (24, undef), (25, undef), (26, undef), (27, undef), (28, undef), (29, undef), (30, undef), (31, undef), (32, undef), (33, undef), (34, undef), (35, undef), (36, undef), (37, undef), (38, undef), (39, .pointer (some ⟨(l1 0).n, 0, none⟩)), (40, .int .i64 ((l5 0).i)), (41, .int .u8 (IntKind.wrap .u8 ((l5 0).i))), (42, .slice (some ⟨(l6 0).n, 0, none⟩) 4 4), (43, .pointer (some ⟨(l1 0).n, 1, none⟩)), (44, .bool ((l7 0).b)), (45, undef), (46, undef), (47, undef), (48, .pointer (some ⟨(l1 0).n, 2, none⟩)), (52, undef), (53, undef), (54, undef), (55, undef), (56, undef), (57, undef), (58, undef), (59, undef), (60, undef)])))))))))
          (.rd (Instr.loadAt 4 (.pointer (some ⟨(l1 0).n, 1, none⟩))) (.one (.sc (.bool))) fun l11 =>
           (.ite ((l11 0).b)
            (.rd (Instr.loadAt 3 (.pointer (some ⟨(l1 0).n, 0, none⟩))) (.one (.sc (.int .i64))) fun l12 =>
             (.ite (((l12 0).i : Int) != 1)
              (.done (.tuple #[.slice none 0 0, .int .i64 1]))
              (.rd (Instr.loadAt 22 (.pointer (some ⟨(l1 0).n, 2, none⟩))) (.one (.sc (.sl))) fun l13 =>
               (.ite (decide (((((l13 0).n : Nat) : Int) : Int) > 0))
                (.ite (decide (((((l13 0).n : Nat) : Int) : Int) > 0))
                 (.done (.tuple #[.slice none 0 0, .int .i64 1]))
                 (.rd (Instr.loadAt 3 (.pointer (some ⟨(l1 0).n, 0, none⟩))) (.one (.sc (.int .i64))) fun l14 =>
                  (.sem (Instr.buildSlice 26 4 #[(0, .int .u8 (IntKind.wrap .u8 ((l14 0).i))), (1, .int .u8 2), (2, .int .u8 0), (3, .int .u8 0)]) (.one (.sc (.row 4))) fun l15 =>
                   (.rd (Instr.loadAt 4 (.pointer (some ⟨(l1 0).n, 1, none⟩))) (.one (.sc (.bool))) fun l16 =>
                    (.ite ((l16 0).b)
                     (.call 19 [] (.one (.sc (.sl))) fun l17 => -- rippkt_whole
                      (.nx (builtin .append #[26, 26] 26 #[false, false] #[.slice (some ⟨(l15 0).n, 0, none⟩) 4 4, .slice ((l17 0).A) ((l17 0).n) ((l17 0).c)]) (.one (.sc (.sl))) fun l18 =>
                       (.done (.tuple #[.slice ((l18 0).A) ((l18 0).n) ((l18 0).c), .int .i64 0]))))
                     (.rd (Instr.loadAt 22 (.pointer (some ⟨(l1 0).n, 2, none⟩))) (.one (.sc (.sl))) fun l19 =>
                      (.stop k_rippkt_Encode_1 (t_rippkt_Encode_1 ((l19 0).A) ((l19 0).n) ((l19 0).c) (((l19 0).n : Nat) : Int) (some ⟨(l15 0).n, 0, none⟩) 4 4 0 (jl [(0, .agg #[.int .i64 a0_0, .bool a0_1, .slice Aa0_2 na0_2 ca0_2]), (1, .pointer (some ⟨(l1 0).n, 0, none⟩)), (2, .slice none 0 0), (3, .int .i64 0), (4, .func (.func 16) #[] #[]), (7, undef), (8, .bool (decide (((((l2 0).n : Nat) : Int) : Int) > 25))), (9, .pointer (some ⟨(l1 0).n, 2, none⟩)), (10, .slice ((l2 0).A) ((l2 0).n) ((l2 0).c)), (11, .int .i64 (((l2 0).n : Nat) : Int)), (12, .bool (decide (((((l2 0).n : Nat) : Int) : Int) > 25))), (13, .bool (decide (((((l13 0).n : Nat) : Int) : Int) > 0))), (14, .pointer (some ⟨(l1 0).n, 0, none⟩)), (15, .int .i64 ((l3 0).i)), (16, .bool (((l3 0).i : Int) != 1)), (17, .bool true), (18, .pointer (some ⟨(l1 0).n, 0, none⟩)), (19, .int .i64 ((l4 0).i)), (20, .bool (((l4 0).i : Int) != 2)), (21, .bool (((l4 0).i : Int) != 2)), (22, .pointer (some ⟨(l1 0).n, 1, none⟩)), (23, .bool ((l11 0).b)), (24, .bool true), (25, .pointer (some ⟨(l1 0).n, 0, none⟩)), (26, .int .i64 ((l12 0).i)), (27, .bool (((l12 0).i : Int) != 1)), (28, .bool false), (29, .pointer (some ⟨(l1 0).n, 2, none⟩)), (30, .slice ((l13 0).A) ((l13 0).n) ((l13 0).c)), (31, .int .i64 (((l13 0).n : Nat) : Int)), (32, .bool (decide (((((l13 0).n : Nat) : Int) : Int) > 0))), (33, .bool (decide (((((l13 0).n : Nat) : Int) : Int) > 0))), (34, .bool (decide (((((l13 0).n : Nat) : Int) : Int) > 0))), (35, undef), (36, undef), (37, undef), (38, undef), (39, .pointer (some ⟨(l1 0).n, 0, none⟩)), (40, .int .i64 ((l14 0).i)), (41, .int .u8 (IntKind.wrap .u8 ((l14 0).i))), (42, .slice (some ⟨(l15 0).n, 0, none⟩) 4 4), (43, .pointer (some ⟨(l1 0).n, 1, none⟩)), (44, .bool ((l16 0).b)), (45, undef), (46, undef), (47, undef), (48, .pointer (some ⟨(l1 0).n, 2, none⟩)), (52, undef), (53, undef), (54, undef), (55, undef), (56, undef), (57, undef), (58, undef), (59, undef), (60, undef)])))))))))
                (.rd (Instr.loadAt 22 (.pointer (some ⟨(l1 0).n, 2, none⟩))) (.one (.sc (.sl))) fun l20 =>
                 (.call 18 [.slice ((l20 0).A) ((l20 0).n) ((l20 0).c), .func (.func 16) #[] #[]] (.one (.sc (.bool))) fun l21 => -- slices_ContainsFunc_RipEntry
                  (.ite ((l21 0).b)
                   (.done (.tuple #[.slice none 0 0, .int .i64 1]))
                   (.rd (Instr.loadAt 3 (.pointer (some ⟨(l1 0).n, 0, none⟩))) (.one (.sc (.int .i64))) fun l22 =>
                    (.sem (Instr.buildSlice 26 4 #[(0, .int .u8 (IntKind.wrap .u8 ((l22 0).i))), (1, .int .u8 2), (2, .int .u8 0), (3, .int .u8 0)]) (.one (.sc (.row 4))) fun l23 =>
                     (.rd (Instr.loadAt 4 (.pointer (some ⟨(l1 0).n, 1, none⟩))) (.one (.sc (.bool))) fun l24 =>
                      (.ite ((l24 0).b)
                       (.call 19 [] (.one (.sc (.sl))) fun l25 => -- rippkt_whole
                        (.nx (builtin .append #[26, 26] 26 #[false, false] #[.slice (some ⟨(l23 0).n, 0, none⟩) 4 4, .slice ((l25 0).A) ((l25 0).n) ((l25 0).c)]) (.one (.sc (.sl))) fun l26 =>
                         (.done (.tuple #[.slice ((l26 0).A) ((l26 0).n) ((l26 0).c), .int .i64 0]))))
                       (.rd (Instr.loadAt 22 (.pointer (some ⟨(l1 0).n, 2, none⟩))) (.one (.sc (.sl))) fun l27 =>
                        (.stop k_rippkt_Encode_1 (t_rippkt_Encode_1 ((l27 0).A) ((l27 0).n) ((l27 0).c) (((l27 0).n : Nat) : Int) (some ⟨(l23 0).n, 0, none⟩) 4 4 0 (jl [(0, .agg #[.int .i64 a0_0, .bool a0_1, .slice Aa0_2 na0_2 ca0_2]), (1, .pointer (some ⟨(l1 0).n, 0, none⟩)), (2, .slice none 0 0), (3, .int .i64 0), (4, .func (.func 16) #[] #[]), (7, undef), (8, .bool (decide (((((l2 0).n : Nat) : Int) : Int) > 25))), (9, .pointer (some ⟨(l1 0).n, 2, none⟩)), (10, .slice ((l2 0).A) ((l2 0).n) ((l2 0).c)), (11, .int .i64 (((l2 0).n : Nat) : Int)), (12, .bool (decide (((((l2 0).n : Nat) : Int) : Int) > 25))), (13, .bool ((l21 0).b)), (14, .pointer (some ⟨(l1 0).n, 0, none⟩)), (15, .int .i64 ((l3 0).i)), (16, .bool (((l3 0).i : Int) != 1)), (17, .bool true), (18, .pointer (some ⟨(l1 0).n, 0, none⟩)), (19, .int .i64 ((l4 0).i)), (20, .bool (((l4 0).i : Int) != 2)), (21, .bool (((l4 0).i : Int) != 2)), (22, .pointer (some ⟨(l1 0).n, 1, none⟩)), (23, .bool ((l11 0).b)), (24, .bool true), (25, .pointer (some ⟨(l1 0).n, 0, none⟩)), (26, .int .i64 ((l12 0).i)), (27, .bool (((l12 0).i : Int) != 1)), (28, .bool false), (29, .pointer (some ⟨(l1 0).n, 2, none⟩)), (30, .slice ((l13 0).A) ((l13 0).n) ((l13 0).c)), (31, .int .i64 (((l13 0).n : Nat) : Int)), (32, .bool (decide (((((l13 0).n : Nat) : Int) : Int) > 0))), (33, .bool (decide (((((l13 0).n : Nat) : Int) : Int) > 0))), (34, .bool (decide (((((l13 0).n : Nat) : Int) : Int) > 0))), (35, .pointer (some ⟨(l1 0).n, 2, none⟩)), (36, .slice ((l20 0).A) ((l20 0).n) ((l20 0).c)), (37, .func (.func 16) #[] #[]), (38, .bool ((l21 0).b)), (39, .pointer (some ⟨(l1 0).n, 0, none⟩)), (40, .int .i64 ((l22 0).i)), (41, .int .u8 (IntKind.wrap .u8 ((l22 0).i))), (42, .slice (some ⟨(l23 0).n, 0, none⟩) 4 4), (43, .pointer (some ⟨(l1 0).n, 1, none⟩)), (44, .bool ((l24 0).b)), (45, undef), (46, undef), (47, undef), (48, .pointer (some ⟨(l1 0).n, 2, none⟩)), (52, undef), (53, undef), (54, undef), (55, undef), (56, undef), (57, undef), (58, undef), (59, undef), (60, undef)])))))))))))))))
            (.rd (Instr.loadAt 22 (.pointer (some ⟨(l1 0).n, 2, none⟩))) (.one (.sc (.sl))) fun l28 =>
             (.call 18 [.slice ((l28 0).A) ((l28 0).n) ((l28 0).c), .func (.func 16) #[] #[]] (.one (.sc (.bool))) fun l29 => -- slices_ContainsFunc_RipEntry
              (.ite ((l29 0).b)
               (.done (.tuple #[.slice none 0 0, .int .i64 1]))
               (.rd (Instr.loadAt 3 (.pointer (some ⟨(l1 0).n, 0, none⟩))) (.one (.sc (.int .i64))) fun l30 =>
                (.sem (Instr.buildSlice 26 4 #[(0, .int .u8 (IntKind.wrap .u8 ((l30 0).i))), (1, .int .u8 2), (2, .int .u8 0), (3, .int .u8 0)]) (.one (.sc (.row 4))) fun l31 =>
                 (.rd (Instr.loadAt 4 (.pointer (some ⟨(l1 0).n, 1, none⟩))) (.one (.sc (.bool))) fun l32 =>
                  (.ite ((l32 0).b)
                   (.call 19 [] (.one (.sc (.sl))) fun l33 => -- rippkt_whole
                    (.nx (builtin .append #[26, 26] 26 #[false, false] #[.slice (some ⟨(l31 0).n, 0, none⟩) 4 4, .slice ((l33 0).A) ((l33 0).n) ((l33 0).c)]) (.one (.sc (.sl))) fun l34 =>
                     (.done (.tuple #[.slice ((l34 0).A) ((l34 0).n) ((l34 0).c), .int .i64 0]))))
                   (.rd (Instr.loadAt 22 (.pointer (some ⟨(l1 0).n, 2, none⟩))) (.one (.sc (.sl))) fun l35 =>
                    (.stop k_rippkt_Encode_1 (t_rippkt_Encode_1 ((l35 0).A) ((l35 0).n) ((l35 0).c) (((l35 0).n : Nat) : Int) (some ⟨(l31 0).n, 0, none⟩) 4 4 0 (jl [(0, .agg #[.int .i64 a0_0, .bool a0_1, .slice Aa0_2 na0_2 ca0_2]), (1, .pointer (some ⟨(l1 0).n, 0, none⟩)), (2, .slice none 0 0), (3, .int .i64 0), (4, .func (.func 16) #[] #[]), (7, undef), (8, .bool (decide (((((l2 0).n : Nat) : Int) : Int) > 25))), (9, .pointer (some ⟨(l1 0).n, 2, none⟩)), (10, .slice ((l2 0).A) ((l2 0).n) ((l2 0).c)), (11, .int .i64 (((l2 0).n : Nat) : Int)), (12, .bool (decide (((((l2 0).n : Nat) : Int) : Int) > 25))), (13, .bool ((l29 0).b)), (14, .pointer (some ⟨(l1 0).n, 0, none⟩)), (15, .int .i64 ((l3 0).i)), (16, .bool (((l3 0).i : Int) != 1)), (17, .bool true), (18, .pointer (some ⟨(l1 0).n, 0, none⟩)), (19, .int .i64 ((l4 0).i)), (20, .bool (((l4 0).i : Int) != 2)), (21, .bool (((l4 0).i : Int) != 2)), (22, .pointer (some ⟨(l1 0).n, 1, none⟩)), (23, .bool ((l11 0).b)), (24, .bool false), (25, undef), (26, undef), (27, undef), (28, undef), (29, undef), (30, undef), (31, undef), (32, undef), (33, undef), (34, .bool false), (35, .pointer (some ⟨(l1 0).n, 2, none⟩)), (36, .slice ((l28 0).A) ((l28 0).n) ((l28 0).c)), (37, .func (.func 16) #[] #[]), (38, .bool ((l29 0).b)), (39, .pointer (some ⟨(l1 0).n, 0, none⟩)), (40, .int .i64 ((l30 0).i)), (41, .int .u8 (IntKind.wrap .u8 ((l30 0).i))), (42, .slice (some ⟨(l31 0).n, 0, none⟩) 4 4), (43, .pointer (some ⟨(l1 0).n, 1, none⟩)), (44, .bool ((l32 0).b)), (45, undef), (46, undef), (47, undef), (48, .pointer (some ⟨(l1 0).n, 2, none⟩)), (52, undef), (53, undef), (54, undef), (55, undef), (56, undef), (57, undef), (58, undef), (59, undef), (60, undef)])))))))))))))))
        (.rd (Instr.loadAt 4 (.pointer (some ⟨(l1 0).n, 1, none⟩))) (.one (.sc (.bool))) fun l36 =>
         (.ite ((l36 0).b)
          (.rd (Instr.loadAt 3 (.pointer (some ⟨(l1 0).n, 0, none⟩))) (.one (.sc (.int .i64))) fun l37 =>
           (.ite (((l37 0).i : Int) != 1)
            (.done (.tuple #[.slice none 0 0, .int .i64 1]))
            (.rd (Instr.loadAt 22 (.pointer (some ⟨(l1 0).n, 2, none⟩))) (.one (.sc (.sl))) fun l38 =>
             (.ite (decide (((((l38 0).n : Nat) : Int) : Int) > 0))
              (.ite (decide (((((l38 0).n : Nat) : Int) : Int) > 0))
               (.done (.tuple #[.slice none 0 0, .int .i64 1]))
               (.rd (Instr.loadAt 3 (.pointer (some ⟨(l1 0).n, 0, none⟩))) (.one (.sc (.int .i64))) fun l39 =>
                (.sem (Instr.buildSlice 26 4 #[(0, .int .u8 (IntKind.wrap .u8 ((l39 0).i))), (1, .int .u8 2), (2, .int .u8 0), (3, .int .u8 0)]) (.one (.sc (.row 4))) fun l40 =>
                 (.rd (Instr.loadAt 4 (.pointer (some ⟨(l1 0).n, 1, none⟩))) (.one (.sc (.bool))) fun l41 =>
                  (.ite ((l41 0).b)
                   (.call 19 [] (.one (.sc (.sl))) fun l42 => -- rippkt_whole
                    (.nx (builtin .append #[26, 26] 26 #[false, false] #[.slice (some ⟨(l40 0).n, 0, none⟩) 4 4, .slice ((l42 0).A) ((l42 0).n) ((l42 0).c)]) (.one (.sc (.sl))) fun l43 =>
                     (.done (.tuple #[.slice ((l43 0).A) ((l43 0).n) ((l43 0).c), .int .i64 0]))))
                   (.rd (Instr.loadAt 22 (.pointer (some ⟨(l1 0).n, 2, none⟩))) (.one (.sc (.sl))) fun l44 =>
                    (.stop k_rippkt_Encode_1 (t_rippkt_Encode_1 ((l44 0).A) ((l44 0).n) ((l44 0).c) (((l44 0).n : Nat) : Int) (some ⟨(l40 0).n, 0, none⟩) 4 4 0 (jl [(0, .agg #[.int .i64 a0_0, .bool a0_1, .slice Aa0_2 na0_2 ca0_2]), (1, .pointer (some ⟨(l1 0).n, 0, none⟩)), (2, .slice none 0 0), (3, .int .i64 0), (4, .func (.func 16) #[] #[]), (7, undef), (8, .bool (decide (((((l2 0).n : Nat) : Int) : Int) > 25))), (9, .pointer (some ⟨(l1 0).n, 2, none⟩)), (10, .slice ((l2 0).A) ((l2 0).n) ((l2 0).c)), (11, .int .i64 (((l2 0).n : Nat) : Int)), (12, .bool (decide (((((l2 0).n : Nat) : Int) : Int) > 25))), (13, .bool (decide (((((l38 0).n : Nat) : Int) : Int) > 0))), (14, .pointer (some ⟨(l1 0).n, 0, none⟩)), (15, .int .i64 ((l3 0).i)), (16, .bool (((l3 0).i : Int) != 1)), (17, .bool false), (18, undef), (19, undef), (20, undef), (21, .bool false), (22, .pointer (some ⟨(l1 0).n, 1, none⟩)), (23, .bool ((l36 0).b)), (24, .bool true), (25, .pointer (some ⟨(l1 0).n, 0, none⟩)), (26, .int .i64 ((l37 0).i)), (27, .bool (((l37 0).i : Int) != 1)), (28, .bool false), (29, .pointer (some ⟨(l1 0).n, 2, none⟩)), (30, .slice ((l38 0).A) ((l38 0).n) ((l38 0).c)), (31, .int .i64 (((l38 0).n : Nat) : Int)), (32, .bool (decide (((((l38 0).n : Nat) : Int) : Int) > 0))), (33, .bool (decide (((((l38 0).n : Nat) : Int) : Int) > 0))), (34, .bool (decide (((((l38 0).n : Nat) : Int) : Int) > 0))), (35, undef), (36, undef), (37, undef), (38, undef), (39, .pointer (some ⟨(l1 0).n, 0, none⟩)), (40, .int .i64 ((l39 0).i)), (41, .int .u8 (IntKind.wrap .u8 ((l39 0).i))), (42, .slice (some ⟨(l40 0).n, 0, none⟩) 4 4), (43, .pointer (some ⟨(l1 0).n, 1, none⟩)), (44, .bool ((l41 0).b)), (45, undef), (46, undef), (47, undef), (48, .pointer (some ⟨(l1 0).n, 2, none⟩)), (52, undef), (53, undef), (54, undef), (55, undef), (56, undef), (57, undef), (58, undef), (59, undef), (60, undef)])))))))))
              (.rd (Instr.loadAt 22 (.pointer (some ⟨(l1 0).n, 2, none⟩))) (.one (.sc (.sl))) fun l45 =>
               (.call 18 [.slice ((l45 0).A) ((l45 0).n) ((l45 0).c), .func (.func 16) #[] #[]] (.one (.sc (.bool))) fun l46 => -- slices_ContainsFunc_RipEntry
                (.ite ((l46 0).b)
                 (.done (.tuple #[.slice none 0 0, .int .i64 1]))
                 (.rd (Instr.loadAt 3 (.pointer (some ⟨(l1 0).n, 0, none⟩))) (.one (.sc (.int .i64))) fun l47 =>
                  (.sem (Instr.buildSlice 26 4 #[(0, .int .u8 (IntKind.wrap .u8 ((l47 0).i))), (1, .int .u8 2), (2, .int .u8 0), (3, .int .u8 0)]) (.one (.sc (.row 4))) fun l48 =>
                   (.rd (Instr.loadAt 4 (.pointer (some ⟨(l1 0).n, 1, none⟩))) (.one (.sc (.bool))) fun l49 =>
                    (.ite ((l49 0).b)
                     (.call 19 [] (.one (.sc (.sl))) fun l50 => -- rippkt_whole
                      (.nx (builtin .append #[26, 26] 26 #[false, false] #[.slice (some ⟨(l48 0).n, 0, none⟩) 4 4, .slice ((l50 0).A) ((l50 0).n) ((l50 0).c)]) (.one (.sc (.sl))) fun l51 =>
                       (.done (.tuple #[.slice ((l51 0).A) ((l51 0).n) ((l51 0).c), .int .i64 0]))))
                     (.rd (Instr.loadAt 22 (.pointer (some ⟨(l1 0).n, 2, none⟩))) (.one (.sc (.sl))) fun l52 =>
                      (.stop k_rippkt_Encode_1 (t_rippkt_Encode_1 ((l52 0).A) ((l52 0).n) ((l52 0).c) (((l52 0).n : Nat) : Int) (some ⟨(l48 0).n, 0, none⟩) 4 4 0 (jl [(0, .agg #[.int .i64 a0_0, .bool a0_1, .slice Aa0_2 na0_2 ca0_2]), (1, .pointer (some ⟨(l1 0).n, 0, none⟩)), (2, .slice none 0 0), (3, .int .i64 0), (4, .func (.func 16) #[] #[]), (7, undef), (8, .bool (decide (((((l2 0).n : Nat) : Int) : Int) > 25))), (9, .pointer (some ⟨(l1 0).n, 2, none⟩)), (10, .slice ((l2 0).A) ((l2 0).n) ((l2 0).c)), (11, .int .i64 (((l2 0).n : Nat) : Int)), (12, .bool (decide (((((l2 0).n : Nat) : Int) : Int) > 25))), (13, .bool ((l46 0).b)), (14, .pointer (some ⟨(l1 0).n, 0, none⟩)), (15, .int .i64 ((l3 0).i)), (16, .bool (((l3 0).i : Int) != 1)), (17, .bool false), (18, undef), (19, undef), (20, undef), (21, .bool false), (22, .pointer (some ⟨(l1 0).n, 1, none⟩)), (23, .bool ((l36 0).b)), (24, .bool true), (25, .pointer (some ⟨(l1 0).n, 0, none⟩)), (26, .int .i64 ((l37 0).i)), (27, .bool (((l37 0).i : Int) != 1)), (28, .bool false), (29, .pointer (some ⟨(l1 0).n, 2, none⟩)), (30, .slice ((l38 0).A) ((l38 0).n) ((l38 0).c)), (31, .int .i64 (((l38 0).n : Nat) : Int)), (32, .bool (decide (((((l38 0).n : Nat) : Int) : Int) > 0))), (33, .bool (decide (((((l38 0).n : Nat) : Int) : Int) > 0))), (34, .bool (decide (((((l38 0).n : Nat) : Int) : Int) > 0))), (35, .pointer (some ⟨(l1 0).n, 2, none⟩)), (36, .slice ((l45 0).A) ((l45 0).n) ((l45 0).c)), (37, .func (.func 16) #[] #[]), (38, .bool ((l46 0).b)), (39, .pointer (some ⟨(l1 0).n, 0, none⟩)), (40, .int .i64 ((l47 0).i)), (41, .int .u8 (IntKind.wrap .u8 ((l47 0).i))), (42, .slice (some ⟨(l48 0).n, 0, none⟩) 4 4), (43, .pointer (some ⟨(l1 0).n, 1, none⟩)), (44, .bool ((l49 0).b)), (45, undef), (46, undef), (47, undef), (48, .pointer (some ⟨(l1 0).n, 2, none⟩)), (52, undef), (53, undef), (54, undef), (55, undef), (56, undef), (57, undef), (58, undef), (59, undef), (60, undef)])))))))))))))))
          (.rd (Instr.loadAt 22 (.pointer (some ⟨(l1 0).n, 2, none⟩))) (.one (.sc (.sl))) fun l53 =>
           (.call 18 [.slice ((l53 0).A) ((l53 0).n) ((l53 0).c), .func (.func 16) #[] #[]] (.one (.sc (.bool))) fun l54 => -- slices_ContainsFunc_RipEntry
            (.ite ((l54 0).b)
             (.done (.tuple #[.slice none 0 0, .int .i64 1]))
             (.rd (Instr.loadAt 3 (.pointer (some ⟨(l1 0).n, 0, none⟩))) (.one (.sc (.int .i64))) fun l55 =>
              (.sem (Instr.buildSlice 26 4 #[(0, .int .u8 (IntKind.wrap .u8 ((l55 0).i))), (1, .int .u8 2), (2, .int .u8 0), (3, .int .u8 0)]) (.one (.sc (.row 4))) fun l56 =>
               (.rd (Instr.loadAt 4 (.pointer (some ⟨(l1 0).n, 1, none⟩))) (.one (.sc (.bool))) fun l57 =>
                (.ite ((l57 0).b)
                 (.call 19 [] (.one (.sc (.sl))) fun l58 => -- rippkt_whole
                  (.nx (builtin .append #[26, 26] 26 #[false, false] #[.slice (some ⟨(l56 0).n, 0, none⟩) 4 4, .slice ((l58 0).A) ((l58 0).n) ((l58 0).c)]) (.one (.sc (.sl))) fun l59 =>
                   (.done (.tuple #[.slice ((l59 0).A) ((l59 0).n) ((l59 0).c), .int .i64 0]))))
                 (.rd (Instr.loadAt 22 (.pointer (some ⟨(l1 0).n, 2, none⟩))) (.one (.sc (.sl))) fun l60 =>
                  (.stop k_rippkt_Encode_1 (t_rippkt_Encode_1 ((l60 0).A) ((l60 0).n) ((l60 0).c) (((l60 0).n : Nat) : Int) (some ⟨(l56 0).n, 0, none⟩) 4 4 0 (jl [(0, .agg #[.int .i64 a0_0, .bool a0_1, .slice Aa0_2 na0_2 ca0_2]), (1, .pointer (some ⟨(l1 0).n, 0, none⟩)), (2, .slice none 0 0), (3, .int .i64 0), (4, .func (.func 16) #[] #[]), (7, undef), (8, .bool (decide (((((l2 0).n : Nat) : Int) : Int) > 25))), (9, .pointer (some ⟨(l1 0).n, 2, none⟩)), (10, .slice ((l2 0).A) ((l2 0).n) ((l2 0).c)), (11, .int .i64 (((l2 0).n : Nat) : Int)), (12, .bool (decide (((((l2 0).n : Nat) : Int) : Int) > 25))), (13, .bool ((l54 0).b)), (14, .pointer (some ⟨(l1 0).n, 0, none⟩)), (15, .int .i64 ((l3 0).i)), (16, .bool (((l3 0).i : Int) != 1)), (17, .bool false), (18, undef), (19, undef), (20, undef), (21, .bool false), (22, .pointer (some ⟨(l1 0).n, 1, none⟩)), (23, .bool ((l36 0).b)), (24, .bool false), (25, undef), (26, undef), (27, undef), (28, undef), (29, undef), (30, undef), (31, undef), (32, undef), (33, undef), (34, .bool false), (35, .pointer (some ⟨(l1 0).n, 2, none⟩)), (36, .slice ((l53 0).A) ((l53 0).n) ((l53 0).c)), (37, .func (.func 16) #[] #[]), (38, .bool ((l54 0).b)), (39, .pointer (some ⟨(l1 0).n, 0, none⟩)), (40, .int .i64 ((l55 0).i)), (41, .int .u8 (IntKind.wrap .u8 ((l55 0).i))), (42, .slice (some ⟨(l56 0).n, 0, none⟩) 4 4), (43, .pointer (some ⟨(l1 0).n, 1, none⟩)), (44, .bool ((l57 0).b)), (45, undef), (46, undef), (47, undef), (48, .pointer (some ⟨(l1 0).n, 2, none⟩)), (52, undef), (53, undef), (54, undef), (55, undef), (56, undef), (57, undef), (58, undef), (59, undef), (60, undef)])))))))))))))))))) h) : Fn Try.prog 11 #[.agg #[.int .i64 a0_0, .bool a0_1, .slice Aa0_2 na0_2 ca0_2]] I h Q :=
  Wp.fn (args := [.agg #[.int .i64 a0_0, .bool a0_1, .slice Aa0_2 na0_2 ca0_2]]) Try.func11 rfl (by kernel_rfl) (of_tree (cfg := g_rippkt_Encode) 1000 (by kernel_rfl) Try.func11 rfl Try.checked.mixed hh)
theorem ca_rippkt_Encode : callable Try.prog 11 := ⟨_, Try.func11, by kernel_rfl, by kernel_rfl⟩
set_option maxRecDepth 100000 in
theorem r_rippkt_Encode_1 (Ay49 : Option Addr) (ny49 : Nat) (cy49 : Nat) (y50 : Int) (A5 : Option Addr) (n5 : Nat) (c5 : Nat) (x51 : Int) (u : Nat → Value) {I : Ctx} {h : Mem} {Q : Value → Mem → Prop}
  (hh : holds Try.prog 11 I Q
   (.ite (decide ((x51 : Int) < y50))
    (.rd (Instr.indexAt 22 (.slice Ay49 ny49 cy49) (.int .i64 x51)) (.one (.sc (.padr))) fun l61 =>
     (.rd (Instr.loadAt 41 (.pointer (some ((l61 0).a)))) (.one (.agg [.int .u32, .int .i64, .int .u16, .int .u32, .int .i64])) fun l62 =>
      (.sem (Instr.alloc 41 true (.tuple #[])) shBlk fun l63 =>
       (.unit (Instr.storeAt 41 (.pointer (some ⟨(l63 0).n, 0, none⟩)) (.agg #[.int .u32 ((l62 0).i), .int .i64 ((l62 1).i), .int .u16 ((l62 2).i), .int .u32 ((l62 3).i), .int .i64 ((l62 4).i)]))
        (.rd (Instr.loadAt 41 (.pointer (some ⟨(l63 0).n, 0, none⟩))) (.one (.agg [.int .u32, .int .i64, .int .u16, .int .u32, .int .i64])) fun l64 =>
         (.call 20 [.agg #[.int .u32 ((l64 0).i), .int .i64 ((l64 1).i), .int .u16 ((l64 2).i), .int .u32 ((l64 3).i), .int .i64 ((l64 4).i)]] (.one (.sc (.sl))) fun l65 => -- rippkt_put
          (.nx (builtin .append #[26, 26] 26 #[false, false] #[.slice A5 n5 c5, .slice ((l65 0).A) ((l65 0).n) ((l65 0).c)]) (.one (.sc (.sl))) fun l66 =>
           (.stop k_rippkt_Encode_1 (t_rippkt_Encode_1 Ay49 ny49 cy49 y50 ((l66 0).A) ((l66 0).n) ((l66 0).c) (IntKind.wrap .i64 (x51 + 1)) (jl [(0, (u 0)), (1, (u 1)), (2, (u 2)), (3, (u 3)), (4, (u 4)), (7, .pointer (some ⟨(l63 0).n, 0, none⟩)), (8, (u 8)), (9, (u 9)), (10, (u 10)), (11, (u 11)), (12, (u 12)), (13, (u 13)), (14, (u 14)), (15, (u 15)), (16, (u 16)), (17, (u 17)), (18, (u 18)), (19, (u 19)), (20, (u 20)), (21, (u 21)), (22, (u 22)), (23, (u 23)), (24, (u 24)), (25, (u 25)), (26, (u 26)), (27, (u 27)), (28, (u 28)), (29, (u 29)), (30, (u 30)), (31, (u 31)), (32, (u 32)), (33, (u 33)), (34, (u 34)), (35, (u 35)), (36, (u 36)), (37, (u 37)), (38, (u 38)), (39, (u 39)), (40, (u 40)), (41, (u 41)), (42, (u 42)), (43, (u 43)), (44, (u 44)), (45, (u 45)), (46, (u 46)), (47, (u 47)), (48, (u 48)), (52, .bool (decide ((x51 : Int) < y50))), (53, .pointer (some ((l61 0).a))), (54, .agg #[.int .u32 ((l62 0).i), .int .i64 ((l62 1).i), .int .u16 ((l62 2).i), .int .u32 ((l62 3).i), .int .i64 ((l62 4).i)]), (55, .slice A5 n5 c5), (56, .agg #[.int .u32 ((l64 0).i), .int .i64 ((l64 1).i), .int .u16 ((l64 2).i), .int .u32 ((l64 3).i), .int .i64 ((l64 4).i)]), (57, .slice ((l65 0).A) ((l65 0).n) ((l65 0).c)), (58, .slice ((l66 0).A) ((l66 0).n) ((l66 0).c)), (59, .int .i64 (IntKind.wrap .i64 (x51 + 1))), (60, (u 60))]))))))))))
    (.done (.tuple #[.slice A5 n5 c5, .int .i64 0]))) h) : Wp Try.prog 11 k_rippkt_Encode_1 (t_rippkt_Encode_1 Ay49 ny49 cy49 y50 A5 n5 c5 x51 u) I h Q :=
  of_tree (cfg := g_rippkt_Encode) 1000 (by kernel_rfl) Try.func11 rfl Try.checked.mixed hh
/-! ### octroiref05_Encode: function 12 of Go -/
abbrev F_octroiref05_Encode : FuncId := 12
noncomputable def c_octroiref05_Encode : Code := (Try.f12.body).getD .skip
noncomputable def g_octroiref05_Encode : Cfg := { sh := shs, fsh := fshs, results := [.tmp 2, .tmp 3], hint := fun _ _ => none, ord := fun _ => none, pre := fun _ => [], un := fun _ _ _ => false }
noncomputable def k_octroiref05_Encode_1 : List Item := [.code (bd (bd (sr (sl (sr (sr (sr (sr (sr c_octroiref05_Encode))))))))), .inLoop (bd (bd (sr (sl (sr (sr (sr (sr (sr c_octroiref05_Encode))))))))), .inBlock 0, .code (sr (sr (sr (sr (sr (sr c_octroiref05_Encode))))))]
noncomputable def t_octroiref05_Encode_1 (y1 : Nat) (A4 : Option Addr) (n4 : Nat) (c4 : Nat) (x5 : Int) (u : Nat → Value) : List Value := [(u 0), .pointer (some ⟨y1, 0, none⟩), (u 2), (u 3), .slice A4 n4 c4, .int .i64 x5, (u 6), (u 7), (u 8), (u 9), (u 10), (u 11), (u 12), (u 13), (u 14), (u 15), (u 16), (u 17), (u 18), (u 19), (u 20), (u 21), (u 22), (u 23), (u 24), (u 25), (u 26), (u 27), (u 28), (u 29), (u 30), (u 31), (u 32), (u 33), (u 34), (u 35), (u 36), (u 37), (u 38), (u 39), (u 40), (u 41), (u 42), (u 43), (u 44), (u 45), (u 46), (u 47), (u 48), (u 49), (u 50), (u 51), (u 52), (u 53), (u 54), (u 55), (u 56), (u 57), (u 58), (u 59), (u 60), (u 61), (u 62), (u 63), (u 64), (u 65), (u 66), (u 67), (u 68), (u 69), (u 70), (u 71), (u 72), (u 73), (u 74), (u 75), (u 76), (u 77), (u 78), (u 79), (u 80), (u 81), (u 82), (u 83), (u 84), (u 85), (u 86), (u 87), (u 88), (u 89), (u 90), (u 91), (u 92), (u 93)]
set_option maxRecDepth 100000 in
theorem r_octroiref05_Encode (a0_0 : Int) (a0_1 : Bool) (Aa0_2 : Option Addr) (na0_2 : Nat) (ca0_2 : Nat) {I : Ctx} {h : Mem} {Q : Value → Mem → Prop}
  (hh : holds Try.prog 12 I (cl_ Q)
   (.sem (Instr.box 24 (.agg #[.int .i64 a0_0, .bool a0_1, .slice Aa0_2 na0_2 ca0_2])) shBlk fun l1 =>
    (.rd (Instr.loadAt 22 (.pointer (some ⟨(l1 0).n, 2, none⟩))) (.one (.sc (.sl))) fun l2 =>
     (.ite (decide (((((l2 0).n : Nat) : Int) : Int) > 25))
      (.done (.tuple #[.slice none 0 0, .int .i64 9]))
      (.rd (Instr.loadAt 3 (.pointer (some ⟨(l1 0).n, 0, none⟩))) (.one (.sc (.int .i64))) fun l3 =>
       (.ite (((l3 0).i : Int) != 1)
        (.rd (Instr.loadAt 3 (.pointer (some ⟨(l1 0).n, 0, none⟩))) (.one (.sc (.int .i64))) fun l4 =>
         (.ite (((l4 0).i : Int) != 2)
          (.done (.tuple #[.slice none 0 0, .int .i64 1]))
          (.rd (Instr.loadAt 4 (.pointer (some ⟨(l1 0).n, 1, none⟩))) (.one (.sc (.bool))) fun l5 =>
           (.ite ((l5 0).b)
            (.rd (Instr.loadAt 3 (.pointer (some ⟨(l1 0).n, 0, none⟩))) (.one (.sc (.int .i64))) fun l6 =>
             (.ite (((l6 0).i : Int) != 1)
              (.done (.tuple #[.slice none 0 0, .int .i64 1]))
              (.rd (Instr.loadAt 22 (.pointer (some ⟨(l1 0).n, 2, none⟩))) (.one (.sc (.sl))) fun l7 =>
               (.ite (decide (((((l7 0).n : Nat) : Int) : Int) > 0))
                (.done (.tuple #[.slice none 0 0, .int .i64 1]))
                (.rd (Instr.loadAt 3 (.pointer (some ⟨(l1 0).n, 0, none⟩))) (.one (.sc (.int .i64))) fun l8 =>
                 (.sem (Instr.buildSlice 26 4 #[(0, .int .u8 (IntKind.wrap .u8 ((l8 0).i))), (1, .int .u8 2), (2, .int .u8 0), (3, .int .u8 0)]) (.one (.sc (.row 4))) fun l9 =>
                  (.rd (Instr.loadAt 4 (.pointer (some ⟨(l1 0).n, 1, none⟩))) (.one (.sc (.bool))) fun l10 =>
                   (.ite ((l10 0).b)
                    (.call 21 [] (.one (.sc (.sl))) fun l11 => -- octroiref05_whole
                     (.nx (builtin .append #[26, 26] 26 #[false, false] #[.slice (some ⟨(l9 0).n, 0, none⟩) 4 4, .slice ((l11 0).A) ((l11 0).n) ((l11 0).c)]) (.one (.sc (.sl))) fun l12 =>
                      (.done (.tuple #[.slice ((l12 0).A) ((l12 0).n) ((l12 0).c), .int .i64 0]))))
                    (.stop k_octroiref05_Encode_1 (t_octroiref05_Encode_1 ((l1 0).n) (some ⟨(l9 0).n, 0, none⟩) 4 4 0 (jl [(0, .agg #[.int .i64 a0_0, .bool a0_1, .slice Aa0_2 na0_2 ca0_2]), (2, .slice none 0 0), (3, .int .i64 0), (6, undef), (7, undef), (8, .pointer (some ⟨(l1 0).n, 2, none⟩)), (9, .slice ((l2 0).A) ((l2 0).n) ((l2 0).c)), (10, .int .i64 (((l2 0).n : Nat) : Int)), (11, .bool (decide (((((l2 0).n : Nat) : Int) : Int) > 25))), (12, .pointer (some ⟨(l1 0).n, 0, none⟩)), (13, .int .i64 ((l3 0).i)), (14, .bool (((l3 0).i : Int) != 1)), (15, .bool true), (16, .pointer (some ⟨(l1 0).n, 0, none⟩)), (17, .int .i64 ((l4 0).i)), (18, .bool (((l4 0).i : Int) != 2)), (19, .bool (((l4 0).i : Int) != 2)), (20, .bool false), (21, .pointer (some ⟨(l1 0).n, 1, none⟩)), (22, .bool ((l5 0).b)), (23, .bool true), (24, .pointer (some ⟨(l1 0).n, 0, none⟩)), (25, .int .i64 ((l6 0).i)), (26, .bool (((l6 0).i : Int) != 1)), (27, .bool false), (28, .pointer (some ⟨(l1 0).n, 2, none⟩)), (29, .slice ((l7 0).A) ((l7 0).n) ((l7 0).c)), (30, .int .i64 (((l7 0).n : Nat) : Int)), (31, .bool (decide (((((l7 0).n : Nat) : Int) : Int) > 0))), (32, .bool (decide (((((l7 0).n : Nat) : Int) : Int) > 0))), (33, .bool (decide (((((l7 0).n : Nat) : Int) : Int) > 0))), (34, .bool (decide (((((l7 0).n : Nat) : Int) : Int) > 0))), (35, .pointer (some ⟨(l1 0).n, 0, none⟩)), (36, .int .i64 ((l8 0).i)), (37, .int .u8 (IntKind.wrap .u8 ((l8 0).i))), (38, .slice (some ⟨(l9 0).n, 0, none⟩) 4 4), (39, .pointer (some ⟨(l1 0).n, 1, none⟩)), (40, .bool ((l10 0).b)), (41, undef), (42, undef), (43, undef), (44, undef), (45, undef), (46, undef), (47, undef), (48, undef), (49, undef), (50, undef), (51, undef), (52, undef), (53, undef), (54, undef), (55, undef), (56, undef), (57, undef), (58, undef), (59, undef), (60, undef), (61, undef), (62, undef), (63, undef), (64, undef), (65, undef), (66, undef), (67, undef), (68, undef), (69, undef), (70, undef), (71, undef), (72, undef), (73, undef), (74, undef), (75, undef), (76, undef), (77, undef), (78, undef), (79, undef), (80, undef), (81, undef), (82, undef), (83, undef), (84, undef), (85, undef), (86, undef), (87, undef), (88, undef), (89, undef), (90, undef), (91, undef), (92, undef), (93, undef)])))))))))))
            (.rd (Instr.loadAt 3 (.pointer (some ⟨(l1 0).n, 0, none⟩))) (.one (.sc (.int .i64))) fun l13 =>
             (.sem (Instr.buildSlice 26 4 #[(0, .int .u8 (IntKind.wrap .u8 ((l13 0).i))), (1, .int .u8 2), (2, .int .u8 0), (3, .int .u8 0)]) (.one (.sc (.row 4))) fun l14 =>
              (.rd (Instr.loadAt 4 (.pointer (some ⟨(l1 0).n, 1, none⟩))) (.one (.sc (.bool))) fun l15 =>
               (.ite ((l15 0).b)
                (.call 21 [] (.one (.sc (.sl))) fun l16 => -- octroiref05_whole
                 (.nx (builtin .append #[26, 26] 26 #[false, false] #[.slice (some ⟨(l14 0).n, 0, none⟩) 4 4, .slice ((l16 0).A) ((l16 0).n) ((l16 0).c)]) (.one (.sc (.sl))) fun l17 =>
                  (.done (.tuple #[.slice ((l17 0).A) ((l17 0).n) ((l17 0).c), .int .i64 0]))))
                (.stop k_octroiref05_Encode_1 (t_octroiref05_Encode_1 ((l1 0).n) (some ⟨(l14 0).n, 0, none⟩) 4 4 0 (jl [(0, .agg #[.int .i64 a0_0, .bool a0_1, .slice Aa0_2 na0_2 ca0_2]), (2, .slice none 0 0), (3, .int .i64 0), (6, undef), (7, undef), (8, .pointer (some ⟨(l1 0).n, 2, none⟩)), (9, .slice ((l2 0).A) ((l2 0).n) ((l2 0).c)), (10, .int .i64 (((l2 0).n : Nat) : Int)), (11, .bool (decide (((((l2 0).n : Nat) : Int) : Int) > 25))), (12, .pointer (some ⟨(l1 0).n, 0, none⟩)), (13, .int .i64 ((l3 0).i)), (14, .bool (((l3 0).i : Int) != 1)), (15, .bool true), (16, .pointer (some ⟨(l1 0).n, 0, none⟩)), (17, .int .i64 ((l4 0).i)), (18, .bool (((l4 0).i : Int) != 2)), (19, .bool (((l4 0).i : Int) != 2)), (20, .bool false), (21, .pointer (some ⟨(l1 0).n, 1, none⟩)), (22, .bool ((l5 0).b)), (23, .bool false), (24, undef), (25, undef), (26, undef), (27, undef), (28, undef), (29, undef), (30, undef), (31, undef), (32, undef), (33, .bool false), (34, .bool false), (35, .pointer (some ⟨(l1 0).n, 0, none⟩)), (36, .int .i64 ((l13 0).i)), (37, .int .u8 (IntKind.wrap .u8 ((l13 0).i))), (38, .slice (some ⟨(l14 0).n, 0, none⟩) 4 4), (39, .pointer (some ⟨(l1 0).n, 1, none⟩)), (40, .bool ((l15 0).b)), (41, undef), (42, undef), (43, undef), (44, undef), (45, undef), (46, undef), (47, undef), (48, undef), (49, undef), (50, undef), (51, undef), (52, undef), (53, undef), (54, undef), (55, undef), (56, undef), (57, undef), (58, undef), (59, undef), (60, undef), (61, undef), (62, undef), (63, undef), (64, undef), (65, undef), (66, undef), (67, undef), (68, undef), (69, undef), (70, undef), (71, undef), (72, undef), (73, undef), (74, undef), (75, undef), (76, undef), (77, undef), (78, undef), (79, undef), (80, undef), (81, undef), (82, undef), (83, undef), (84, undef), (85, undef), (86, undef), (87, undef), (88, undef), (89, undef), (90, undef), (91, undef), (92, undef), (93, undef)])))))))))))
        (.rd (Instr.loadAt 4 (.pointer (some ⟨(l1 0).n, 1, none⟩))) (.one (.sc (.bool))) fun l18 =>
         (.ite ((l18 0).b)
          (.rd (Instr.loadAt 3 (.pointer (some ⟨(l1 0).n, 0, none⟩))) (.one (.sc (.int .i64))) fun l19 =>
           (.ite (((l19 0).i : Int) != 1)
            (.done (.tuple #[.slice none 0 0, .int .i64 1]))
            (.rd (Instr.loadAt 22 (.pointer (some ⟨(l1 0).n, 2, none⟩))) (.one (.sc (.sl))) fun l20 =>
             (.ite (decide (((((l20 0).n : Nat) : Int) : Int) > 0))
              (.done (.tuple #[.slice none 0 0, .int .i64 1]))
              (.rd (Instr.loadAt 3 (.pointer (some ⟨(l1 0).n, 0, none⟩))) (.one (.sc (.int .i64))) fun l21 =>
               (.sem (Instr.buildSlice 26 4 #[(0, .int .u8 (IntKind.wrap .u8 ((l21 0).i))), (1, .int .u8 2), (2, .int .u8 0), (3, .int .u8 0)]) (.one (.sc (.row 4))) fun l22 =>
                (.rd (Instr.loadAt 4 (.pointer (some ⟨(l1 0).n, 1, none⟩))) (.one (.sc (.bool))) fun l23 =>
                 (.ite ((l23 0).b)
                  (.call 21 [] (.one (.sc (.sl))) fun l24 => -- octroiref05_whole
                   (.nx (builtin .append #[26, 26] 26 #[false, false] #[.slice (some ⟨(l22 0).n, 0, none⟩) 4 4, .slice ((l24 0).A) ((l24 0).n) ((l24 0).c)]) (.one (.sc (.sl))) fun l25 =>
                    (.done (.tuple #[.slice ((l25 0).A) ((l25 0).n) ((l25 0).c), .int .i64 0]))))
                  (.stop k_octroiref05_Encode_1 (t_octroiref05_Encode_1 ((l1 0).n) (some ⟨(l22 0).n, 0, none⟩) 4 4 0 (jl [(0, .agg #[.int .i64 a0_0, .bool a0_1, .slice Aa0_2 na0_2 ca0_2]), (2, .slice none 0 0), (3, .int .i64 0), (6, undef), (7, undef), (8, .pointer (some ⟨(l1 0).n, 2, none⟩)), (9, .slice ((l2 0).A) ((l2 0).n) ((l2 0).c)), (10, .int .i64 (((l2 0).n : Nat) : Int)), (11, .bool (decide (((((l2 0).n : Nat) : Int) : Int) > 25))), (12, .pointer (some ⟨(l1 0).n, 0, none⟩)), (13, .int .i64 ((l3 0).i)), (14, .bool (((l3 0).i : Int) != 1)), (15, .bool false), (16, undef), (17, undef), (18, undef), (19, .bool false), (20, .bool false), (21, .pointer (some ⟨(l1 0).n, 1, none⟩)), (22, .bool ((l18 0).b)), (23, .bool true), (24, .pointer (some ⟨(l1 0).n, 0, none⟩)), (25, .int .i64 ((l19 0).i)), (26, .bool (((l19 0).i : Int) != 1)), (27, .bool false), (28, .pointer (some ⟨(l1 0).n, 2, none⟩)), (29, .slice ((l20 0).A) ((l20 0).n) ((l20 0).c)), (30, .int .i64 (((l20 0).n : Nat) : Int)), (31, .bool (decide (((((l20 0).n : Nat) : Int) : Int) > 0))), (32, .bool (decide (((((l20 0).n : Nat) : Int) : Int) > 0))), (33, .bool (decide (((((l20 0).n : Nat) : Int) : Int) > 0))), (34, .bool (decide (((((l20 0).n : Nat) : Int) : Int) > 0))), (35, .pointer (some ⟨(l1 0).n, 0, none⟩)), (36, .int .i64 ((l21 0).i)), (37, .int .u8 (IntKind.wrap .u8 ((l21 0).i))), (38, .slice (some ⟨(l22 0).n, 0, none⟩) 4 4), (39, .pointer (some ⟨(l1 0).n, 1, none⟩)), (40, .bool ((l23 0).b)), (41, undef), (42, undef), (43, undef), (44, undef), (45, undef), (46, undef), (47, undef), (48, undef), (49, undef), (50, undef), (51, undef), (52, undef), (53, undef), (54, undef), (55, undef), (56, undef), (57, undef), (58, undef), (59, undef), (60, undef), (61, undef), (62, undef), (63, undef), (64, undef), (65, undef), (66, undef), (67, undef), (68, undef), (69, undef), (70, undef), (71, undef), (72, undef), (73, undef), (74, undef), (75, undef), (76, undef), (77, undef), (78, undef), (79, undef), (80, undef), (81, undef), (82, undef), (83, undef), (84, undef), (85, undef), (86, undef), (87, undef), (88, undef), (89, undef), (90, undef), (91, undef), (92, undef), (93, undef)])))))))))))
          (.rd (Instr.loadAt 3 (.pointer (some ⟨(l1 0).n, 0, none⟩))) (.one (.sc (.int .i64))) fun l26 =>
           (.sem (Instr.buildSlice 26 4 #[(0, .int .u8 (IntKind.wrap .u8 ((l26 0).i))), (1, .int .u8 2), (2, .int .u8 0), (3, .int .u8 0)]) (.one (.sc (.row 4))) fun l27 =>
            (.rd (Instr.loadAt 4 (.pointer (some ⟨(l1 0).n, 1, none⟩))) (.one (.sc (.bool))) fun l28 =>
             (.ite ((l28 0).b)
              (.call 21 [] (.one (.sc (.sl))) fun l29 => -- octroiref05_whole
               (.nx (builtin .append #[26, 26] 26 #[false, false] #[.slice (some ⟨(l27 0).n, 0, none⟩) 4 4, .slice ((l29 0).A) ((l29 0).n) ((l29 0).c)]) (.one (.sc (.sl))) fun l30 =>
                (.done (.tuple #[.slice ((l30 0).A) ((l30 0).n) ((l30 0).c), .int .i64 0]))))
              (.stop k_octroiref05_Encode_1 (t_octroiref05_Encode_1 ((l1 0).n) (some ⟨(l27 0).n, 0, none⟩) 4 4 0 (jl [(0, .agg #[.int .i64 a0_0, .bool a0_1, .slice Aa0_2 na0_2 ca0_2]), (2, .slice none 0 0), (3, .int .i64 0), (6, undef), (7, undef), (8, .pointer (some ⟨(l1 0).n, 2, none⟩)), (9, .slice ((l2 0).A) ((l2 0).n) ((l2 0).c)), (10, .int .i64 (((l2 0).n : Nat) : Int)), (11, .bool (decide (((((l2 0).n : Nat) : Int) : Int) > 25))), (12, .pointer (some ⟨(l1 0).n, 0, none⟩)), (13, .int .i64 ((l3 0).i)), (14, .bool (((l3 0).i : Int) != 1)), (15, .bool false), (16, undef), (17, undef), (18, undef), (19, .bool false), (20, .bool false), (21, .pointer (some ⟨(l1 0).n, 1, none⟩)), (22, .bool ((l18 0).b)), (23, .bool false), (24, undef), (25, undef), (26, undef), (27, undef), (28, undef), (29, undef), (30, undef), (31, undef), (32, undef), (33, .bool false), (34, .bool false), (35, .pointer (some ⟨(l1 0).n, 0, none⟩)), (36, .int .i64 ((l26 0).i)), (37, .int .u8 (IntKind.wrap .u8 ((l26 0).i))), (38, .slice (some ⟨(l27 0).n, 0, none⟩) 4 4), (39, .pointer (some ⟨(l1 0).n, 1, none⟩)), (40, .bool ((l28 0).b)), (41, undef), (42, undef), (43, undef), (44, undef), (45, undef), (46, undef), (47, undef), (48, undef), (49, undef), (50, undef), (51, undef), (52, undef), (53, undef), (54, undef), (55, undef), (56, undef), (57, undef), (58, undef), (59, undef), (60, undef), (61, undef), (62, undef), (63, undef), (64, undef), (65, undef), (66, undef), (67, undef), (68, undef), (69, undef), (70, undef), (71, undef), (72, undef), (73, undef), (74, undef), (75, undef), (76, undef), (77, undef), (78, undef), (79, undef), (80, undef), (81, undef), (82, undef), (83, undef), (84, undef), (85, undef), (86, undef), (87, undef), (88, undef), (89, undef), (90, undef), (91, undef), (92, undef), (93, undef)])))))))))))))) h) : Fn Try.prog 12 #[.agg #[.int .i64 a0_0, .bool a0_1, .slice Aa0_2 na0_2 ca0_2]] I h Q :=
  Wp.fn (args := [.agg #[.int .i64 a0_0, .bool a0_1, .slice Aa0_2 na0_2 ca0_2]]) Try.func12 rfl (by kernel_rfl) (of_tree (cfg := g_octroiref05_Encode) 1000 (by kernel_rfl) Try.func12 rfl Try.checked.mixed hh)
theorem ca_octroiref05_Encode : callable Try.prog 12 := ⟨_, Try.func12, by kernel_rfl, by kernel_rfl⟩
set_option maxRecDepth 100000 in
theorem r_octroiref05_Encode_1 (y1 : Nat) (A4 : Option Addr) (n4 : Nat) (c4 : Nat) (x5 : Int) (u : Nat → Value) {I : Ctx} {h : Mem} {Q : Value → Mem → Prop}
  (hh : holds Try.prog 12 I Q
   (.rd (Instr.loadAt 22 (.pointer (some ⟨y1, 2, none⟩))) (.one (.sc (.sl))) fun l31 =>
    (.ite (decide ((x5 : Int) < (((l31 0).n : Nat) : Int)))
     (.rd (Instr.loadAt 22 (.pointer (some ⟨y1, 2, none⟩))) (.one (.sc (.sl))) fun l32 =>
      (.rd (Instr.indexAt 22 (.slice ((l32 0).A) ((l32 0).n) ((l32 0).c)) (.int .i64 x5)) (.one (.sc (.padr))) fun l33 =>
       (.rd (Instr.loadAt 41 (.pointer (some ((l33 0).a)))) (.one (.agg [.int .u32, .int .i64, .int .u16, .int .u32, .int .i64])) fun l34 =>
        (.sem (Instr.alloc 41 true (.tuple #[])) shBlk fun l35 =>
         (.unit (Instr.storeAt 41 (.pointer (some ⟨(l35 0).n, 0, none⟩)) (.agg #[.int .u32 ((l34 0).i), .int .i64 ((l34 1).i), .int .u16 ((l34 2).i), .int .u32 ((l34 3).i), .int .i64 ((l34 4).i)]))
          (.rd (Instr.loadAt 41 (.pointer (some ⟨(l35 0).n, 0, none⟩))) (.one (.agg [.int .u32, .int .i64, .int .u16, .int .u32, .int .i64])) fun l36 =>
           (.call 22 [.agg #[.int .u32 ((l36 0).i), .int .i64 ((l36 1).i), .int .u16 ((l36 2).i), .int .u32 ((l36 3).i), .int .i64 ((l36 4).i)]] (.one (.sc (.bool))) fun l37 => -- octroiref05_entry
            (.ite (!((l37 0).b))
             (.done (.tuple #[.slice none 0 0, .int .i64 1]))
             (.sem (Instr.buildSlice 26 2 #[(0, .int .u8 0), (1, .int .u8 2)]) (.one (.sc (.row 2))) fun l38 =>
              (.nx (builtin .append #[26, 26] 26 #[false, false] #[.slice A4 n4 c4, .slice (some ⟨(l38 0).n, 0, none⟩) 2 2]) (.one (.sc (.sl))) fun l39 =>
               (.rd (Instr.loadAt 39 (.pointer (some ⟨(l35 0).n, 2, none⟩))) (.one (.sc (.int .u16))) fun l40 =>
                (.call 23 [.int .u32 (IntKind.wrap .u32 ((l40 0).i)), .int .i64 2] (.one (.sc (.sl))) fun l41 => -- octroiref01_Put
                 (.nx (builtin .append #[26, 26] 26 #[false, false] #[.slice ((l39 0).A) ((l39 0).n) ((l39 0).c), .slice ((l41 0).A) ((l41 0).n) ((l41 0).c)]) (.one (.sc (.sl))) fun l42 =>
                  (.rd (Instr.loadAt 36 (.pointer (some ⟨(l35 0).n, 0, none⟩))) (.one (.sc (.int .u32))) fun l43 =>
                   (.call 23 [.int .u32 ((l43 0).i), .int .i64 4] (.one (.sc (.sl))) fun l44 => -- octroiref01_Put
                    (.nx (builtin .append #[26, 26] 26 #[false, false] #[.slice ((l42 0).A) ((l42 0).n) ((l42 0).c), .slice ((l44 0).A) ((l44 0).n) ((l44 0).c)]) (.one (.sc (.sl))) fun l45 =>
                     (.rd (Instr.loadAt 3 (.pointer (some ⟨(l35 0).n, 1, none⟩))) (.one (.sc (.int .i64))) fun l46 =>
                      (.call 24 [.int .i64 ((l46 0).i)] (.one (.sc (.int .u32))) fun l47 => -- octroiref02_Mask
                       (.call 23 [.int .u32 ((l47 0).i), .int .i64 4] (.one (.sc (.sl))) fun l48 => -- octroiref01_Put
                        (.nx (builtin .append #[26, 26] 26 #[false, false] #[.slice ((l45 0).A) ((l45 0).n) ((l45 0).c), .slice ((l48 0).A) ((l48 0).n) ((l48 0).c)]) (.one (.sc (.sl))) fun l49 =>
                         (.rd (Instr.loadAt 36 (.pointer (some ⟨(l35 0).n, 3, none⟩))) (.one (.sc (.int .u32))) fun l50 =>
                          (.call 23 [.int .u32 ((l50 0).i), .int .i64 4] (.one (.sc (.sl))) fun l51 => -- octroiref01_Put
                           (.nx (builtin .append #[26, 26] 26 #[false, false] #[.slice ((l49 0).A) ((l49 0).n) ((l49 0).c), .slice ((l51 0).A) ((l51 0).n) ((l51 0).c)]) (.one (.sc (.sl))) fun l52 =>
                            (.rd (Instr.loadAt 3 (.pointer (some ⟨(l35 0).n, 4, none⟩))) (.one (.sc (.int .i64))) fun l53 =>
                             (.call 23 [.int .u32 (IntKind.wrap .u32 ((l53 0).i)), .int .i64 4] (.one (.sc (.sl))) fun l54 => -- octroiref01_Put
                              (.nx (builtin .append #[26, 26] 26 #[false, false] #[.slice ((l52 0).A) ((l52 0).n) ((l52 0).c), .slice ((l54 0).A) ((l54 0).n) ((l54 0).c)]) (.one (.sc (.sl))) fun l55 =>
                               (.stop k_octroiref05_Encode_1 (t_octroiref05_Encode_1 y1 ((l55 0).A) ((l55 0).n) ((l55 0).c) (IntKind.wrap .i64 (x5 + 1)) (jl [(0, (u 0)), (2, (u 2)), (3, (u 3)), (6, .pointer (some ⟨(l35 0).n, 0, none⟩)), (7, .bool ((l37 0).b)), (8, (u 8)), (9, (u 9)), (10, (u 10)), (11, (u 11)), (12, (u 12)), (13, (u 13)), (14, (u 14)), (15, (u 15)), (16, (u 16)), (17, (u 17)), (18, (u 18)), (19, (u 19)), (20, (u 20)), (21, (u 21)), (22, (u 22)), (23, (u 23)), (24, (u 24)), (25, (u 25)), (26, (u 26)), (27, (u 27)), (28, (u 28)), (29, (u 29)), (30, (u 30)), (31, (u 31)), (32, (u 32)), (33, (u 33)), (34, (u 34)), (35, (u 35)), (36, (u 36)), (37, (u 37)), (38, (u 38)), (39, (u 39)), (40, (u 40)), (41, (u 41)), (42, (u 42)), (43, (u 43)), (44, .int .i64 x5), (45, .pointer (some ⟨y1, 2, none⟩)), (46, .slice ((l31 0).A) ((l31 0).n) ((l31 0).c)), (47, .int .i64 (((l31 0).n : Nat) : Int)), (48, .bool (decide ((x5 : Int) < (((l31 0).n : Nat) : Int)))), (49, .int .i64 x5), (50, .int .i64 (IntKind.wrap .i64 (x5 + 1))), (51, .pointer (some ⟨y1, 2, none⟩)), (52, .slice ((l32 0).A) ((l32 0).n) ((l32 0).c)), (53, .int .i64 x5), (54, .pointer (some ((l33 0).a))), (55, .agg #[.int .u32 ((l34 0).i), .int .i64 ((l34 1).i), .int .u16 ((l34 2).i), .int .u32 ((l34 3).i), .int .i64 ((l34 4).i)]), (56, .agg #[.int .u32 ((l36 0).i), .int .i64 ((l36 1).i), .int .u16 ((l36 2).i), .int .u32 ((l36 3).i), .int .i64 ((l36 4).i)]), (57, .bool ((l37 0).b)), (58, .bool ((l37 0).b)), (59, .bool (!((l37 0).b))), (60, .slice A4 n4 c4), (61, .slice (some ⟨(l38 0).n, 0, none⟩) 2 2), (62, .slice ((l39 0).A) ((l39 0).n) ((l39 0).c)), (63, .slice ((l39 0).A) ((l39 0).n) ((l39 0).c)), (64, .pointer (some ⟨(l35 0).n, 2, none⟩)), (65, .int .u16 ((l40 0).i)), (66, .int .u32 (IntKind.wrap .u32 ((l40 0).i))), (67, .slice ((l41 0).A) ((l41 0).n) ((l41 0).c)), (68, .slice ((l42 0).A) ((l42 0).n) ((l42 0).c)), (69, .slice ((l42 0).A) ((l42 0).n) ((l42 0).c)), (70, .pointer (some ⟨(l35 0).n, 0, none⟩)), (71, .pointer (some ⟨(l35 0).n, 0, none⟩)), (72, .int .u32 ((l43 0).i)), (73, .slice ((l44 0).A) ((l44 0).n) ((l44 0).c)), (74, .slice ((l45 0).A) ((l45 0).n) ((l45 0).c)), (75, .slice ((l45 0).A) ((l45 0).n) ((l45 0).c)), (76, .pointer (some ⟨(l35 0).n, 0, none⟩)), (77, .pointer (some ⟨(l35 0).n, 1, none⟩)), (78, .int .i64 ((l46 0).i)), (79, .int .u32 ((l47 0).i)), (80, .slice ((l48 0).A) ((l48 0).n) ((l48 0).c)), (81, .slice ((l49 0).A) ((l49 0).n) ((l49 0).c)), (82, .slice ((l49 0).A) ((l49 0).n) ((l49 0).c)), (83, .pointer (some ⟨(l35 0).n, 3, none⟩)), (84, .int .u32 ((l50 0).i)), (85, .slice ((l51 0).A) ((l51 0).n) ((l51 0).c)), (86, .slice ((l52 0).A) ((l52 0).n) ((l52 0).c)), (87, .slice ((l52 0).A) ((l52 0).n) ((l52 0).c)), (88, .pointer (some ⟨(l35 0).n, 4, none⟩)), (89, .int .i64 ((l53 0).i)), (90, .int .u32 (IntKind.wrap .u32 ((l53 0).i))), (91, .slice ((l54 0).A) ((l54 0).n) ((l54 0).c)), (92, .slice ((l55 0).A) ((l55 0).n) ((l55 0).c)), (93, (u 93))])))))))))))))))))))))))))))))
     (.done (.tuple #[.slice A4 n4 c4, .int .i64 0])))) h) : Wp Try.prog 12 k_octroiref05_Encode_1 (t_octroiref05_Encode_1 y1 A4 n4 c4 x5 u) I h Q :=
  of_tree (cfg := g_octroiref05_Encode) 1000 (by kernel_rfl) Try.func12 rfl Try.checked.mixed hh
/-! ### rippkt_Decode: function 13 of Go -/
abbrev F_rippkt_Decode : FuncId := 13
noncomputable def c_rippkt_Decode : Code := (Try.f13.body).getD .skip
noncomputable def g_rippkt_Decode : Cfg := { sh := shs, fsh := fshs, results := [.cell 2 24, .tmp 3], hint := fun _ _ => none, ord := fun _ => none, pre := fun _ => [], un := fun _ _ _ => false }
set_option maxRecDepth 100000 in
theorem r_rippkt_Decode (Aa0 : Option Addr) (na0 : Nat) (ca0 : Nat) {I : Ctx} {h : Mem} {Q : Value → Mem → Prop}
  (hh : holds Try.prog 13 I (cl_ Q)
   (.sem (Instr.alloc 24 true (.tuple #[])) shBlk fun l1 =>
    (.ite (decide ((((na0 : Nat) : Int) : Int) < 4))
     (.unit (Instr.storeAt 24 (.pointer (some ⟨(l1 0).n, 0, none⟩)) (.agg #[.int .i64 0, .bool false, .slice none 0 0]))
      (.rd (loadVar 24 ⟨(l1 0).n, 0, none⟩) (.one (.agg [.int .i64, .bool, .sl])) fun l2 =>
       (.done (.tuple #[.agg #[.int .i64 ((l2 0).i), .bool ((l2 1).b), .slice ((l2 2).A) ((l2 2).n) ((l2 2).c)], .int .i64 2]))))
     (.ite ((Int.tmod (IntKind.wrap .i64 (((na0 : Nat) : Int) - 4)) 20 : Int) != 0)
      (.unit (Instr.storeAt 24 (.pointer (some ⟨(l1 0).n, 0, none⟩)) (.agg #[.int .i64 0, .bool false, .slice none 0 0]))
       (.rd (loadVar 24 ⟨(l1 0).n, 0, none⟩) (.one (.agg [.int .i64, .bool, .sl])) fun l3 =>
        (.done (.tuple #[.agg #[.int .i64 ((l3 0).i), .bool ((l3 1).b), .slice ((l3 2).A) ((l3 2).n) ((l3 2).c)], .int .i64 2]))))
      (.rd (Instr.indexAt 26 (.slice Aa0 na0 ca0) (.int .i64 0)) (.one (.sc (.padr))) fun l4 =>
       (.rd (Instr.loadAt 5 (.pointer (some ((l4 0).a)))) (.one (.sc (.int .u8))) fun l5 =>
        (.ite (((l5 0).i : Int) != 1)
         (.rd (Instr.indexAt 26 (.slice Aa0 na0 ca0) (.int .i64 0)) (.one (.sc (.padr))) fun l6 =>
          (.rd (Instr.loadAt 5 (.pointer (some ((l6 0).a)))) (.one (.sc (.int .u8))) fun l7 =>
           (.ite (((l7 0).i : Int) != 2)
            (.unit (Instr.storeAt 24 (.pointer (some ⟨(l1 0).n, 0, none⟩)) (.agg #[.int .i64 0, .bool false, .slice none 0 0]))
             (.rd (loadVar 24 ⟨(l1 0).n, 0, none⟩) (.one (.agg [.int .i64, .bool, .sl])) fun l8 =>
              (.done (.tuple #[.agg #[.int .i64 ((l8 0).i), .bool ((l8 1).b), .slice ((l8 2).A) ((l8 2).n) ((l8 2).c)], .int .i64 2]))))
            (.rd (Instr.sliceAt 26 (.slice Aa0 na0 ca0) (some (.int .i64 1)) (some (.int .i64 4)) none) (.one (.sc (.sl))) fun l9 =>
             (.sem (Instr.buildSlice 26 3 #[(0, .int .u8 2), (1, .int .u8 0), (2, .int .u8 0)]) (.one (.sc (.row 3))) fun l10 =>
              (.call 25 [.slice ((l9 0).A) ((l9 0).n) ((l9 0).c), .slice (some ⟨(l10 0).n, 0, none⟩) 3 3] (.one (.sc (.bool))) fun l11 => -- bytes_Equal
               (.ite (!((l11 0).b))
                (.unit (Instr.storeAt 24 (.pointer (some ⟨(l1 0).n, 0, none⟩)) (.agg #[.int .i64 0, .bool false, .slice none 0 0]))
                 (.rd (loadVar 24 ⟨(l1 0).n, 0, none⟩) (.one (.agg [.int .i64, .bool, .sl])) fun l12 =>
                  (.done (.tuple #[.agg #[.int .i64 ((l12 0).i), .bool ((l12 1).b), .slice ((l12 2).A) ((l12 2).n) ((l12 2).c)], .int .i64 2]))))
                (.rd (Instr.indexAt 26 (.slice Aa0 na0 ca0) (.int .i64 0)) (.one (.sc (.padr))) fun l13 =>
                 (.rd (Instr.loadAt 5 (.pointer (some ((l13 0).a)))) (.one (.sc (.int .u8))) fun l14 =>
                  (.sem (Instr.alloc 24 true (.tuple #[])) shBlk fun l15 =>
                   (.unit (Instr.storeAt 24 (.pointer (some ⟨(l15 0).n, 0, none⟩)) (.agg #[.int .i64 (IntKind.wrap .i64 ((l14 0).i)), .bool false, .slice none 0 0]))
                    (.rd (Instr.sliceAt 26 (.slice Aa0 na0 ca0) (some (.int .i64 4)) none none) (.one (.sc (.sl))) fun l16 =>
                     (.ite (decide (((((l16 0).n : Nat) : Int) : Int) > 500))
                      (.unit (Instr.storeAt 24 (.pointer (some ⟨(l1 0).n, 0, none⟩)) (.agg #[.int .i64 0, .bool false, .slice none 0 0]))
                       (.rd (loadVar 24 ⟨(l1 0).n, 0, none⟩) (.one (.agg [.int .i64, .bool, .sl])) fun l17 =>
                        (.done (.tuple #[.agg #[.int .i64 ((l17 0).i), .bool ((l17 1).b), .slice ((l17 2).A) ((l17 2).n) ((l17 2).c)], .int .i64 9]))))
                      (.rd (Instr.loadAt 3 (.pointer (some ⟨(l15 0).n, 0, none⟩))) (.one (.sc (.int .i64))) fun l18 =>
                       (.ite (((l18 0).i : Int) == 1)
                        (.call 19 [] (.one (.sc (.sl))) fun l19 => -- rippkt_whole
                         (.call 25 [.slice ((l16 0).A) ((l16 0).n) ((l16 0).c), .slice ((l19 0).A) ((l19 0).n) ((l19 0).c)] (.one (.sc (.bool))) fun l20 => -- bytes_Equal
                          (.ite ((l20 0).b)
                           (.unit (Instr.storeAt 4 (.pointer (some ⟨(l15 0).n, 1, none⟩)) (.bool true))
                            (.rd (Instr.loadAt 24 (.pointer (some ⟨(l15 0).n, 0, none⟩))) (.one (.agg [.int .i64, .bool, .sl])) fun l21 =>
                             (.unit (Instr.storeAt 24 (.pointer (some ⟨(l1 0).n, 0, none⟩)) (.agg #[.int .i64 ((l21 0).i), .bool ((l21 1).b), .slice ((l21 2).A) ((l21 2).n) ((l21 2).c)]))
                              (.rd (loadVar 24 ⟨(l1 0).n, 0, none⟩) (.one (.agg [.int .i64, .bool, .sl])) fun l22 =>
                               (.done (.tuple #[.agg #[.int .i64 ((l22 0).i), .bool ((l22 1).b), .slice ((l22 2).A) ((l22 2).n) ((l22 2).c)], .int .i64 0]))))))
                           (.rd (Instr.loadAt 24 (.pointer (some ⟨(l15 0).n, 0, none⟩))) (.one (.agg [.int .i64, .bool, .sl])) fun l23 =>
                            (.call 26 [.agg #[.int .i64 ((l23 0).i), .bool ((l23 1).b), .slice ((l23 2).A) ((l23 2).n) ((l23 2).c)], .slice ((l16 0).A) ((l16 0).n) ((l16 0).c)] (.tup [.agg [.int .i64, .bool, .sl], (.sc (.int .i64))]) fun l24 => -- rippkt_entries
                             (.unit (Instr.storeAt 24 (.pointer (some ⟨(l1 0).n, 0, none⟩)) (.agg #[.int .i64 ((l24 0).i), .bool ((l24 1).b), .slice ((l24 2).A) ((l24 2).n) ((l24 2).c)]))
                              (.rd (loadVar 24 ⟨(l1 0).n, 0, none⟩) (.one (.agg [.int .i64, .bool, .sl])) fun l25 =>
                               (.done (.tuple #[.agg #[.int .i64 ((l25 0).i), .bool ((l25 1).b), .slice ((l25 2).A) ((l25 2).n) ((l25 2).c)], .int .i64 ((l24 3).i)])))))))))
                        (.rd (Instr.loadAt 24 (.pointer (some ⟨(l15 0).n, 0, none⟩))) (.one (.agg [.int .i64, .bool, .sl])) fun l26 =>
                         (.call 26 [.agg #[.int .i64 ((l26 0).i), .bool ((l26 1).b), .slice ((l26 2).A) ((l26 2).n) ((l26 2).c)], .slice ((l16 0).A) ((l16 0).n) ((l16 0).c)] (.tup [.agg [.int .i64, .bool, .sl], (.sc (.int .i64))]) fun l27 => -- rippkt_entries
                          (.unit (Instr.storeAt 24 (.pointer (some ⟨(l1 0).n, 0, none⟩)) (.agg #[.int .i64 ((l27 0).i), .bool ((l27 1).b), .slice ((l27 2).A) ((l27 2).n) ((l27 2).c)]))
                           (.rd (loadVar 24 ⟨(l1 0).n, 0, none⟩) (.one (.agg [.int .i64, .bool, .sl])) fun l28 =>
                            (.done (.tuple #[.agg #[.int .i64 ((l28 0).i), .bool ((l28 1).b), .slice ((l28 2).A) ((l28 2).n) ((l28 2).c)], .int .i64 ((l27 3).i)])))))))))))))))))))))
         (.rd (Instr.sliceAt 26 (.slice Aa0 na0 ca0) (some (.int .i64 1)) (some (.int .i64 4)) none) (.one (.sc (.sl))) fun l29 =>
          (.sem (Instr.buildSlice 26 3 #[(0, .int .u8 2), (1, .int .u8 0), (2, .int .u8 0)]) (.one (.sc (.row 3))) fun l30 =>
           (.call 25 [.slice ((l29 0).A) ((l29 0).n) ((l29 0).c), .slice (some ⟨(l30 0).n, 0, none⟩) 3 3] (.one (.sc (.bool))) fun l31 => -- bytes_Equal
            (.ite (!((l31 0).b))
             (.unit (Instr.storeAt 24 (.pointer (some ⟨(l1 0).n, 0, none⟩)) (.agg #[.int .i64 0, .bool false, .slice none 0 0]))
              (.rd (loadVar 24 ⟨(l1 0).n, 0, none⟩) (.one (.agg [.int .i64, .bool, .sl])) fun l32 =>
               (.done (.tuple #[.agg #[.int .i64 ((l32 0).i), .bool ((l32 1).b), .slice ((l32 2).A) ((l32 2).n) ((l32 2).c)], .int .i64 2]))))
             (.rd (Instr.indexAt 26 (.slice Aa0 na0 ca0) (.int .i64 0)) (.one (.sc (.padr))) fun l33 =>
              (.rd (Instr.loadAt 5 (.pointer (some ((l33 0).a)))) (.one (.sc (.int .u8))) fun l34 =>
               (.sem (Instr.alloc 24 true (.tuple #[])) shBlk fun l35 =>
                (.unit (Instr.storeAt 24 (.pointer (some ⟨(l35 0).n, 0, none⟩)) (.agg #[.int .i64 (IntKind.wrap .i64 ((l34 0).i)), .bool false, .slice none 0 0]))
                 (.rd (Instr.sliceAt 26 (.slice Aa0 na0 ca0) (some (.int .i64 4)) none none) (.one (.sc (.sl))) fun l36 =>
                  (.ite (decide (((((l36 0).n : Nat) : Int) : Int) > 500))
                   (.unit (Instr.storeAt 24 (.pointer (some ⟨(l1 0).n, 0, none⟩)) (.agg #[.int .i64 0, .bool false, .slice none 0 0]))
                    (.rd (loadVar 24 ⟨(l1 0).n, 0, none⟩) (.one (.agg [.int .i64, .bool, .sl])) fun l37 =>
                     (.done (.tuple #[.agg #[.int .i64 ((l37 0).i), .bool ((l37 1).b), .slice ((l37 2).A) ((l37 2).n) ((l37 2).c)], .int .i64 9]))))
                   (.rd (Instr.loadAt 3 (.pointer (some ⟨(l35 0).n, 0, none⟩))) (.one (.sc (.int .i64))) fun l38 =>
                    (.ite (((l38 0).i : Int) == 1)
                     (.call 19 [] (.one (.sc (.sl))) fun l39 => -- rippkt_whole
                      (.call 25 [.slice ((l36 0).A) ((l36 0).n) ((l36 0).c), .slice ((l39 0).A) ((l39 0).n) ((l39 0).c)] (.one (.sc (.bool))) fun l40 => -- bytes_Equal
                       (.ite ((l40 0).b)
                        (.unit (Instr.storeAt 4 (.pointer (some ⟨(l35 0).n, 1, none⟩)) (.bool true))
                         (.rd (Instr.loadAt 24 (.pointer (some ⟨(l35 0).n, 0, none⟩))) (.one (.agg [.int .i64, .bool, .sl])) fun l41 =>
                          (.unit (Instr.storeAt 24 (.pointer (some ⟨(l1 0).n, 0, none⟩)) (.agg #[.int .i64 ((l41 0).i), .bool ((l41 1).b), .slice ((l41 2).A) ((l41 2).n) ((l41 2).c)]))
                           (.rd (loadVar 24 ⟨(l1 0).n, 0, none⟩) (.one (.agg [.int .i64, .bool, .sl])) fun l42 =>
                            (.done (.tuple #[.agg #[.int .i64 ((l42 0).i), .bool ((l42 1).b), .slice ((l42 2).A) ((l42 2).n) ((l42 2).c)], .int .i64 0]))))))
                        (.rd (Instr.loadAt 24 (.pointer (some ⟨(l35 0).n, 0, none⟩))) (.one (.agg [.int .i64, .bool, .sl])) fun l43 =>
                         (.call 26 [.agg #[.int .i64 ((l43 0).i), .bool ((l43 1).b), .slice ((l43 2).A) ((l43 2).n) ((l43 2).c)], .slice ((l36 0).A) ((l36 0).n) ((l36 0).c)] (.tup [.agg [.int .i64, .bool, .sl], (.sc (.int .i64))]) fun l44 => -- rippkt_entries
                          (.unit (Instr.storeAt 24 (.pointer (some ⟨(l1 0).n, 0, none⟩)) (.agg #[.int .i64 ((l44 0).i), .bool ((l44 1).b), .slice ((l44 2).A) ((l44 2).n) ((l44 2).c)]))
                           (.rd (loadVar 24 ⟨(l1 0).n, 0, none⟩) (.one (.agg [.int .i64, .bool, .sl])) fun l45 =>
                            (.done (.tuple #[.agg #[.int .i64 ((l45 0).i), .bool ((l45 1).b), .slice ((l45 2).A) ((l45 2).n) ((l45 2).c)], .int .i64 ((l44 3).i)])))))))))
                     (.rd (Instr.loadAt 24 (.pointer (some ⟨(l35 0).n, 0, none⟩))) (.one (.agg [.int .i64, .bool, .sl])) fun l46 =>
                      (.call 26 [.agg #[.int .i64 ((l46 0).i), .bool ((l46 1).b), .slice ((l46 2).A) ((l46 2).n) ((l46 2).c)], .slice ((l36 0).A) ((l36 0).n) ((l36 0).c)] (.tup [.agg [.int .i64, .bool, .sl], (.sc (.int .i64))]) fun l47 => -- rippkt_entries
                       (.unit (Instr.storeAt 24 (.pointer (some ⟨(l1 0).n, 0, none⟩)) (.agg #[.int .i64 ((l47 0).i), .bool ((l47 1).b), .slice ((l47 2).A) ((l47 2).n) ((l47 2).c)]))
                        (.rd (loadVar 24 ⟨(l1 0).n, 0, none⟩) (.one (.agg [.int .i64, .bool, .sl])) fun l48 =>
                         (.done (.tuple #[.agg #[.int .i64 ((l48 0).i), .bool ((l48 1).b), .slice ((l48 2).A) ((l48 2).n) ((l48 2).c)], .int .i64 ((l47 3).i)])))))))))))))))))))))))) h) : Fn Try.prog 13 #[.slice Aa0 na0 ca0] I h Q :=
  Wp.fn (args := [.slice Aa0 na0 ca0]) Try.func13 rfl (by kernel_rfl) (of_tree (cfg := g_rippkt_Decode) 1000 (by kernel_rfl) Try.func13 rfl Try.checked.mixed hh)
theorem ca_rippkt_Decode : callable Try.prog 13 := ⟨_, Try.func13, by kernel_rfl, by kernel_rfl⟩
/-! ### octroiref05_Decode: function 14 of Go -/
abbrev F_octroiref05_Decode : FuncId := 14
noncomputable def c_octroiref05_Decode : Code := (Try.f14.body).getD .skip
def p_octroiref05_Decode : Nat → List (List Nat) := fun r => match r with | 8 => [[], [0], [0, 1], [0, 1, 2], [0, 1, 2, 3], [0, 1, 2, 3, 4], [0, 1, 2, 3, 4, 5], [0, 1, 2, 3, 4, 5, 6], [0, 1, 2, 3, 4, 5, 6, 7], [0, 1, 2, 3, 4, 5, 6, 7, 8], [0, 1, 2, 3, 4, 5, 6, 7, 8, 9], [0, 1, 2, 3, 4, 5, 6, 7, 8, 9, 10], [0, 1, 2, 3, 4, 5, 6, 7, 8], [0, 1, 2, 3, 4, 5, 6, 7, 8, 12], [0, 1, 2, 3, 4, 5, 6, 7, 8, 9, 10, 11, 12, 13], [0, 1, 2, 3, 4, 5, 6, 7, 8, 9, 10, 11, 12, 13, 14]] | _ => []
noncomputable def g_octroiref05_Decode : Cfg := { sh := shs, fsh := fshs, results := [.cell 2 24, .tmp 3], hint := fun r i => match r, i with | 8, 11 => some (true, .one (.sc (.str))) | 8, 13 => some (true, .one (.sc (.str))) | _, _ => none, ord := fun r => match r with | 8 => some [0, 1, 2, 3, 4, 5, 6, 7, 8, 9, 10, 11, 12, 13, 14, 15] | _ => none, pre := p_octroiref05_Decode, un := unOf p_octroiref05_Decode }
noncomputable def k_octroiref05_Decode_1 : List Item := [.code (bd (bd (sr (sl (sr (sr (sr (sr (sr (sr (sr c_octroiref05_Decode))))))))))), .inLoop (bd (bd (sr (sl (sr (sr (sr (sr (sr (sr (sr c_octroiref05_Decode))))))))))), .inBlock 0, .code (sr (sr (sr (sr (sr (sr (sr (sr c_octroiref05_Decode))))))))]
noncomputable def t_octroiref05_Decode_1 (Aa0 : Option Addr) (na0 : Nat) (ca0 : Nat) (y2 : Nat) (y4 : Nat) (y6 : Nat) (x7 : Int) (u : Nat → Value) : List Value := [.slice Aa0 na0 ca0, undef, .pointer (some ⟨y2, 0, none⟩), (u 3), .pointer (some ⟨y4, 0, none⟩), .int .i64 (IntKind.wrap .i64 (Int.tdiv (IntKind.wrap .i64 (((na0 : Nat) : Int) - 4)) 20)), .pointer (some ⟨y6, 0, none⟩), .int .i64 x7, (u 8), (u 9), (u 10), (u 11), (u 12), (u 13), (u 14), (u 15), (u 16), (u 17), (u 18), (u 19), (u 20), (u 21), (u 22), (u 23), (u 24), (u 25), (u 26), (u 27), (u 28), (u 29), (u 30), (u 31), (u 32), (u 33), (u 34), (u 35), (u 36), (u 37), (u 38), (u 39), (u 40), (u 41), (u 42), (u 43), (u 44), (u 45), (u 46), (u 47), (u 48), (u 49), (u 50), (u 51), (u 52), (u 53), (u 54), (u 55), (u 56), (u 57), (u 58), (u 59), (u 60), (u 61), (u 62), (u 63), (u 64), (u 65), (u 66), (u 67), (u 68), (u 69), (u 70), (u 71), (u 72), (u 73), (u 74), (u 75), (u 76), (u 77), (u 78), (u 79), (u 80), (u 81), (u 82), (u 83), (u 84), (u 85), (u 86), (u 87), (u 88), (u 89), (u 90), (u 91), (u 92), (u 93), (u 94), (u 95), (u 96), (u 97), (u 98), (u 99), (u 100), (u 101), (u 102), (u 103), (u 104), (u 105), (u 106), (u 107), (u 108)]
set_option maxRecDepth 100000 in
theorem r_octroiref05_Decode (Aa0 : Option Addr) (na0 : Nat) (ca0 : Nat) {I : Ctx} {h : Mem} {Q : Value → Mem → Prop}
  (hh : holds Try.prog 14 I (cl_ Q)
   (.sem (Instr.alloc 24 true (.tuple #[])) shBlk fun l1 =>
    (.sem (Instr.alloc 24 true (.tuple #[])) shBlk fun l2 =>
     (.unit (Instr.storeAt 24 (.pointer (some ⟨(l2 0).n, 0, none⟩)) (.agg #[.int .i64 0, .bool false, .slice none 0 0]))
      (.ite (decide ((((na0 : Nat) : Int) : Int) < 4))
       (.rd (Instr.loadAt 24 (.pointer (some ⟨(l2 0).n, 0, none⟩))) (.one (.agg [.int .i64, .bool, .sl])) fun l3 =>
        (.unit (Instr.storeAt 24 (.pointer (some ⟨(l1 0).n, 0, none⟩)) (.agg #[.int .i64 ((l3 0).i), .bool ((l3 1).b), .slice ((l3 2).A) ((l3 2).n) ((l3 2).c)]))
         (.rd (loadVar 24 ⟨(l1 0).n, 0, none⟩) (.one (.agg [.int .i64, .bool, .sl])) fun l4 =>
          (.done (.tuple #[.agg #[.int .i64 ((l4 0).i), .bool ((l4 1).b), .slice ((l4 2).A) ((l4 2).n) ((l4 2).c)], .int .i64 2])))))
       (.ite ((Int.tmod (IntKind.wrap .i64 (((na0 : Nat) : Int) - 4)) 20 : Int) != 0)
        (.rd (Instr.loadAt 24 (.pointer (some ⟨(l2 0).n, 0, none⟩))) (.one (.agg [.int .i64, .bool, .sl])) fun l5 =>
         (.unit (Instr.storeAt 24 (.pointer (some ⟨(l1 0).n, 0, none⟩)) (.agg #[.int .i64 ((l5 0).i), .bool ((l5 1).b), .slice ((l5 2).A) ((l5 2).n) ((l5 2).c)]))
          (.rd (loadVar 24 ⟨(l1 0).n, 0, none⟩) (.one (.agg [.int .i64, .bool, .sl])) fun l6 =>
           (.done (.tuple #[.agg #[.int .i64 ((l6 0).i), .bool ((l6 1).b), .slice ((l6 2).A) ((l6 2).n) ((l6 2).c)], .int .i64 2])))))
        (.rd (Instr.indexAt 26 (.slice Aa0 na0 ca0) (.int .i64 0)) (.one (.sc (.padr))) fun l7 =>
         (.rd (Instr.loadAt 5 (.pointer (some ((l7 0).a)))) (.one (.sc (.int .u8))) fun l8 =>
          (.ite (((l8 0).i : Int) != 1)
           (.rd (Instr.indexAt 26 (.slice Aa0 na0 ca0) (.int .i64 0)) (.one (.sc (.padr))) fun l9 =>
            (.rd (Instr.loadAt 5 (.pointer (some ((l9 0).a)))) (.one (.sc (.int .u8))) fun l10 =>
             (.ite (((l10 0).i : Int) != 2)
              (.rd (Instr.loadAt 24 (.pointer (some ⟨(l2 0).n, 0, none⟩))) (.one (.agg [.int .i64, .bool, .sl])) fun l11 =>
               (.unit (Instr.storeAt 24 (.pointer (some ⟨(l1 0).n, 0, none⟩)) (.agg #[.int .i64 ((l11 0).i), .bool ((l11 1).b), .slice ((l11 2).A) ((l11 2).n) ((l11 2).c)]))
                (.rd (loadVar 24 ⟨(l1 0).n, 0, none⟩) (.one (.agg [.int .i64, .bool, .sl])) fun l12 =>
                 (.done (.tuple #[.agg #[.int .i64 ((l12 0).i), .bool ((l12 1).b), .slice ((l12 2).A) ((l12 2).n) ((l12 2).c)], .int .i64 2])))))
              (.rd (Instr.indexAt 26 (.slice Aa0 na0 ca0) (.int .i64 1)) (.one (.sc (.padr))) fun l13 =>
               (.rd (Instr.loadAt 5 (.pointer (some ((l13 0).a)))) (.one (.sc (.int .u8))) fun l14 =>
                (.ite (((l14 0).i : Int) != 2)
                 (.rd (Instr.loadAt 24 (.pointer (some ⟨(l2 0).n, 0, none⟩))) (.one (.agg [.int .i64, .bool, .sl])) fun l15 =>
                  (.unit (Instr.storeAt 24 (.pointer (some ⟨(l1 0).n, 0, none⟩)) (.agg #[.int .i64 ((l15 0).i), .bool ((l15 1).b), .slice ((l15 2).A) ((l15 2).n) ((l15 2).c)]))
                   (.rd (loadVar 24 ⟨(l1 0).n, 0, none⟩) (.one (.agg [.int .i64, .bool, .sl])) fun l16 =>
                    (.done (.tuple #[.agg #[.int .i64 ((l16 0).i), .bool ((l16 1).b), .slice ((l16 2).A) ((l16 2).n) ((l16 2).c)], .int .i64 2])))))
                 (.rd (Instr.indexAt 26 (.slice Aa0 na0 ca0) (.int .i64 2)) (.one (.sc (.padr))) fun l17 =>
                  (.rd (Instr.loadAt 5 (.pointer (some ((l17 0).a)))) (.one (.sc (.int .u8))) fun l18 =>
                   (.ite (((l18 0).i : Int) != 0)
                    (.rd (Instr.loadAt 24 (.pointer (some ⟨(l2 0).n, 0, none⟩))) (.one (.agg [.int .i64, .bool, .sl])) fun l19 =>
                     (.unit (Instr.storeAt 24 (.pointer (some ⟨(l1 0).n, 0, none⟩)) (.agg #[.int .i64 ((l19 0).i), .bool ((l19 1).b), .slice ((l19 2).A) ((l19 2).n) ((l19 2).c)]))
                      (.rd (loadVar 24 ⟨(l1 0).n, 0, none⟩) (.one (.agg [.int .i64, .bool, .sl])) fun l20 =>
                       (.done (.tuple #[.agg #[.int .i64 ((l20 0).i), .bool ((l20 1).b), .slice ((l20 2).A) ((l20 2).n) ((l20 2).c)], .int .i64 2])))))
                    (.rd (Instr.indexAt 26 (.slice Aa0 na0 ca0) (.int .i64 3)) (.one (.sc (.padr))) fun l21 =>
                     (.rd (Instr.loadAt 5 (.pointer (some ((l21 0).a)))) (.one (.sc (.int .u8))) fun l22 =>
                      (.ite (((l22 0).i : Int) != 0)
                       (.rd (Instr.loadAt 24 (.pointer (some ⟨(l2 0).n, 0, none⟩))) (.one (.agg [.int .i64, .bool, .sl])) fun l23 =>
                        (.unit (Instr.storeAt 24 (.pointer (some ⟨(l1 0).n, 0, none⟩)) (.agg #[.int .i64 ((l23 0).i), .bool ((l23 1).b), .slice ((l23 2).A) ((l23 2).n) ((l23 2).c)]))
                         (.rd (loadVar 24 ⟨(l1 0).n, 0, none⟩) (.one (.agg [.int .i64, .bool, .sl])) fun l24 =>
                          (.done (.tuple #[.agg #[.int .i64 ((l24 0).i), .bool ((l24 1).b), .slice ((l24 2).A) ((l24 2).n) ((l24 2).c)], .int .i64 2])))))
                       (.ite (decide ((IntKind.wrap .i64 (Int.tdiv (IntKind.wrap .i64 (((na0 : Nat) : Int) - 4)) 20) : Int) > 25))
                        (.rd (Instr.loadAt 24 (.pointer (some ⟨(l2 0).n, 0, none⟩))) (.one (.agg [.int .i64, .bool, .sl])) fun l25 =>
                         (.unit (Instr.storeAt 24 (.pointer (some ⟨(l1 0).n, 0, none⟩)) (.agg #[.int .i64 ((l25 0).i), .bool ((l25 1).b), .slice ((l25 2).A) ((l25 2).n) ((l25 2).c)]))
                          (.rd (loadVar 24 ⟨(l1 0).n, 0, none⟩) (.one (.agg [.int .i64, .bool, .sl])) fun l26 =>
                           (.done (.tuple #[.agg #[.int .i64 ((l26 0).i), .bool ((l26 1).b), .slice ((l26 2).A) ((l26 2).n) ((l26 2).c)], .int .i64 9])))))
                        (.rd (Instr.indexAt 26 (.slice Aa0 na0 ca0) (.int .i64 0)) (.one (.sc (.padr))) fun l27 =>
                         (.rd (Instr.loadAt 5 (.pointer (some ((l27 0).a)))) (.one (.sc (.int .u8))) fun l28 =>
                          (.sem (Instr.alloc 24 true (.tuple #[])) shBlk fun l29 =>
                           (.unit (Instr.storeAt 24 (.pointer (some ⟨(l29 0).n, 0, none⟩)) (.agg #[.int .i64 (IntKind.wrap .i64 ((l28 0).i)), .bool false, .slice none 0 0]))
                            (.rd (Instr.indexAt 26 (.slice Aa0 na0 ca0) (.int .i64 0)) (.one (.sc (.padr))) fun l30 =>
                             (.rd (Instr.loadAt 5 (.pointer (some ((l30 0).a)))) (.one (.sc (.int .u8))) fun l31 =>
                              (.ite (((l31 0).i : Int) == 1)
                               (.ite ((IntKind.wrap .i64 (Int.tdiv (IntKind.wrap .i64 (((na0 : Nat) : Int) - 4)) 20) : Int) == 1)
                                (.rd (Instr.sliceAt 26 (.slice Aa0 na0 ca0) (some (.int .i64 4)) none none) (.one (.sc (.sl))) fun l32 =>
                                 (.rdn (convN 26 9 (.slice ((l32 0).A) ((l32 0).n) ((l32 0).c))) (.one (.sc (.str))) fun l33 =>
                                  (.call 21 [] (.one (.sc (.sl))) fun l34 => -- octroiref05_whole
                                   (.pin (convN 26 9 (.slice ((l32 0).A) ((l32 0).n) ((l32 0).c))) (.string ((l33 0).s))
                                    (.pin (vN (Instr.sliceAt 26 (.slice Aa0 na0 ca0) (some (.int .i64 4)) none none)) (.slice ((l32 0).A) ((l32 0).n) ((l32 0).c))
                                     (.rdn (convN 26 9 (.slice ((l34 0).A) ((l34 0).n) ((l34 0).c))) (.one (.sc (.str))) fun l35 =>
                                      (.ite (((l33 0).s).toList == ((l35 0).s).toList)
                                       (.unit (Instr.storeAt 4 (.pointer (some ⟨(l29 0).n, 1, none⟩)) (.bool true))
                                        (.rd (Instr.loadAt 24 (.pointer (some ⟨(l29 0).n, 0, none⟩))) (.one (.agg [.int .i64, .bool, .sl])) fun l36 =>
                                         (.unit (Instr.storeAt 24 (.pointer (some ⟨(l1 0).n, 0, none⟩)) (.agg #[.int .i64 ((l36 0).i), .bool ((l36 1).b), .slice ((l36 2).A) ((l36 2).n) ((l36 2).c)]))
                                          (.rd (loadVar 24 ⟨(l1 0).n, 0, none⟩) (.one (.agg [.int .i64, .bool, .sl])) fun l37 =>
                                           (.done (.tuple #[.agg #[.int .i64 ((l37 0).i), .bool ((l37 1).b), .slice ((l37 2).A) ((l37 2).n) ((l37 2).c)], .int .i64 0]))))))
                                       (.stop k_octroiref05_Decode_1 (t_octroiref05_Decode_1 Aa0 na0 ca0 ((l1 0).n) ((l2 0).n) ((l29 0).n) 0 (jl [(3, .int .i64 0), (8, undef), (9, undef), (10, .agg #[.int .i64 0, .bool false, .slice none 0 0]), (11, .slice Aa0 na0 ca0), (12, .int .i64 ((na0 : Nat) : Int)), (13, .bool (decide ((((na0 : Nat) : Int) : Int) < 4))), (14, .bool false), (15, .slice Aa0 na0 ca0), (16, .int .i64 ((na0 : Nat) : Int)), (17, .int .i64 (IntKind.wrap .i64 (((na0 : Nat) : Int) - 4))), (18, .int .i64 (Int.tmod (IntKind.wrap .i64 (((na0 : Nat) : Int) - 4)) 20)), (19, .bool ((Int.tmod (IntKind.wrap .i64 (((na0 : Nat) : Int) - 4)) 20 : Int) != 0)), (20, .bool ((Int.tmod (IntKind.wrap .i64 (((na0 : Nat) : Int) - 4)) 20 : Int) != 0)), (21, .bool false), (22, .slice Aa0 na0 ca0), (23, .pointer (some ((l7 0).a))), (24, .int .u8 ((l8 0).i)), (25, .bool (((l8 0).i : Int) != 1)), (26, .bool true), (27, .slice Aa0 na0 ca0), (28, .pointer (some ((l9 0).a))), (29, .int .u8 ((l10 0).i)), (30, .bool (((l10 0).i : Int) != 2)), (31, .bool (((l10 0).i : Int) != 2)), (32, .bool (((l10 0).i : Int) != 2)), (33, .bool false), (34, .slice Aa0 na0 ca0), (35, .pointer (some ((l13 0).a))), (36, .int .u8 ((l14 0).i)), (37, .bool (((l14 0).i : Int) != 2)), (38, .bool (((l14 0).i : Int) != 2)), (39, .bool false), (40, .slice Aa0 na0 ca0), (41, .pointer (some ((l17 0).a))), (42, .int .u8 ((l18 0).i)), (43, .bool (((l18 0).i : Int) != 0)), (44, .bool (((l18 0).i : Int) != 0)), (45, .bool false), (46, .slice Aa0 na0 ca0), (47, .pointer (some ((l21 0).a))), (48, .int .u8 ((l22 0).i)), (49, .bool (((l22 0).i : Int) != 0)), (50, .bool (((l22 0).i : Int) != 0)), (51, undef), (52, .slice Aa0 na0 ca0), (53, .int .i64 ((na0 : Nat) : Int)), (54, .int .i64 (IntKind.wrap .i64 (((na0 : Nat) : Int) - 4))), (55, .int .i64 (IntKind.wrap .i64 (Int.tdiv (IntKind.wrap .i64 (((na0 : Nat) : Int) - 4)) 20))), (56, .int .i64 (IntKind.wrap .i64 (Int.tdiv (IntKind.wrap .i64 (((na0 : Nat) : Int) - 4)) 20))), (57, .bool (decide ((IntKind.wrap .i64 (Int.tdiv (IntKind.wrap .i64 (((na0 : Nat) : Int) - 4)) 20) : Int) > 25))), (58, undef), (59, .slice Aa0 na0 ca0), (60, .pointer (some ((l27 0).a))), (61, .int .u8 ((l28 0).i)), (62, .int .i64 (IntKind.wrap .i64 ((l28 0).i))), (63, .agg #[.int .i64 (IntKind.wrap .i64 ((l28 0).i)), .bool false, .slice none 0 0]), (64, .slice Aa0 na0 ca0), (65, .pointer (some ((l30 0).a))), (66, .int .u8 ((l31 0).i)), (67, .bool (((l31 0).i : Int) == 1)), (68, .bool true), (69, .int .i64 (IntKind.wrap .i64 (Int.tdiv (IntKind.wrap .i64 (((na0 : Nat) : Int) - 4)) 20))), (70, .bool ((IntKind.wrap .i64 (Int.tdiv (IntKind.wrap .i64 (((na0 : Nat) : Int) - 4)) 20) : Int) == 1)), (71, .bool ((IntKind.wrap .i64 (Int.tdiv (IntKind.wrap .i64 (((na0 : Nat) : Int) - 4)) 20) : Int) == 1)), (72, .bool true), (73, .slice Aa0 na0 ca0), (74, .slice ((l32 0).A) ((l32 0).n) ((l32 0).c)), (75, .string ((l33 0).s)), (76, .slice ((l34 0).A) ((l34 0).n) ((l34 0).c)), (77, .string ((l35 0).s)), (78, .bool (((l33 0).s).toList == ((l35 0).s).toList)), (79, .bool (((l33 0).s).toList == ((l35 0).s).toList)), (80, undef), (81, undef), (82, undef), (83, undef), (84, undef), (85, undef), (86, undef), (87, undef), (88, undef), (89, undef), (90, undef), (91, undef), (92, undef), (93, undef), (94, undef), (95, undef), (96, undef), (97, undef), (98, undef), (99, undef), (100, undef), (101, undef), (102, undef), (103, undef), (104, undef), (105, undef), (106, undef), (107, undef), (108, undef)]))))))))))
                                (.stop k_octroiref05_Decode_1 (t_octroiref05_Decode_1 Aa0 na0 ca0 ((l1 0).n) ((l2 0).n) ((l29 0).n) 0 (jl [(3, .int .i64 0), (8, undef), (9, undef), (10, .agg #[.int .i64 0, .bool false, .slice none 0 0]), (11, .slice Aa0 na0 ca0), (12, .int .i64 ((na0 : Nat) : Int)), (13, .bool (decide ((((na0 : Nat) : Int) : Int) < 4))), (14, .bool false), (15, .slice Aa0 na0 ca0), (16, .int .i64 ((na0 : Nat) : Int)), (17, .int .i64 (IntKind.wrap .i64 (((na0 : Nat) : Int) - 4))), (18, .int .i64 (Int.tmod (IntKind.wrap .i64 (((na0 : Nat) : Int) - 4)) 20)), (19, .bool ((Int.tmod (IntKind.wrap .i64 (((na0 : Nat) : Int) - 4)) 20 : Int) != 0)), (20, .bool ((Int.tmod (IntKind.wrap .i64 (((na0 : Nat) : Int) - 4)) 20 : Int) != 0)), (21, .bool false), (22, .slice Aa0 na0 ca0), (23, .pointer (some ((l7 0).a))), (24, .int .u8 ((l8 0).i)), (25, .bool (((l8 0).i : Int) != 1)), (26, .bool true), (27, .slice Aa0 na0 ca0), (28, .pointer (some ((l9 0).a))), (29, .int .u8 ((l10 0).i)), (30, .bool (((l10 0).i : Int) != 2)), (31, .bool (((l10 0).i : Int) != 2)), (32, .bool (((l10 0).i : Int) != 2)), (33, .bool false), (34, .slice Aa0 na0 ca0), (35, .pointer (some ((l13 0).a))), (36, .int .u8 ((l14 0).i)), (37, .bool (((l14 0).i : Int) != 2)), (38, .bool (((l14 0).i : Int) != 2)), (39, .bool false), (40, .slice Aa0 na0 ca0), (41, .pointer (some ((l17 0).a))), (42, .int .u8 ((l18 0).i)), (43, .bool (((l18 0).i : Int) != 0)), (44, .bool (((l18 0).i : Int) != 0)), (45, .bool false), (46, .slice Aa0 na0 ca0), (47, .pointer (some ((l21 0).a))), (48, .int .u8 ((l22 0).i)), (49, .bool (((l22 0).i : Int) != 0)), (50, .bool (((l22 0).i : Int) != 0)), (51, undef), (52, .slice Aa0 na0 ca0), (53, .int .i64 ((na0 : Nat) : Int)), (54, .int .i64 (IntKind.wrap .i64 (((na0 : Nat) : Int) - 4))), (55, .int .i64 (IntKind.wrap .i64 (Int.tdiv (IntKind.wrap .i64 (((na0 : Nat) : Int) - 4)) 20))), (56, .int .i64 (IntKind.wrap .i64 (Int.tdiv (IntKind.wrap .i64 (((na0 : Nat) : Int) - 4)) 20))), (57, .bool (decide ((IntKind.wrap .i64 (Int.tdiv (IntKind.wrap .i64 (((na0 : Nat) : Int) - 4)) 20) : Int) > 25))), (58, undef), (59, .slice Aa0 na0 ca0), (60, .pointer (some ((l27 0).a))), (61, .int .u8 ((l28 0).i)), (62, .int .i64 (IntKind.wrap .i64 ((l28 0).i))), (63, .agg #[.int .i64 (IntKind.wrap .i64 ((l28 0).i)), .bool false, .slice none 0 0]), (64, .slice Aa0 na0 ca0), (65, .pointer (some ((l30 0).a))), (66, .int .u8 ((l31 0).i)), (67, .bool (((l31 0).i : Int) == 1)), (68, .bool true), (69, .int .i64 (IntKind.wrap .i64 (Int.tdiv (IntKind.wrap .i64 (((na0 : Nat) : Int) - 4)) 20))), (70, .bool ((IntKind.wrap .i64 (Int.tdiv (IntKind.wrap .i64 (((na0 : Nat) : Int) - 4)) 20) : Int) == 1)), (71, .bool ((IntKind.wrap .i64 (Int.tdiv (IntKind.wrap .i64 (((na0 : Nat) : Int) - 4)) 20) : Int) == 1)), (72, .bool false), (73, undef), (74, undef), (75, undef), (76, undef), (77, undef), (78, undef), (79, .bool false), (80, undef), (81, undef), (82, undef), (83, undef), (84, undef), (85, undef), (86, undef), (87, undef), (88, undef), (89, undef), (90, undef), (91, undef), (92, undef), (93, undef), (94, undef), (95, undef), (96, undef), (97, undef), (98, undef), (99, undef), (100, undef), (101, undef), (102, undef), (103, undef), (104, undef), (105, undef), (106, undef), (107, undef), (108, undef)]))))
                               (.stop k_octroiref05_Decode_1 (t_octroiref05_Decode_1 Aa0 na0 ca0 ((l1 0).n) ((l2 0).n) ((l29 0).n) 0 (jl [(3, .int .i64 0), (8, undef), (9, undef), (10, .agg #[.int .i64 0, .bool false, .slice none 0 0]), (11, .slice Aa0 na0 ca0), (12, .int .i64 ((na0 : Nat) : Int)), (13, .bool (decide ((((na0 : Nat) : Int) : Int) < 4))), (14, .bool false), (15, .slice Aa0 na0 ca0), (16, .int .i64 ((na0 : Nat) : Int)), (17, .int .i64 (IntKind.wrap .i64 (((na0 : Nat) : Int) - 4))), (18, .int .i64 (Int.tmod (IntKind.wrap .i64 (((na0 : Nat) : Int) - 4)) 20)), (19, .bool ((Int.tmod (IntKind.wrap .i64 (((na0 : Nat) : Int) - 4)) 20 : Int) != 0)), (20, .bool ((Int.tmod (IntKind.wrap .i64 (((na0 : Nat) : Int) - 4)) 20 : Int) != 0)), (21, .bool false), (22, .slice Aa0 na0 ca0), (23, .pointer (some ((l7 0).a))), (24, .int .u8 ((l8 0).i)), (25, .bool (((l8 0).i : Int) != 1)), (26, .bool true), (27, .slice Aa0 na0 ca0), (28, .pointer (some ((l9 0).a))), (29, .int .u8 ((l10 0).i)), (30, .bool (((l10 0).i : Int) != 2)), (31, .bool (((l10 0).i : Int) != 2)), (32, .bool (((l10 0).i : Int) != 2)), (33, .bool false), (34, .slice Aa0 na0 ca0), (35, .pointer (some ((l13 0).a))), (36, .int .u8 ((l14 0).i)), (37, .bool (((l14 0).i : Int) != 2)), (38, .bool (((l14 0).i : Int) != 2)), (39, .bool false), (40, .slice Aa0 na0 ca0), (41, .pointer (some ((l17 0).a))), (42, .int .u8 ((l18 0).i)), (43, .bool (((l18 0).i : Int) != 0)), (44, .bool (((l18 0).i : Int) != 0)), (45, .bool false), (46, .slice Aa0 na0 ca0), (47, .pointer (some ((l21 0).a))), (48, .int .u8 ((l22 0).i)), (49, .bool (((l22 0).i : Int) != 0)), (50, .bool (((l22 0).i : Int) != 0)), (51, undef), (52, .slice Aa0 na0 ca0), (53, .int .i64 ((na0 : Nat) : Int)), (54, .int .i64 (IntKind.wrap .i64 (((na0 : Nat) : Int) - 4))), (55, .int .i64 (IntKind.wrap .i64 (Int.tdiv (IntKind.wrap .i64 (((na0 : Nat) : Int) - 4)) 20))), (56, .int .i64 (IntKind.wrap .i64 (Int.tdiv (IntKind.wrap .i64 (((na0 : Nat) : Int) - 4)) 20))), (57, .bool (decide ((IntKind.wrap .i64 (Int.tdiv (IntKind.wrap .i64 (((na0 : Nat) : Int) - 4)) 20) : Int) > 25))), (58, undef), (59, .slice Aa0 na0 ca0), (60, .pointer (some ((l27 0).a))), (61, .int .u8 ((l28 0).i)), (62, .int .i64 (IntKind.wrap .i64 ((l28 0).i))), (63, .agg #[.int .i64 (IntKind.wrap .i64 ((l28 0).i)), .bool false, .slice none 0 0]), (64, .slice Aa0 na0 ca0), (65, .pointer (some ((l30 0).a))), (66, .int .u8 ((l31 0).i)), (67, .bool (((l31 0).i : Int) == 1)), (68, .bool false), (69, undef), (70, undef), (71, .bool false), (72, .bool false), (73, undef), (74, undef), (75, undef), (76, undef), (77, undef), (78, undef), (79, .bool false), (80, undef), (81, undef), (82, undef), (83, undef), (84, undef), (85, undef), (86, undef), (87, undef), (88, undef), (89, undef), (90, undef), (91, undef), (92, undef), (93, undef), (94, undef), (95, undef), (96, undef), (97, undef), (98, undef), (99, undef), (100, undef), (101, undef), (102, undef), (103, undef), (104, undef), (105, undef), (106, undef), (107, undef), (108, undef)])))))))))))))))))))))))
           (.rd (Instr.indexAt 26 (.slice Aa0 na0 ca0) (.int .i64 1)) (.one (.sc (.padr))) fun l38 =>
            (.rd (Instr.loadAt 5 (.pointer (some ((l38 0).a)))) (.one (.sc (.int .u8))) fun l39 =>
             (.ite (((l39 0).i : Int) != 2)
              (.rd (Instr.loadAt 24 (.pointer (some ⟨(l2 0).n, 0, none⟩))) (.one (.agg [.int .i64, .bool, .sl])) fun l40 =>
               (.unit (Instr.storeAt 24 (.pointer (some ⟨(l1 0).n, 0, none⟩)) (.agg #[.int .i64 ((l40 0).i), .bool ((l40 1).b), .slice ((l40 2).A) ((l40 2).n) ((l40 2).c)]))
                (.rd (loadVar 24 ⟨(l1 0).n, 0, none⟩) (.one (.agg [.int .i64, .bool, .sl])) fun l41 =>
                 (.done (.tuple #[.agg #[.int .i64 ((l41 0).i), .bool ((l41 1).b), .slice ((l41 2).A) ((l41 2).n) ((l41 2).c)], .int .i64 2])))))
              (.rd (Instr.indexAt 26 (.slice Aa0 na0 ca0) (.int .i64 2)) (.one (.sc (.padr))) fun l42 =>
               (.rd (Instr.loadAt 5 (.pointer (some ((l42 0).a)))) (.one (.sc (.int .u8))) fun l43 =>
                (.ite (((l43 0).i : Int) != 0)
                 (.rd (Instr.loadAt 24 (.pointer (some ⟨(l2 0).n, 0, none⟩))) (.one (.agg [.int .i64, .bool, .sl])) fun l44 =>
                  (.unit (Instr.storeAt 24 (.pointer (some ⟨(l1 0).n, 0, none⟩)) (.agg #[.int .i64 ((l44 0).i), .bool ((l44 1).b), .slice ((l44 2).A) ((l44 2).n) ((l44 2).c)]))
                   (.rd (loadVar 24 ⟨(l1 0).n, 0, none⟩) (.one (.agg [.int .i64, .bool, .sl])) fun l45 =>
                    (.done (.tuple #[.agg #[.int .i64 ((l45 0).i), .bool ((l45 1).b), .slice ((l45 2).A) ((l45 2).n) ((l45 2).c)], .int .i64 2])))))
                 (.rd (Instr.indexAt 26 (.slice Aa0 na0 ca0) (.int .i64 3)) (.one (.sc (.padr))) fun l46 =>
                  (.rd (Instr.loadAt 5 (.pointer (some ((l46 0).a)))) (.one (.sc (.int .u8))) fun l47 =>
                   (.ite (((l47 0).i : Int) != 0)
                    (.rd (Instr.loadAt 24 (.pointer (some ⟨(l2 0).n, 0, none⟩))) (.one (.agg [.int .i64, .bool, .sl])) fun l48 =>
                     (.unit (Instr.storeAt 24 (.pointer (some ⟨(l1 0).n, 0, none⟩)) (.agg #[.int .i64 ((l48 0).i), .bool ((l48 1).b), .slice ((l48 2).A) ((l48 2).n) ((l48 2).c)]))
                      (.rd (loadVar 24 ⟨(l1 0).n, 0, none⟩) (.one (.agg [.int .i64, .bool, .sl])) fun l49 =>
                       (.done (.tuple #[.agg #[.int .i64 ((l49 0).i), .bool ((l49 1).b), .slice ((l49 2).A) ((l49 2).n) ((l49 2).c)], .int .i64 2])))))
                    (.ite (decide ((IntKind.wrap .i64 (Int.tdiv (IntKind.wrap .i64 (((na0 : Nat) : Int) - 4)) 20) : Int) > 25))
                     (.rd (Instr.loadAt 24 (.pointer (some ⟨(l2 0).n, 0, none⟩))) (.one (.agg [.int .i64, .bool, .sl])) fun l50 =>
                      (.unit (Instr.storeAt 24 (.pointer (some ⟨(l1 0).n, 0, none⟩)) (.agg #[.int .i64 ((l50 0).i), .bool ((l50 1).b), .slice ((l50 2).A) ((l50 2).n) ((l50 2).c)]))
                       (.rd (loadVar 24 ⟨(l1 0).n, 0, none⟩) (.one (.agg [.int .i64, .bool, .sl])) fun l51 =>
                        (.done (.tuple #[.agg #[.int .i64 ((l51 0).i), .bool ((l51 1).b), .slice ((l51 2).A) ((l51 2).n) ((l51 2).c)], .int .i64 9])))))
                     (.rd (Instr.indexAt 26 (.slice Aa0 na0 ca0) (.int .i64 0)) (.one (.sc (.padr))) fun l52 =>
                      (.rd (Instr.loadAt 5 (.pointer (some ((l52 0).a)))) (.one (.sc (.int .u8))) fun l53 =>
                       (.sem (Instr.alloc 24 true (.tuple #[])) shBlk fun l54 =>
                        (.unit (Instr.storeAt 24 (.pointer (some ⟨(l54 0).n, 0, none⟩)) (.agg #[.int .i64 (IntKind.wrap .i64 ((l53 0).i)), .bool false, .slice none 0 0]))
                         (.rd (Instr.indexAt 26 (.slice Aa0 na0 ca0) (.int .i64 0)) (.one (.sc (.padr))) fun l55 =>
                          (.rd (Instr.loadAt 5 (.pointer (some ((l55 0).a)))) (.one (.sc (.int .u8))) fun l56 =>
                           (.ite (((l56 0).i : Int) == 1)
                            (.ite ((IntKind.wrap .i64 (Int.tdiv (IntKind.wrap .i64 (((na0 : Nat) : Int) - 4)) 20) : Int) == 1)
                             (.rd (Instr.sliceAt 26 (.slice Aa0 na0 ca0) (some (.int .i64 4)) none none) (.one (.sc (.sl))) fun l57 =>
                              (.rdn (convN 26 9 (.slice ((l57 0).A) ((l57 0).n) ((l57 0).c))) (.one (.sc (.str))) fun l58 =>
                               (.call 21 [] (.one (.sc (.sl))) fun l59 => -- octroiref05_whole
                                (.pin (convN 26 9 (.slice ((l57 0).A) ((l57 0).n) ((l57 0).c))) (.string ((l58 0).s))
                                 (.pin (vN (Instr.sliceAt 26 (.slice Aa0 na0 ca0) (some (.int .i64 4)) none none)) (.slice ((l57 0).A) ((l57 0).n) ((l57 0).c))
                                  (.rdn (convN 26 9 (.slice ((l59 0).A) ((l59 0).n) ((l59 0).c))) (.one (.sc (.str))) fun l60 =>
                                   (.ite (((l58 0).s).toList == ((l60 0).s).toList)
                                    (.unit (Instr.storeAt 4 (.pointer (some ⟨(l54 0).n, 1, none⟩)) (.bool true))
                                     (.rd (Instr.loadAt 24 (.pointer (some ⟨(l54 0).n, 0, none⟩))) (.one (.agg [.int .i64, .bool, .sl])) fun l61 =>
                                      (.unit (Instr.storeAt 24 (.pointer (some ⟨(l1 0).n, 0, none⟩)) (.agg #[.int .i64 ((l61 0).i), .bool ((l61 1).b), .slice ((l61 2).A) ((l61 2).n) ((l61 2).c)]))
                                       (.rd (loadVar 24 ⟨(l1 0).n, 0, none⟩) (.one (.agg [.int .i64, .bool, .sl])) fun l62 =>
                                        (.done (.tuple #[.agg #[.int .i64 ((l62 0).i), .bool ((l62 1).b), .slice ((l62 2).A) ((l62 2).n) ((l62 2).c)], .int .i64 0]))))))
                                    (.stop k_octroiref05_Decode_1 (t_octroiref05_Decode_1 Aa0 na0 ca0 ((l1 0).n) ((l2 0).n) ((l54 0).n) 0 (jl [(3, .int .i64 0), (8, undef), (9, undef), (10, .agg #[.int .i64 0, .bool false, .slice none 0 0]), (11, .slice Aa0 na0 ca0), (12, .int .i64 ((na0 : Nat) : Int)), (13, .bool (decide ((((na0 : Nat) : Int) : Int) < 4))), (14, .bool false), (15, .slice Aa0 na0 ca0), (16, .int .i64 ((na0 : Nat) : Int)), (17, .int .i64 (IntKind.wrap .i64 (((na0 : Nat) : Int) - 4))), (18, .int .i64 (Int.tmod (IntKind.wrap .i64 (((na0 : Nat) : Int) - 4)) 20)), (19, .bool ((Int.tmod (IntKind.wrap .i64 (((na0 : Nat) : Int) - 4)) 20 : Int) != 0)), (20, .bool ((Int.tmod (IntKind.wrap .i64 (((na0 : Nat) : Int) - 4)) 20 : Int) != 0)), (21, .bool false), (22, .slice Aa0 na0 ca0), (23, .pointer (some ((l7 0).a))), (24, .int .u8 ((l8 0).i)), (25, .bool (((l8 0).i : Int) != 1)), (26, .bool false), (27, undef), (28, undef), (29, undef), (30, undef), (31, .bool false), (32, .bool false), (33, .bool false), (34, .slice Aa0 na0 ca0), (35, .pointer (some ((l38 0).a))), (36, .int .u8 ((l39 0).i)), (37, .bool (((l39 0).i : Int) != 2)), (38, .bool (((l39 0).i : Int) != 2)), (39, .bool false), (40, .slice Aa0 na0 ca0), (41, .pointer (some ((l42 0).a))), (42, .int .u8 ((l43 0).i)), (43, .bool (((l43 0).i : Int) != 0)), (44, .bool (((l43 0).i : Int) != 0)), (45, .bool false), (46, .slice Aa0 na0 ca0), (47, .pointer (some ((l46 0).a))), (48, .int .u8 ((l47 0).i)), (49, .bool (((l47 0).i : Int) != 0)), (50, .bool (((l47 0).i : Int) != 0)), (51, undef), (52, .slice Aa0 na0 ca0), (53, .int .i64 ((na0 : Nat) : Int)), (54, .int .i64 (IntKind.wrap .i64 (((na0 : Nat) : Int) - 4))), (55, .int .i64 (IntKind.wrap .i64 (Int.tdiv (IntKind.wrap .i64 (((na0 : Nat) : Int) - 4)) 20))), (56, .int .i64 (IntKind.wrap .i64 (Int.tdiv (IntKind.wrap .i64 (((na0 : Nat) : Int) - 4)) 20))), (57, .bool (decide ((IntKind.wrap .i64 (Int.tdiv (IntKind.wrap .i64 (((na0 : Nat) : Int) - 4)) 20) : Int) > 25))), (58, undef), (59, .slice Aa0 na0 ca0), (60, .pointer (some ((l52 0).a))), (61, .int .u8 ((l53 0).i)), (62, .int .i64 (IntKind.wrap .i64 ((l53 0).i))), (63, .agg #[.int .i64 (IntKind.wrap .i64 ((l53 0).i)), .bool false, .slice none 0 0]), (64, .slice Aa0 na0 ca0), (65, .pointer (some ((l55 0).a))), (66, .int .u8 ((l56 0).i)), (67, .bool (((l56 0).i : Int) == 1)), (68, .bool true), (69, .int .i64 (IntKind.wrap .i64 (Int.tdiv (IntKind.wrap .i64 (((na0 : Nat) : Int) - 4)) 20))), (70, .bool ((IntKind.wrap .i64 (Int.tdiv (IntKind.wrap .i64 (((na0 : Nat) : Int) - 4)) 20) : Int) == 1)), (71, .bool ((IntKind.wrap .i64 (Int.tdiv (IntKind.wrap .i64 (((na0 : Nat) : Int) - 4)) 20) : Int) == 1)), (72, .bool true), (73, .slice Aa0 na0 ca0), (74, .slice ((l57 0).A) ((l57 0).n) ((l57 0).c)), (75, .string ((l58 0).s)), (76, .slice ((l59 0).A) ((l59 0).n) ((l59 0).c)), (77, .string ((l60 0).s)), (78, .bool (((l58 0).s).toList == ((l60 0).s).toList)), (79, .bool (((l58 0).s).toList == ((l60 0).s).toList)), (80, undef), (81, undef), (82, undef), (83, undef), (84, undef), (85, undef), (86, undef), (87, undef), (88, undef), (89, undef), (90, undef), (91, undef), (92, undef), (93, undef), (94, undef), (95, undef), (96, undef), (97, undef), (98, undef), (99, undef), (100, undef), (101, undef), (102, undef), (103, undef), (104, undef), (105, undef), (106, undef), (107, undef), (108, undef)]))))))))))
                             (.stop k_octroiref05_Decode_1 (t_octroiref05_Decode_1 Aa0 na0 ca0 ((l1 0).n) ((l2 0).n) ((l54 0).n) 0 (jl [(3, .int .i64 0), (8, undef), (9, undef), (10, .agg #[.int .i64 0, .bool false, .slice none 0 0]), (11, .slice Aa0 na0 ca0), (12, .int .i64 ((na0 : Nat) : Int)), (13, .bool (decide ((((na0 : Nat) : Int) : Int) < 4))), (14, .bool false), (15, .slice Aa0 na0 ca0), (16, .int .i64 ((na0 : Nat) : Int)), (17, .int .i64 (IntKind.wrap .i64 (((na0 : Nat) : Int) - 4))), (18, .int .i64 (Int.tmod (IntKind.wrap .i64 (((na0 : Nat) : Int) - 4)) 20)), (19, .bool ((Int.tmod (IntKind.wrap .i64 (((na0 : Nat) : Int) - 4)) 20 : Int) != 0)), (20, .bool ((Int.tmod (IntKind.wrap .i64 (((na0 : Nat) : Int) - 4)) 20 : Int) != 0)), (21, .bool false), (22, .slice Aa0 na0 ca0), (23, .pointer (some ((l7 0).a))), (24, .int .u8 ((l8 0).i)), (25, .bool (((l8 0).i : Int) != 1)), (26, .bool false), (27, undef), (28, undef), (29, undef), (30, undef), (31, .bool false), (32, .bool false), (33, .bool false), (34, .slice Aa0 na0 ca0), (35, .pointer (some ((l38 0).a))), (36, .int .u8 ((l39 0).i)), (37, .bool (((l39 0).i : Int) != 2)), (38, .bool (((l39 0).i : Int) != 2)), (39, .bool false), (40, .slice Aa0 na0 ca0), (41, .pointer (some ((l42 0).a))), (42, .int .u8 ((l43 0).i)), (43, .bool (((l43 0).i : Int) != 0)), (44, .bool (((l43 0).i : Int) != 0)), (45, .bool false), (46, .slice Aa0 na0 ca0), (47, .pointer (some ((l46 0).a))), (48, .int .u8 ((l47 0).i)), (49, .bool (((l47 0).i : Int) != 0)), (50, .bool (((l47 0).i : Int) != 0)), (51, undef), (52, .slice Aa0 na0 ca0), (53, .int .i64 ((na0 : Nat) : Int)), (54, .int .i64 (IntKind.wrap .i64 (((na0 : Nat) : Int) - 4))), (55, .int .i64 (IntKind.wrap .i64 (Int.tdiv (IntKind.wrap .i64 (((na0 : Nat) : Int) - 4)) 20))), (56, .int .i64 (IntKind.wrap .i64 (Int.tdiv (IntKind.wrap .i64 (((na0 : Nat) : Int) - 4)) 20))), (57, .bool (decide ((IntKind.wrap .i64 (Int.tdiv (IntKind.wrap .i64 (((na0 : Nat) : Int) - 4)) 20) : Int) > 25))), (58, undef), (59, .slice Aa0 na0 ca0), (60, .pointer (some ((l52 0).a))), (61, .int .u8 ((l53 0).i)), (62, .int .i64 (IntKind.wrap .i64 ((l53 0).i))), (63, .agg #[.int .i64 (IntKind.wrap .i64 ((l53 0).i)), .bool false, .slice none 0 0]), (64, .slice Aa0 na0 ca0), (65, .pointer (some ((l55 0).a))), (66, .int .u8 ((l56 0).i)), (67, .bool (((l56 0).i : Int) == 1)), (68, .bool true), (69, .int .i64 (IntKind.wrap .i64 (Int.tdiv (IntKind.wrap .i64 (((na0 : Nat) : Int) - 4)) 20))), (70, .bool ((IntKind.wrap .i64 (Int.tdiv (IntKind.wrap .i64 (((na0 : Nat) : Int) - 4)) 20) : Int) == 1)), (71, .bool ((IntKind.wrap .i64 (Int.tdiv (IntKind.wrap .i64 (((na0 : Nat) : Int) - 4)) 20) : Int) == 1)), (72, .bool false), (73, undef), (74, undef), (75, undef), (76, undef), (77, undef), (78, undef), (79, .bool false), (80, undef), (81, undef), (82, undef), (83, undef), (84, undef), (85, undef), (86, undef), (87, undef), (88, undef), (89, undef), (90, undef), (91, undef), (92, undef), (93, undef), (94, undef), (95, undef), (96, undef), (97, undef), (98, undef), (99, undef), (100, undef), (101, undef), (102, undef), (103, undef), (104, undef), (105, undef), (106, undef), (107, undef), (108, undef)]))))
                            (.stop k_octroiref05_Decode_1 (t_octroiref05_Decode_1 Aa0 na0 ca0 ((l1 0).n) ((l2 0).n) ((l54 0).n) 0 (jl [(3, .int .i64 0), (8, undef), (9, undef), (10, .agg #[.int .i64 0, .bool false, .slice none 0 0]), (11, .slice Aa0 na0 ca0), (12, .int .i64 ((na0 : Nat) : Int)), (13, .bool (decide ((((na0 : Nat) : Int) : Int) < 4))), (14, .bool false), (15, .slice Aa0 na0 ca0), (16, .int .i64 ((na0 : Nat) : Int)), (17, .int .i64 (IntKind.wrap .i64 (((na0 : Nat) : Int) - 4))), (18, .int .i64 (Int.tmod (IntKind.wrap .i64 (((na0 : Nat) : Int) - 4)) 20)), (19, .bool ((Int.tmod (IntKind.wrap .i64 (((na0 : Nat) : Int) - 4)) 20 : Int) != 0)), (20, .bool ((Int.tmod (IntKind.wrap .i64 (((na0 : Nat) : Int) - 4)) 20 : Int) != 0)), (21, .bool false), (22, .slice Aa0 na0 ca0), (23, .pointer (some ((l7 0).a))), (24, .int .u8 ((l8 0).i)), (25, .bool (((l8 0).i : Int) != 1)), (26, .bool false), (27, undef), (28, undef), (29, undef), (30, undef), (31, .bool false), (32, .bool false), (33, .bool false), (34, .slice Aa0 na0 ca0), (35, .pointer (some ((l38 0).a))), (36, .int .u8 ((l39 0).i)), (37, .bool (((l39 0).i : Int) != 2)), (38, .bool (((l39 0).i : Int) != 2)), (39, .bool false), (40, .slice Aa0 na0 ca0), (41, .pointer (some ((l42 0).a))), (42, .int .u8 ((l43 0).i)), (43, .bool (((l43 0).i : Int) != 0)), (44, .bool (((l43 0).i : Int) != 0)), (45, .bool false), (46, .slice Aa0 na0 ca0), (47, .pointer (some ((l46 0).a))), (48, .int .u8 ((l47 0).i)), (49, .bool (((l47 0).i : Int) != 0)), (50, .bool (((l47 0).i : Int) != 0)), (51, undef), (52, .slice Aa0 na0 ca0), (53, .int .i64 ((na0 : Nat) : Int)), (54, .int .i64 (IntKind.wrap .i64 (((na0 : Nat) : Int) - 4))), (55, .int .i64 (IntKind.wrap .i64 (Int.tdiv (IntKind.wrap .i64 (((na0 : Nat) : Int) - 4)) 20))), (56, .int .i64 (IntKind.wrap .i64 (Int.tdiv (IntKind.wrap .i64 (((na0 : Nat) : Int) - 4)) 20))), (57, .bool (decide ((IntKind.wrap .i64 (Int.tdiv (IntKind.wrap .i64 (((na0 : Nat) : Int) - 4)) 20) : Int) > 25))), (58, undef), (59, .slice Aa0 na0 ca0), (60, .pointer (some ((l52 0).a))), (61, .int .u8 ((l53 0).i)), (62, .int .i64 (IntKind.wrap .i64 ((l53 0).i))), (63, .agg #[.int .i64 (IntKind.wrap .i64 ((l53 0).i)), .bool false, .slice none 0 0]), (64, .slice Aa0 na0 ca0), (65, .pointer (some ((l55 0).a))), (66, .int .u8 ((l56 0).i)), (67, .bool (((l56 0).i : Int) == 1)), (68, .bool false), (69, undef), (70, undef), (71, .bool false), (72, .bool false), (73, undef), (74, undef), (75, undef), (76, undef), (77, undef), (78, undef), (79, .bool false), (80, undef), (81, undef), (82, undef), (83, undef), (84, undef), (85, undef), (86, undef), (87, undef), (88, undef), (89, undef), (90, undef), (91, undef), (92, undef), (93, undef), (94, undef), (95, undef), (96, undef), (97, undef), (98, undef), (99, undef), (100, undef), (101, undef), (102, undef), (103, undef), (104, undef), (105, undef), (106, undef), (107, undef), (108, undef)])))))))))))))))))))))))))))) h) : Fn Try.prog 14 #[.slice Aa0 na0 ca0] I h Q :=
  Wp.fn (args := [.slice Aa0 na0 ca0]) Try.func14 rfl (by kernel_rfl) (of_tree (cfg := g_octroiref05_Decode) 1000 (by kernel_rfl) Try.func14 rfl Try.checked.mixed hh)
theorem ca_octroiref05_Decode : callable Try.prog 14 := ⟨_, Try.func14, by kernel_rfl, by kernel_rfl⟩
set_option maxRecDepth 100000 in
theorem r_octroiref05_Decode_1 (Aa0 : Option Addr) (na0 : Nat) (ca0 : Nat) (y2 : Nat) (y4 : Nat) (y6 : Nat) (x7 : Int) (u : Nat → Value) {I : Ctx} {h : Mem} {Q : Value → Mem → Prop}
  (hh : holds Try.prog 14 I Q
   (.ite (decide ((x7 : Int) < (IntKind.wrap .i64 (Int.tdiv (IntKind.wrap .i64 (((na0 : Nat) : Int) - 4)) 20))))
    (.rd (Instr.sliceAt 26 (.slice Aa0 na0 ca0) (some (.int .i64 (IntKind.wrap .i64 (4 + (IntKind.wrap .i64 (20 * x7)))))) (some (.int .i64 (IntKind.wrap .i64 (24 + (IntKind.wrap .i64 (20 * x7)))))) none) (.one (.sc (.sl))) fun l63 =>
     (.call 27 [.slice ((l63 0).A) ((l63 0).n) ((l63 0).c)] (.tup [.agg [.int .u32, .int .i64, .int .u16, .int .u32, .int .i64], (.sc (.bool))]) fun l64 => -- octroiref05_read
      (.sem (Instr.alloc 41 true (.tuple #[])) shBlk fun l65 =>
       (.unit (Instr.storeAt 41 (.pointer (some ⟨(l65 0).n, 0, none⟩)) (.agg #[.int .u32 ((l64 0).i), .int .i64 ((l64 1).i), .int .u16 ((l64 2).i), .int .u32 ((l64 3).i), .int .i64 ((l64 4).i)]))
        (.ite (!((l64 5).b))
         (.rd (Instr.loadAt 24 (.pointer (some ⟨y4, 0, none⟩))) (.one (.agg [.int .i64, .bool, .sl])) fun l66 =>
          (.unit (Instr.storeAt 24 (.pointer (some ⟨y2, 0, none⟩)) (.agg #[.int .i64 ((l66 0).i), .bool ((l66 1).b), .slice ((l66 2).A) ((l66 2).n) ((l66 2).c)]))
           (.rd (loadVar 24 ⟨y2, 0, none⟩) (.one (.agg [.int .i64, .bool, .sl])) fun l67 =>
            (.done (.tuple #[.agg #[.int .i64 ((l67 0).i), .bool ((l67 1).b), .slice ((l67 2).A) ((l67 2).n) ((l67 2).c)], .int .i64 2])))))
         (.rd (Instr.loadAt 22 (.pointer (some ⟨y6, 2, none⟩))) (.one (.sc (.sl))) fun l68 =>
          (.rd (Instr.loadAt 41 (.pointer (some ⟨(l65 0).n, 0, none⟩))) (.one (.agg [.int .u32, .int .i64, .int .u16, .int .u32, .int .i64])) fun l69 =>
           (.sem (Instr.buildSlice 22 1 #[(0, .agg #[.int .u32 ((l69 0).i), .int .i64 ((l69 1).i), .int .u16 ((l69 2).i), .int .u32 ((l69 3).i), .int .i64 ((l69 4).i)])]) (.one (.sc (.row 1))) fun l70 =>
            (.nx (builtin .append #[22, 22] 22 #[false, false] #[.slice ((l68 0).A) ((l68 0).n) ((l68 0).c), .slice (some ⟨(l70 0).n, 0, none⟩) 1 1]) (.one (.sc (.sl))) fun l71 =>
             (.unit (Instr.storeAt 22 (.pointer (some ⟨y6, 2, none⟩)) (.slice ((l71 0).A) ((l71 0).n) ((l71 0).c)))
              (.stop k_octroiref05_Decode_1 (t_octroiref05_Decode_1 Aa0 na0 ca0 y2 y4 y6 (IntKind.wrap .i64 (x7 + 1)) (jl [(3, (u 3)), (8, .pointer (some ⟨(l65 0).n, 0, none⟩)), (9, .bool ((l64 5).b)), (10, (u 10)), (11, (u 11)), (12, (u 12)), (13, (u 13)), (14, (u 14)), (15, (u 15)), (16, (u 16)), (17, (u 17)), (18, (u 18)), (19, (u 19)), (20, (u 20)), (21, (u 21)), (22, (u 22)), (23, (u 23)), (24, (u 24)), (25, (u 25)), (26, (u 26)), (27, (u 27)), (28, (u 28)), (29, (u 29)), (30, (u 30)), (31, (u 31)), (32, (u 32)), (33, (u 33)), (34, (u 34)), (35, (u 35)), (36, (u 36)), (37, (u 37)), (38, (u 38)), (39, (u 39)), (40, (u 40)), (41, (u 41)), (42, (u 42)), (43, (u 43)), (44, (u 44)), (45, (u 45)), (46, (u 46)), (47, (u 47)), (48, (u 48)), (49, (u 49)), (50, (u 50)), (51, (u 51)), (52, (u 52)), (53, (u 53)), (54, (u 54)), (55, (u 55)), (56, (u 56)), (57, (u 57)), (58, (u 58)), (59, (u 59)), (60, (u 60)), (61, (u 61)), (62, (u 62)), (63, (u 63)), (64, (u 64)), (65, (u 65)), (66, (u 66)), (67, (u 67)), (68, (u 68)), (69, (u 69)), (70, (u 70)), (71, (u 71)), (72, (u 72)), (73, (u 73)), (74, (u 74)), (75, (u 75)), (76, (u 76)), (77, (u 77)), (78, (u 78)), (79, (u 79)), (80, (u 80)), (81, (u 81)), (82, .int .i64 x7), (83, .int .i64 (IntKind.wrap .i64 (Int.tdiv (IntKind.wrap .i64 (((na0 : Nat) : Int) - 4)) 20))), (84, .bool (decide ((x7 : Int) < (IntKind.wrap .i64 (Int.tdiv (IntKind.wrap .i64 (((na0 : Nat) : Int) - 4)) 20))))), (85, .int .i64 x7), (86, .int .i64 (IntKind.wrap .i64 (x7 + 1))), (87, .tuple #[.agg #[.int .u32 ((l64 0).i), .int .i64 ((l64 1).i), .int .u16 ((l64 2).i), .int .u32 ((l64 3).i), .int .i64 ((l64 4).i)], .bool ((l64 5).b)]), (88, .slice Aa0 na0 ca0), (89, .int .i64 x7), (90, .int .i64 (IntKind.wrap .i64 (20 * x7))), (91, .int .i64 (IntKind.wrap .i64 (4 + (IntKind.wrap .i64 (20 * x7))))), (92, .int .i64 x7), (93, .int .i64 (IntKind.wrap .i64 (20 * x7))), (94, .int .i64 (IntKind.wrap .i64 (24 + (IntKind.wrap .i64 (20 * x7))))), (95, .slice ((l63 0).A) ((l63 0).n) ((l63 0).c)), (96, .tuple #[.agg #[.int .u32 ((l64 0).i), .int .i64 ((l64 1).i), .int .u16 ((l64 2).i), .int .u32 ((l64 3).i), .int .i64 ((l64 4).i)], .bool ((l64 5).b)]), (97, .agg #[.int .u32 ((l64 0).i), .int .i64 ((l64 1).i), .int .u16 ((l64 2).i), .int .u32 ((l64 3).i), .int .i64 ((l64 4).i)]), (98, .bool ((l64 5).b)), (99, .bool ((l64 5).b)), (100, .bool (!((l64 5).b))), (101, (u 101)), (102, .pointer (some ⟨y6, 2, none⟩)), (103, .slice ((l68 0).A) ((l68 0).n) ((l68 0).c)), (104, .agg #[.int .u32 ((l69 0).i), .int .i64 ((l69 1).i), .int .u16 ((l69 2).i), .int .u32 ((l69 3).i), .int .i64 ((l69 4).i)]), (105, .slice (some ⟨(l70 0).n, 0, none⟩) 1 1), (106, .slice ((l71 0).A) ((l71 0).n) ((l71 0).c)), (107, .pointer (some ⟨y6, 2, none⟩)), (108, (u 108))])))))))))))))
    (.rd (Instr.loadAt 24 (.pointer (some ⟨y6, 0, none⟩))) (.one (.agg [.int .i64, .bool, .sl])) fun l72 =>
     (.unit (Instr.storeAt 24 (.pointer (some ⟨y2, 0, none⟩)) (.agg #[.int .i64 ((l72 0).i), .bool ((l72 1).b), .slice ((l72 2).A) ((l72 2).n) ((l72 2).c)]))
      (.rd (loadVar 24 ⟨y2, 0, none⟩) (.one (.agg [.int .i64, .bool, .sl])) fun l73 =>
       (.done (.tuple #[.agg #[.int .i64 ((l73 0).i), .bool ((l73 1).b), .slice ((l73 2).A) ((l73 2).n) ((l73 2).c)], .int .i64 0])))))) h) : Wp Try.prog 14 k_octroiref05_Decode_1 (t_octroiref05_Decode_1 Aa0 na0 ca0 y2 y4 y6 x7 u) I h Q :=
  of_tree (cfg := g_octroiref05_Decode) 1000 (by kernel_rfl) Try.func14 rfl Try.checked.mixed hh
/-! ### octroiref05_Same: function 15 of Go -/
abbrev F_octroiref05_Same : FuncId := 15
noncomputable def c_octroiref05_Same : Code := (Try.f15.body).getD .skip
def p_octroiref05_Same : Nat → List (List Nat) := fun r => match r with | 6 => [[], [0], [], [0, 1, 2], [0, 1, 2, 3], [], [5], [], [5, 6, 7], [5, 6, 7, 8], [0, 1, 2, 3, 4, 5, 6, 7, 8, 9]] | _ => []
noncomputable def g_octroiref05_Same : Cfg := { sh := shs, fsh := fshs, results := [.tmp 4], hint := fun r i => match r, i with | 6, 10 => some (true, .one (.sc (.bool))) | _, _ => none, ord := fun r => match r with | 6 => some [0, 1, 2, 3, 4, 5, 6, 7, 8, 9, 10] | _ => none, pre := p_octroiref05_Same, un := unOf p_octroiref05_Same }
noncomputable def k_octroiref05_Same_1 : List Item := [.code (bd (bd (sr (sl (sr (sr c_octroiref05_Same)))))), .inLoop (bd (bd (sr (sl (sr (sr c_octroiref05_Same)))))), .inBlock 0, .code (sr (sr (sr c_octroiref05_Same)))]
noncomputable def t_octroiref05_Same_1 (y2 : Nat) (y3 : Nat) (x5 : Int) (u : Nat → Value) : List Value := [(u 0), (u 1), .pointer (some ⟨y2, 0, none⟩), .pointer (some ⟨y3, 0, none⟩), (u 4), .int .i64 x5, (u 6), (u 7), (u 8), (u 9), (u 10), (u 11), (u 12), (u 13), (u 14), (u 15), (u 16), (u 17), (u 18), (u 19), (u 20), (u 21), (u 22), (u 23), (u 24), (u 25), (u 26), (u 27), (u 28), (u 29), (u 30), (u 31), (u 32), (u 33), (u 34), (u 35), (u 36), (u 37), (u 38), (u 39), (u 40), (u 41), (u 42), (u 43), (u 44)]
set_option maxRecDepth 100000 in
theorem r_octroiref05_Same (a0_0 : Int) (a0_1 : Bool) (Aa0_2 : Option Addr) (na0_2 : Nat) (ca0_2 : Nat) (a1_0 : Int) (a1_1 : Bool) (Aa1_2 : Option Addr) (na1_2 : Nat) (ca1_2 : Nat) {I : Ctx} {h : Mem} {Q : Value → Mem → Prop}
  (hh : holds Try.prog 15 I (cl_ Q)
   (.sem (Instr.box 24 (.agg #[.int .i64 a0_0, .bool a0_1, .slice Aa0_2 na0_2 ca0_2])) shBlk fun l1 =>
    (.sem (Instr.box 24 (.agg #[.int .i64 a1_0, .bool a1_1, .slice Aa1_2 na1_2 ca1_2])) shBlk fun l2 =>
     (.rd (Instr.loadAt 3 (.pointer (some ⟨(l1 0).n, 0, none⟩))) (.one (.sc (.int .i64))) fun l3 =>
      (.rd (Instr.loadAt 3 (.pointer (some ⟨(l2 0).n, 0, none⟩))) (.one (.sc (.int .i64))) fun l4 =>
       (.ite (((l3 0).i : Int) != ((l4 0).i))
        (.done (.bool false))
        (.rd (Instr.loadAt 4 (.pointer (some ⟨(l1 0).n, 1, none⟩))) (.one (.sc (.bool))) fun l5 =>
         (.rd (Instr.loadAt 4 (.pointer (some ⟨(l2 0).n, 1, none⟩))) (.one (.sc (.bool))) fun l6 =>
          (.ite (!(((l5 0).b) == ((l6 0).b)))
           (.done (.bool false))
           (.rd (Instr.loadAt 22 (.pointer (some ⟨(l1 0).n, 2, none⟩))) (.one (.sc (.sl))) fun l7 =>
            (.rd (Instr.loadAt 22 (.pointer (some ⟨(l2 0).n, 2, none⟩))) (.one (.sc (.sl))) fun l8 =>
             (.ite (((((l7 0).n : Nat) : Int) : Int) != (((l8 0).n : Nat) : Int))
              (.done (.bool false))
              (.stop k_octroiref05_Same_1 (t_octroiref05_Same_1 ((l1 0).n) ((l2 0).n) 0 (jl [(0, .agg #[.int .i64 a0_0, .bool a0_1, .slice Aa0_2 na0_2 ca0_2]), (1, .agg #[.int .i64 a1_0, .bool a1_1, .slice Aa1_2 na1_2 ca1_2]), (4, .bool false), (6, .pointer (some ⟨(l1 0).n, 0, none⟩)), (7, .int .i64 ((l3 0).i)), (8, .pointer (some ⟨(l2 0).n, 0, none⟩)), (9, .int .i64 ((l4 0).i)), (10, .bool (((l3 0).i : Int) != ((l4 0).i))), (11, .bool false), (12, .pointer (some ⟨(l1 0).n, 1, none⟩)), (13, .bool ((l5 0).b)), (14, .pointer (some ⟨(l2 0).n, 1, none⟩)), (15, .bool ((l6 0).b)), (16, .bool (!(((l5 0).b) == ((l6 0).b)))), (17, .bool (!(((l5 0).b) == ((l6 0).b)))), (18, .bool false), (19, .pointer (some ⟨(l1 0).n, 2, none⟩)), (20, .slice ((l7 0).A) ((l7 0).n) ((l7 0).c)), (21, .int .i64 (((l7 0).n : Nat) : Int)), (22, .pointer (some ⟨(l2 0).n, 2, none⟩)), (23, .slice ((l8 0).A) ((l8 0).n) ((l8 0).c)), (24, .int .i64 (((l8 0).n : Nat) : Int)), (25, .bool (((((l7 0).n : Nat) : Int) : Int) != (((l8 0).n : Nat) : Int))), (26, .bool (((((l7 0).n : Nat) : Int) : Int) != (((l8 0).n : Nat) : Int))), (27, undef), (28, undef), (29, undef), (30, undef), (31, undef), (32, undef), (33, undef), (34, undef), (35, undef), (36, undef), (37, undef), (38, undef), (39, undef), (40, undef), (41, undef), (42, undef), (43, undef), (44, undef)])))))))))))))) h) : Fn Try.prog 15 #[.agg #[.int .i64 a0_0, .bool a0_1, .slice Aa0_2 na0_2 ca0_2], .agg #[.int .i64 a1_0, .bool a1_1, .slice Aa1_2 na1_2 ca1_2]] I h Q :=
  Wp.fn (args := [.agg #[.int .i64 a0_0, .bool a0_1, .slice Aa0_2 na0_2 ca0_2], .agg #[.int .i64 a1_0, .bool a1_1, .slice Aa1_2 na1_2 ca1_2]]) Try.func15 rfl (by kernel_rfl) (of_tree (cfg := g_octroiref05_Same) 1000 (by kernel_rfl) Try.func15 rfl Try.checked.mixed hh)
theorem ca_octroiref05_Same : callable Try.prog 15 := ⟨_, Try.func15, by kernel_rfl, by kernel_rfl⟩
set_option maxRecDepth 100000 in
theorem r_octroiref05_Same_1 (y2 : Nat) (y3 : Nat) (x5 : Int) (u : Nat → Value) {I : Ctx} {h : Mem} {Q : Value → Mem → Prop}
  (hh : holds Try.prog 15 I Q
   (.rd (Instr.loadAt 22 (.pointer (some ⟨y2, 2, none⟩))) (.one (.sc (.sl))) fun l9 =>
    (.ite (decide ((x5 : Int) < (((l9 0).n : Nat) : Int)))
     (.rd (Instr.loadAt 22 (.pointer (some ⟨y2, 2, none⟩))) (.one (.sc (.sl))) fun l10 =>
      (.rd (Instr.indexAt 22 (.slice ((l10 0).A) ((l10 0).n) ((l10 0).c)) (.int .i64 x5)) (.one (.sc (.padr))) fun l11 =>
       (.rd (Instr.loadAt 41 (.pointer (some ((l11 0).a)))) (.one (.agg [.int .u32, .int .i64, .int .u16, .int .u32, .int .i64])) fun l12 =>
        (.rd (Instr.loadAt 22 (.pointer (some ⟨y3, 2, none⟩))) (.one (.sc (.sl))) fun l13 =>
         (.rd (Instr.indexAt 22 (.slice ((l13 0).A) ((l13 0).n) ((l13 0).c)) (.int .i64 x5)) (.one (.sc (.padr))) fun l14 =>
          (.rd (Instr.loadAt 41 (.pointer (some ((l14 0).a)))) (.one (.agg [.int .u32, .int .i64, .int .u16, .int .u32, .int .i64])) fun l15 =>
           (.rdn (eqN .neq 41 (.tmp 0) (.tmp 0) (.agg #[.int .u32 ((l12 0).i), .int .i64 ((l12 1).i), .int .u16 ((l12 2).i), .int .u32 ((l12 3).i), .int .i64 ((l12 4).i)]) (.agg #[.int .u32 ((l15 0).i), .int .i64 ((l15 1).i), .int .u16 ((l15 2).i), .int .u32 ((l15 3).i), .int .i64 ((l15 4).i)])) (.one (.sc (.bool))) fun l16 =>
            (.ite ((l16 0).b)
             (.done (.bool false))
             (.stop k_octroiref05_Same_1 (t_octroiref05_Same_1 y2 y3 (IntKind.wrap .i64 (x5 + 1)) (jl [(0, (u 0)), (1, (u 1)), (4, (u 4)), (6, (u 6)), (7, (u 7)), (8, (u 8)), (9, (u 9)), (10, (u 10)), (11, (u 11)), (12, (u 12)), (13, (u 13)), (14, (u 14)), (15, (u 15)), (16, (u 16)), (17, (u 17)), (18, (u 18)), (19, (u 19)), (20, (u 20)), (21, (u 21)), (22, (u 22)), (23, (u 23)), (24, (u 24)), (25, (u 25)), (26, (u 26)), (27, .int .i64 x5), (28, .pointer (some ⟨y2, 2, none⟩)), (29, .slice ((l9 0).A) ((l9 0).n) ((l9 0).c)), (30, .int .i64 (((l9 0).n : Nat) : Int)), (31, .bool (decide ((x5 : Int) < (((l9 0).n : Nat) : Int)))), (32, .int .i64 x5), (33, .int .i64 (IntKind.wrap .i64 (x5 + 1))), (34, .pointer (some ⟨y2, 2, none⟩)), (35, .slice ((l10 0).A) ((l10 0).n) ((l10 0).c)), (36, .int .i64 x5), (37, .pointer (some ((l11 0).a))), (38, .agg #[.int .u32 ((l12 0).i), .int .i64 ((l12 1).i), .int .u16 ((l12 2).i), .int .u32 ((l12 3).i), .int .i64 ((l12 4).i)]), (39, .pointer (some ⟨y3, 2, none⟩)), (40, .slice ((l13 0).A) ((l13 0).n) ((l13 0).c)), (41, .int .i64 x5), (42, .pointer (some ((l14 0).a))), (43, .agg #[.int .u32 ((l15 0).i), .int .i64 ((l15 1).i), .int .u16 ((l15 2).i), .int .u32 ((l15 3).i), .int .i64 ((l15 4).i)]), (44, .bool ((l16 0).b))])))))))))))
     (.done (.bool true)))) h) : Wp Try.prog 15 k_octroiref05_Same_1 (t_octroiref05_Same_1 y2 y3 x5 u) I h Q :=
  of_tree (cfg := g_octroiref05_Same) 1000 (by kernel_rfl) Try.func15 rfl Try.checked.mixed hh
/-! ### rippkt_Encode_fn1: function 16 of Go -/
abbrev F_rippkt_Encode_fn1 : FuncId := 16
noncomputable def c_rippkt_Encode_fn1 : Code := (Try.f16.body).getD .skip
noncomputable def g_rippkt_Encode_fn1 : Cfg := { sh := shs, fsh := fshs, results := [.tmp 2], hint := fun _ _ => none, ord := fun _ => none, pre := fun _ => [], un := fun _ _ _ => false }
set_option maxRecDepth 100000 in
theorem r_rippkt_Encode_fn1 (a0_0 : Int) (a0_1 : Int) (a0_2 : Int) (a0_3 : Int) (a0_4 : Int) {I : Ctx} {h : Mem} {Q : Value → Mem → Prop}
  (hh : holds Try.prog 16 I (cl_ Q)
   (.sem (Instr.box 41 (.agg #[.int .u32 a0_0, .int .i64 a0_1, .int .u16 a0_2, .int .u32 a0_3, .int .i64 a0_4])) shBlk fun l1 =>
    (.rd (Instr.loadAt 41 (.pointer (some ⟨(l1 0).n, 0, none⟩))) (.one (.agg [.int .u32, .int .i64, .int .u16, .int .u32, .int .i64])) fun l2 =>
     (.call 17 [.agg #[.int .u32 ((l2 0).i), .int .i64 ((l2 1).i), .int .u16 ((l2 2).i), .int .u32 ((l2 3).i), .int .i64 ((l2 4).i)]] (.one (.sc (.bool))) fun l3 => -- rippkt_may
      (.done (.bool (!((l3 0).b))))))) h) : Fn Try.prog 16 #[.agg #[.int .u32 a0_0, .int .i64 a0_1, .int .u16 a0_2, .int .u32 a0_3, .int .i64 a0_4]] I h Q :=
  Wp.fn (args := [.agg #[.int .u32 a0_0, .int .i64 a0_1, .int .u16 a0_2, .int .u32 a0_3, .int .i64 a0_4]]) Try.func16 rfl (by kernel_rfl) (of_tree (cfg := g_rippkt_Encode_fn1) 1000 (by kernel_rfl) Try.func16 rfl Try.checked.mixed hh)
theorem ca_rippkt_Encode_fn1 : callable Try.prog 16 := ⟨_, Try.func16, by kernel_rfl, by kernel_rfl⟩
/-! ### rippkt_may: function 17 of Go -/
abbrev F_rippkt_may : FuncId := 17
noncomputable def c_rippkt_may : Code := (Try.f17.body).getD .skip
noncomputable def g_rippkt_may : Cfg := { sh := shs, fsh := fshs, results := [.tmp 2], hint := fun _ _ => none, ord := fun _ => none, pre := fun _ => [], un := fun _ _ _ => false }
set_option maxRecDepth 100000 in
theorem r_rippkt_may (a0_0 : Int) (a0_1 : Int) (a0_2 : Int) (a0_3 : Int) (a0_4 : Int) {I : Ctx} {h : Mem} {Q : Value → Mem → Prop}
  (hh : holds Try.prog 17 I (cl_ Q)
   (.sem (Instr.box 41 (.agg #[.int .u32 a0_0, .int .i64 a0_1, .int .u16 a0_2, .int .u32 a0_3, .int .i64 a0_4])) shBlk fun l1 =>
    (.rd (Instr.loadAt 38 (.pointer (some ⟨(l1 0).n, 0, none⟩))) (.one (.agg [.int .u32, .int .i64])) fun l2 =>
     (.call 28 [.agg #[.int .u32 ((l2 0).i), .int .i64 ((l2 1).i)]] (.one (.sc (.bool))) fun l3 => -- prefix_May
      (.ite ((l3 0).b)
       (.rd (Instr.loadAt 3 (.pointer (some ⟨(l1 0).n, 4, none⟩))) (.one (.sc (.int .i64))) fun l4 =>
        (.ite (decide (((l4 0).i : Int) ≥ 1))
         (.rd (Instr.loadAt 3 (.pointer (some ⟨(l1 0).n, 4, none⟩))) (.one (.sc (.int .i64))) fun l5 =>
          (.done (.bool (decide (((l5 0).i : Int) ≤ 16)))))
         (.done (.bool false))))
       (.done (.bool false)))))) h) : Fn Try.prog 17 #[.agg #[.int .u32 a0_0, .int .i64 a0_1, .int .u16 a0_2, .int .u32 a0_3, .int .i64 a0_4]] I h Q :=
  Wp.fn (args := [.agg #[.int .u32 a0_0, .int .i64 a0_1, .int .u16 a0_2, .int .u32 a0_3, .int .i64 a0_4]]) Try.func17 rfl (by kernel_rfl) (of_tree (cfg := g_rippkt_may) 1000 (by kernel_rfl) Try.func17 rfl Try.checked.mixed hh)
theorem ca_rippkt_may : callable Try.prog 17 := ⟨_, Try.func17, by kernel_rfl, by kernel_rfl⟩
/-! ### slices_ContainsFunc_RipEntry: function 18 of Go -/
abbrev F_slices_ContainsFunc_RipEntry : FuncId := 18
noncomputable def c_slices_ContainsFunc_RipEntry : Code := (Try.f18.body).getD .skip
noncomputable def g_slices_ContainsFunc_RipEntry : Cfg := { sh := shs, fsh := fshs, results := [.tmp 4], hint := fun _ _ => none, ord := fun _ => none, pre := fun _ => [], un := fun _ _ _ => false }
set_option maxRecDepth 100000 in
theorem r_slices_ContainsFunc_RipEntry (Aa0 : Option Addr) (na0 : Nat) (ca0 : Nat) {I : Ctx} {h : Mem} {Q : Value → Mem → Prop}
  (hh : holds Try.prog 18 I (cl_ Q)
   (.call 29 [.slice Aa0 na0 ca0, .func (.func 16) #[] #[]] (.one (.sc (.int .i64))) fun l1 => -- slices_IndexFunc_RipEntry
    (.done (.bool (decide (((l1 0).i : Int) ≥ 0))))) h) : Fn Try.prog 18 #[.slice Aa0 na0 ca0, .func (.func 16) #[] #[]] I h Q :=
  Wp.fn (args := [.slice Aa0 na0 ca0, .func (.func 16) #[] #[]]) Try.func18 rfl (by kernel_rfl) (of_tree (cfg := g_slices_ContainsFunc_RipEntry) 1000 (by kernel_rfl) Try.func18 rfl Try.checked.mixed hh)
theorem ca_slices_ContainsFunc_RipEntry : callable Try.prog 18 := ⟨_, Try.func18, by kernel_rfl, by kernel_rfl⟩
/-! ### rippkt_whole: function 19 of Go -/
abbrev F_rippkt_whole : FuncId := 19
noncomputable def c_rippkt_whole : Code := (Try.f19.body).getD .skip
def p_rippkt_whole : Nat → List (List Nat) := fun r => match r with | 1 => [[], [], [0, 1], [0, 1, 2]] | _ => []
noncomputable def g_rippkt_whole : Cfg := { sh := shs, fsh := fshs, results := [.tmp 0], hint := fun _ _ => none, ord := fun r => match r with | 1 => some [1, 0, 2, 3] | _ => none, pre := p_rippkt_whole, un := unOf p_rippkt_whole }
set_option maxRecDepth 100000 in
theorem r_rippkt_whole  {I : Ctx} {h : Mem} {Q : Value → Mem → Prop}
  (hh : holds Try.prog 19 I (cl_ Q)
   (.call 30 [.int .u32 16] (.one (.sc (.sl))) fun l1 => -- num_Put32
    (.sem (Instr.makeSlice 26 (.int .i64 16) (.int .i64 16)) (.one (.sc (.sl))) fun l2 =>
     (.nx (builtin .append #[26, 26] 26 #[false, false] #[.slice ((l2 0).A) ((l2 0).n) ((l2 0).c), .slice ((l1 0).A) ((l1 0).n) ((l1 0).c)]) (.one (.sc (.sl))) fun l3 =>
      (.done (.slice ((l3 0).A) ((l3 0).n) ((l3 0).c)))))) h) : Fn Try.prog 19 #[] I h Q :=
  Wp.fn (args := []) Try.func19 rfl (by kernel_rfl) (of_tree (cfg := g_rippkt_whole) 1000 (by kernel_rfl) Try.func19 rfl Try.checked.mixed hh)
theorem ca_rippkt_whole : callable Try.prog 19 := ⟨_, Try.func19, by kernel_rfl, by kernel_rfl⟩
/-! ### rippkt_put: function 20 of Go -/
abbrev F_rippkt_put : FuncId := 20
noncomputable def c_rippkt_put : Code := (Try.f20.body).getD .skip
def p_rippkt_put : Nat → List (List Nat) := fun r => match r with | 1 => [[], [], [1], [1, 2], [], [4], [4, 5], [1, 2, 3, 4, 5, 6], [], [8], [8, 9], [1, 2, 3, 4, 5, 6, 7, 8, 9, 10], [1, 2, 3, 4, 5, 6, 7, 8, 9, 10, 11], [], [13], [1, 2, 3, 4, 5, 6, 7, 8, 9, 10, 11, 12, 13, 14], [], [16], [16, 17], [1, 2, 3, 4, 5, 6, 7, 8, 9, 10, 11, 12, 13, 14, 15, 16, 17, 18], [0, 1, 2, 3, 4, 5, 6, 7, 8, 9, 10, 11, 12, 13, 14, 15, 16, 17, 18, 19], [0, 1, 2, 3, 4, 5, 6, 7, 8, 9, 10, 11, 12, 13, 14, 15, 16, 17, 18, 19, 20], [0, 1, 2, 3, 4, 5, 6, 7, 8, 9, 10, 11, 12, 13, 14, 15, 16, 17, 18, 19, 20, 21]] | _ => []
noncomputable def g_rippkt_put : Cfg := { sh := shs, fsh := fshs, results := [.tmp 2], hint := fun _ _ => none, ord := fun r => match r with | 1 => some [1, 2, 4, 5, 6, 8, 9, 10, 13, 14, 16, 17, 18, 3, 7, 11, 12, 15, 19, 0, 20, 21, 22] | _ => none, pre := p_rippkt_put, un := unOf p_rippkt_put }
set_option maxRecDepth 100000 in
theorem r_rippkt_put (a0_0 : Int) (a0_1 : Int) (a0_2 : Int) (a0_3 : Int) (a0_4 : Int) {I : Ctx} {h : Mem} {Q : Value → Mem → Prop}
  (hh : holds Try.prog 20 I (cl_ Q)
   (.sem (Instr.box 41 (.agg #[.int .u32 a0_0, .int .i64 a0_1, .int .u16 a0_2, .int .u32 a0_3, .int .i64 a0_4])) shBlk fun l1 =>
    (.rd (Instr.loadAt 39 (.pointer (some ⟨(l1 0).n, 2, none⟩))) (.one (.sc (.int .u16))) fun l2 =>
     (.rd (Instr.loadAt 36 (.pointer (some ⟨(l1 0).n, 0, none⟩))) (.one (.sc (.int .u32))) fun l3 =>
      (.rd (Instr.loadAt 3 (.pointer (some ⟨(l1 0).n, 1, none⟩))) (.one (.sc (.int .i64))) fun l4 =>
       (.rd (Instr.loadAt 36 (.pointer (some ⟨(l1 0).n, 3, none⟩))) (.one (.sc (.int .u32))) fun l5 =>
        (.rd (Instr.loadAt 3 (.pointer (some ⟨(l1 0).n, 4, none⟩))) (.one (.sc (.int .i64))) fun l6 =>
         (.call 32 [.int .u16 ((l2 0).i)] (.one (.sc (.sl))) fun l7 => -- num_Put16
          (.pin (vN (Instr.loadAt 3 (.pointer (some ⟨(l1 0).n, 4, none⟩)))) (.int .i64 ((l6 0).i))
           (.pin (vN (Instr.loadAt 36 (.pointer (some ⟨(l1 0).n, 3, none⟩)))) (.int .u32 ((l5 0).i))
            (.pin (vN (Instr.loadAt 3 (.pointer (some ⟨(l1 0).n, 1, none⟩)))) (.int .i64 ((l4 0).i))
             (.pin (vN (Instr.loadAt 36 (.pointer (some ⟨(l1 0).n, 0, none⟩)))) (.int .u32 ((l3 0).i))
              (.call 30 [.int .u32 ((l3 0).i)] (.one (.sc (.sl))) fun l8 => -- num_Put32
               (.pin (vN (Instr.loadAt 3 (.pointer (some ⟨(l1 0).n, 4, none⟩)))) (.int .i64 ((l6 0).i))
                (.pin (vN (Instr.loadAt 36 (.pointer (some ⟨(l1 0).n, 3, none⟩)))) (.int .u32 ((l5 0).i))
                 (.pin (vN (Instr.loadAt 3 (.pointer (some ⟨(l1 0).n, 1, none⟩)))) (.int .i64 ((l4 0).i))
                  (.call 33 [.int .i64 ((l4 0).i)] (.one (.sc (.int .u32))) fun l9 => -- prefix_Mask
                   (.pin (vN (Instr.loadAt 3 (.pointer (some ⟨(l1 0).n, 4, none⟩)))) (.int .i64 ((l6 0).i))
                    (.pin (vN (Instr.loadAt 36 (.pointer (some ⟨(l1 0).n, 3, none⟩)))) (.int .u32 ((l5 0).i))
                     (.call 30 [.int .u32 ((l9 0).i)] (.one (.sc (.sl))) fun l10 => -- num_Put32
                      (.pin (vN (Instr.loadAt 3 (.pointer (some ⟨(l1 0).n, 4, none⟩)))) (.int .i64 ((l6 0).i))
                       (.pin (vN (Instr.loadAt 36 (.pointer (some ⟨(l1 0).n, 3, none⟩)))) (.int .u32 ((l5 0).i))
                        (.call 30 [.int .u32 ((l5 0).i)] (.one (.sc (.sl))) fun l11 => -- num_Put32
                         (.pin (vN (Instr.loadAt 3 (.pointer (some ⟨(l1 0).n, 4, none⟩)))) (.int .i64 ((l6 0).i))
                          (.call 30 [.int .u32 (IntKind.wrap .u32 ((l6 0).i))] (.one (.sc (.sl))) fun l12 => -- num_Put32
                           (.sem (Instr.buildSlice 26 2 #[(0, .int .u8 0), (1, .int .u8 2)]) (.one (.sc (.row 2))) fun l13 =>
                            (.sem (Instr.buildSlice 61 6 #[(0, .slice (some ⟨(l13 0).n, 0, none⟩) 2 2), (1, .slice ((l7 0).A) ((l7 0).n) ((l7 0).c)), (2, .slice ((l8 0).A) ((l8 0).n) ((l8 0).c)), (3, .slice ((l10 0).A) ((l10 0).n) ((l10 0).c)), (4, .slice ((l11 0).A) ((l11 0).n) ((l11 0).c)), (5, .slice ((l12 0).A) ((l12 0).n) ((l12 0).c))]) (.one (.sc (.row 6))) fun l14 =>
                             (.call 31 [.slice (some ⟨(l14 0).n, 0, none⟩) 6 6] (.one (.sc (.sl))) fun l15 => -- slices_Concat_byte
                              (.done (.slice ((l15 0).A) ((l15 0).n) ((l15 0).c)))))))))))))))))))))))))))))) h) : Fn Try.prog 20 #[.agg #[.int .u32 a0_0, .int .i64 a0_1, .int .u16 a0_2, .int .u32 a0_3, .int .i64 a0_4]] I h Q :=
  Wp.fn (args := [.agg #[.int .u32 a0_0, .int .i64 a0_1, .int .u16 a0_2, .int .u32 a0_3, .int .i64 a0_4]]) Try.func20 rfl (by kernel_rfl) (of_tree (cfg := g_rippkt_put) 1000 (by kernel_rfl) Try.func20 rfl Try.checked.mixed hh)
theorem ca_rippkt_put : callable Try.prog 20 := ⟨_, Try.func20, by kernel_rfl, by kernel_rfl⟩
/-! ### octroiref05_whole: function 21 of Go -/
abbrev F_octroiref05_whole : FuncId := 21
noncomputable def c_octroiref05_whole : Code := (Try.f21.body).getD .skip
noncomputable def g_octroiref05_whole : Cfg := { sh := shs, fsh := fshs, results := [.tmp 0], hint := fun _ _ => none, ord := fun _ => none, pre := fun _ => [], un := fun _ _ _ => false }
set_option maxRecDepth 100000 in
theorem r_octroiref05_whole  {I : Ctx} {h : Mem} {Q : Value → Mem → Prop}
  (hh : holds Try.prog 21 I (cl_ Q)
   (.sem (Instr.makeSlice 26 (.int .i64 20) (.int .i64 20)) (.one (.sc (.sl))) fun l1 =>
    (.rd (Instr.indexAt 26 (.slice ((l1 0).A) ((l1 0).n) ((l1 0).c)) (.int .i64 19)) (.one (.sc (.padr))) fun l2 =>
     (.unit (Instr.storeAt 5 (.pointer (some ((l2 0).a))) (.int .u8 16))
      (.done (.slice ((l1 0).A) ((l1 0).n) ((l1 0).c)))))) h) : Fn Try.prog 21 #[] I h Q :=
  Wp.fn (args := []) Try.func21 rfl (by kernel_rfl) (of_tree (cfg := g_octroiref05_whole) 1000 (by kernel_rfl) Try.func21 rfl Try.checked.mixed hh)
theorem ca_octroiref05_whole : callable Try.prog 21 := ⟨_, Try.func21, by kernel_rfl, by kernel_rfl⟩
/-! ### octroiref05_entry: function 22 of Go -/
abbrev F_octroiref05_entry : FuncId := 22
noncomputable def c_octroiref05_entry : Code := (Try.f22.body).getD .skip
noncomputable def g_octroiref05_entry : Cfg := { sh := shs, fsh := fshs, results := [.tmp 2], hint := fun _ _ => none, ord := fun _ => none, pre := fun _ => [], un := fun _ _ _ => false }
set_option maxRecDepth 100000 in
theorem r_octroiref05_entry (a0_0 : Int) (a0_1 : Int) (a0_2 : Int) (a0_3 : Int) (a0_4 : Int) {I : Ctx} {h : Mem} {Q : Value → Mem → Prop}
  (hh : holds Try.prog 22 I (cl_ Q)
   (.sem (Instr.box 41 (.agg #[.int .u32 a0_0, .int .i64 a0_1, .int .u16 a0_2, .int .u32 a0_3, .int .i64 a0_4])) shBlk fun l1 =>
    (.rd (Instr.loadAt 38 (.pointer (some ⟨(l1 0).n, 0, none⟩))) (.one (.agg [.int .u32, .int .i64])) fun l2 =>
     (.call 34 [.agg #[.int .u32 ((l2 0).i), .int .i64 ((l2 1).i)]] (.one (.sc (.bool))) fun l3 => -- octroiref02_May
      (.ite ((l3 0).b)
       (.rd (Instr.loadAt 3 (.pointer (some ⟨(l1 0).n, 4, none⟩))) (.one (.sc (.int .i64))) fun l4 =>
        (.ite (decide (((l4 0).i : Int) ≥ 1))
         (.rd (Instr.loadAt 3 (.pointer (some ⟨(l1 0).n, 4, none⟩))) (.one (.sc (.int .i64))) fun l5 =>
          (.done (.bool (decide (((l5 0).i : Int) ≤ 16)))))
         (.done (.bool false))))
       (.done (.bool false)))))) h) : Fn Try.prog 22 #[.agg #[.int .u32 a0_0, .int .i64 a0_1, .int .u16 a0_2, .int .u32 a0_3, .int .i64 a0_4]] I h Q :=
  Wp.fn (args := [.agg #[.int .u32 a0_0, .int .i64 a0_1, .int .u16 a0_2, .int .u32 a0_3, .int .i64 a0_4]]) Try.func22 rfl (by kernel_rfl) (of_tree (cfg := g_octroiref05_entry) 1000 (by kernel_rfl) Try.func22 rfl Try.checked.mixed hh)
theorem ca_octroiref05_entry : callable Try.prog 22 := ⟨_, Try.func22, by kernel_rfl, by kernel_rfl⟩
/-! ### octroiref01_Put: function 23 of Go -/
abbrev F_octroiref01_Put : FuncId := 23
noncomputable def c_octroiref01_Put : Code := (Try.f23.body).getD .skip
noncomputable def g_octroiref01_Put : Cfg := { sh := shs, fsh := fshs, results := [.tmp 4], hint := fun _ _ => none, ord := fun _ => none, pre := fun _ => [], un := fun _ _ _ => false }
noncomputable def k_octroiref01_Put_1 : List Item := [.code (bd (bd (sr (sl (sr (sr c_octroiref01_Put)))))), .inLoop (bd (bd (sr (sl (sr (sr c_octroiref01_Put)))))), .inBlock 0, .code (sr (sr (sr c_octroiref01_Put)))]
noncomputable def t_octroiref01_Put_1 (Ay5 : Option Addr) (ny5 : Nat) (cy5 : Nat) (x0 : Int) (x6 : Int) (u : Nat → Value) : List Value := [.int .u32 x0, (u 1), undef, undef, (u 4), .slice Ay5 ny5 cy5, .int .i64 x6, (u 7), (u 8), (u 9), (u 10), (u 11), (u 12), (u 13), (u 14), (u 15), (u 16), (u 17), (u 18), (u 19), (u 20), (u 21), (u 22), (u 23)]
set_option maxRecDepth 100000 in
theorem r_octroiref01_Put (a0 : Int) (a1 : Int) {I : Ctx} {h : Mem} {Q : Value → Mem → Prop}
  (hh : holds Try.prog 23 I (cl_ Q)
   (.sem (Instr.makeSlice 26 (.int .i64 a1) (.int .i64 a1)) (.one (.sc (.sl))) fun l1 =>
    (.stop k_octroiref01_Put_1 (t_octroiref01_Put_1 ((l1 0).A) ((l1 0).n) ((l1 0).c) a0 (IntKind.wrap .i64 (a1 - 1)) (jl [(1, .int .i64 a1), (4, .slice none 0 0), (7, .int .i64 a1), (8, .slice ((l1 0).A) ((l1 0).n) ((l1 0).c)), (9, .int .i64 a1), (10, .int .i64 (IntKind.wrap .i64 (a1 - 1))), (11, undef), (12, undef), (13, undef), (14, undef), (15, undef), (16, undef), (17, undef), (18, undef), (19, undef), (20, undef), (21, undef), (22, undef), (23, undef)])))) h) : Fn Try.prog 23 #[.int .u32 a0, .int .i64 a1] I h Q :=
  Wp.fn (args := [.int .u32 a0, .int .i64 a1]) Try.func23 rfl (by kernel_rfl) (of_tree (cfg := g_octroiref01_Put) 1000 (by kernel_rfl) Try.func23 rfl Try.checked.mixed hh)
theorem ca_octroiref01_Put : callable Try.prog 23 := ⟨_, Try.func23, by kernel_rfl, by kernel_rfl⟩
set_option maxRecDepth 100000 in
theorem r_octroiref01_Put_1 (Ay5 : Option Addr) (ny5 : Nat) (cy5 : Nat) (x0 : Int) (x6 : Int) (u : Nat → Value) {I : Ctx} {h : Mem} {Q : Value → Mem → Prop}
  (hh : holds Try.prog 23 I Q
   (.ite (decide ((x6 : Int) ≥ 0))
    (.rd (Instr.indexAt 26 (.slice Ay5 ny5 cy5) (.int .i64 x6)) (.one (.sc (.padr))) fun l2 =>
     (.unit (Instr.storeAt 5 (.pointer (some ((l2 0).a))) (.int .u8 (IntKind.wrap .u8 (Int.tmod x0 256))))
      (.stop k_octroiref01_Put_1 (t_octroiref01_Put_1 Ay5 ny5 cy5 (IntKind.wrap .u32 (Int.tdiv x0 256)) (IntKind.wrap .i64 (x6 - 1)) (jl [(1, (u 1)), (4, (u 4)), (7, (u 7)), (8, (u 8)), (9, (u 9)), (10, (u 10)), (11, .int .i64 x6), (12, .bool (decide ((x6 : Int) ≥ 0))), (13, .int .i64 x6), (14, .int .i64 (IntKind.wrap .i64 (x6 - 1))), (15, .slice Ay5 ny5 cy5), (16, .int .i64 x6), (17, .int .u32 x0), (18, .int .u32 (Int.tmod x0 256)), (19, .int .u8 (IntKind.wrap .u8 (Int.tmod x0 256))), (20, .pointer (some ((l2 0).a))), (21, .int .u32 x0), (22, .int .u32 (IntKind.wrap .u32 (Int.tdiv x0 256))), (23, (u 23))])))))
    (.done (.slice Ay5 ny5 cy5))) h) : Wp Try.prog 23 k_octroiref01_Put_1 (t_octroiref01_Put_1 Ay5 ny5 cy5 x0 x6 u) I h Q :=
  of_tree (cfg := g_octroiref01_Put) 1000 (by kernel_rfl) Try.func23 rfl Try.checked.mixed hh
/-! ### octroiref02_Mask: function 24 of Go -/
abbrev F_octroiref02_Mask : FuncId := 24
noncomputable def c_octroiref02_Mask : Code := (Try.f24.body).getD .skip
noncomputable def g_octroiref02_Mask : Cfg := { sh := shs, fsh := fshs, results := [.tmp 2], hint := fun _ _ => none, ord := fun _ => none, pre := fun _ => [], un := fun _ _ _ => false }
noncomputable def k_octroiref02_Mask_1 : List Item := [.code (bd (bd (sr (sl (sr (sr (sr c_octroiref02_Mask))))))), .inLoop (bd (bd (sr (sl (sr (sr (sr c_octroiref02_Mask))))))), .inBlock 0, .code (sr (sr (sr (sr c_octroiref02_Mask))))]
noncomputable def t_octroiref02_Mask_1 (a0 : Int) (x3 : Int) (x4 : Int) (x5 : Int) (u : Nat → Value) : List Value := [.int .i64 a0, undef, (u 2), .int .u32 x3, .int .u32 x4, .int .i64 x5, (u 6), (u 7), (u 8), (u 9), (u 10), (u 11), (u 12), (u 13), (u 14), (u 15), (u 16), (u 17), (u 18), (u 19), (u 20)]
set_option maxRecDepth 100000 in
theorem r_octroiref02_Mask (a0 : Int) {I : Ctx} {h : Mem} {Q : Value → Mem → Prop}
  (hh : holds Try.prog 24 I (cl_ Q)
   (.stop k_octroiref02_Mask_1 (t_octroiref02_Mask_1 a0 0 2147483648 0 (jl [(2, .int .u32 0), (6, undef), (7, undef), (8, undef), (9, undef), (10, undef), (11, undef), (12, undef), (13, undef), (14, undef), (15, undef), (16, undef), (17, undef), (18, undef), (19, undef), (20, undef)]))) h) : Fn Try.prog 24 #[.int .i64 a0] I h Q :=
  Wp.fn (args := [.int .i64 a0]) Try.func24 rfl (by kernel_rfl) (of_tree (cfg := g_octroiref02_Mask) 1000 (by kernel_rfl) Try.func24 rfl Try.checked.mixed hh)
theorem ca_octroiref02_Mask : callable Try.prog 24 := ⟨_, Try.func24, by kernel_rfl, by kernel_rfl⟩
set_option maxRecDepth 100000 in
theorem r_octroiref02_Mask_1 (a0 : Int) (x3 : Int) (x4 : Int) (x5 : Int) (u : Nat → Value) {I : Ctx} {h : Mem} {Q : Value → Mem → Prop}
  (hh : holds Try.prog 24 I Q
   (.ite (decide ((x5 : Int) < a0))
    (.ite (decide ((x5 : Int) < 32))
     (.stop k_octroiref02_Mask_1 (t_octroiref02_Mask_1 a0 (IntKind.wrap .u32 (x3 + x4)) (IntKind.wrap .u32 (Int.tdiv x4 2)) (IntKind.wrap .i64 (x5 + 1)) (jl [(2, (u 2)), (6, .int .i64 x5), (7, .int .i64 a0), (8, .bool (decide ((x5 : Int) < a0))), (9, .bool true), (10, .int .i64 x5), (11, .bool (decide ((x5 : Int) < 32))), (12, .bool (decide ((x5 : Int) < 32))), (13, .int .i64 x5), (14, .int .i64 (IntKind.wrap .i64 (x5 + 1))), (15, .int .u32 x3), (16, .int .u32 x4), (17, .int .u32 (IntKind.wrap .u32 (x3 + x4))), (18, .int .u32 x4), (19, .int .u32 (IntKind.wrap .u32 (Int.tdiv x4 2))), (20, (u 20))])))
     (.done (.int .u32 x3)))
    (.done (.int .u32 x3))) h) : Wp Try.prog 24 k_octroiref02_Mask_1 (t_octroiref02_Mask_1 a0 x3 x4 x5 u) I h Q :=
  of_tree (cfg := g_octroiref02_Mask) 1000 (by kernel_rfl) Try.func24 rfl Try.checked.mixed hh
/-! ### bytes_Equal: function 25 of Go -/
abbrev F_bytes_Equal : FuncId := 25
noncomputable def c_bytes_Equal : Code := (Try.f25.body).getD .skip
noncomputable def g_bytes_Equal : Cfg := { sh := shs, fsh := fshs, results := [.tmp 4], hint := fun r i => match r, i with | 1, 1 => some (true, .one (.sc (.str))) | 1, 3 => some (true, .one (.sc (.str))) | _, _ => none, ord := fun _ => none, pre := fun _ => [], un := fun _ _ _ => false }
set_option maxRecDepth 100000 in
theorem r_bytes_Equal (Aa0 : Option Addr) (na0 : Nat) (ca0 : Nat) (Aa1 : Option Addr) (na1 : Nat) (ca1 : Nat) {I : Ctx} {h : Mem} {Q : Value → Mem → Prop}
  (hh : holds Try.prog 25 I (cl_ Q)
   (.rdn (convN 26 9 (.slice Aa0 na0 ca0)) (.one (.sc (.str))) fun l1 =>
    (.rdn (convN 26 9 (.slice Aa1 na1 ca1)) (.one (.sc (.str))) fun l2 =>
     (.done (.bool (((l1 0).s).toList == ((l2 0).s).toList))))) h) : Fn Try.prog 25 #[.slice Aa0 na0 ca0, .slice Aa1 na1 ca1] I h Q :=
  Wp.fn (args := [.slice Aa0 na0 ca0, .slice Aa1 na1 ca1]) Try.func25 rfl (by kernel_rfl) (of_tree (cfg := g_bytes_Equal) 1000 (by kernel_rfl) Try.func25 rfl Try.checked.mixed hh)
theorem ca_bytes_Equal : callable Try.prog 25 := ⟨_, Try.func25, by kernel_rfl, by kernel_rfl⟩
/-! ### rippkt_entries: function 26 of Go -/
abbrev F_rippkt_entries : FuncId := 26
noncomputable def c_rippkt_entries : Code := (Try.f26.body).getD .skip
noncomputable def g_rippkt_entries : Cfg := { sh := shs, fsh := fshs, results := [.cell 4 24, .tmp 5], hint := fun _ _ => none, ord := fun _ => none, pre := fun _ => [], un := fun _ _ _ => false }
noncomputable def k_rippkt_entries_1 : List Item := [.code (sr (bd (sr c_rippkt_entries))), .inScope (bd (sr c_rippkt_entries))]
noncomputable def t_rippkt_entries_1 (y2 : Nat) (y4 : Nat) (A1 : Option Addr) (n1 : Nat) (c1 : Nat) (u : Nat → Value) : List Value := [(u 0), .slice A1 n1 c1, .pointer (some ⟨y2, 0, none⟩), undef, .pointer (some ⟨y4, 0, none⟩), (u 5), (u 6), (u 7), (u 8), (u 9), (u 10), (u 11), (u 12), (u 13), (u 14), (u 15), (u 16), (u 17), (u 18), (u 19), (u 20), (u 21), (u 22), (u 23), (u 24), (u 25), (u 26), (u 27)]
noncomputable def k_rippkt_entries_2 : List Item := [.code (sl (sl (sr (bd (sr c_rippkt_entries))))), .code (sr (sl (sr (bd (sr c_rippkt_entries))))), .code (sr (sr (bd (sr c_rippkt_entries)))), .inScope (bd (sr c_rippkt_entries))]
noncomputable def t_rippkt_entries_2 (y2 : Nat) (y4 : Nat) (A1 : Option Addr) (n1 : Nat) (c1 : Nat) (u : Nat → Value) : List Value := [(u 0), .slice A1 n1 c1, .pointer (some ⟨y2, 0, none⟩), undef, .pointer (some ⟨y4, 0, none⟩), (u 5), (u 6), (u 7), (u 8), (u 9), (u 10), (u 11), (u 12), (u 13), (u 14), (u 15), (u 16), (u 17), (u 18), (u 19), (u 20), (u 21), (u 22), (u 23), (u 24), (u 25), (u 26), (u 27)]
set_option maxRecDepth 100000 in
theorem r_rippkt_entries (a0_0 : Int) (a0_1 : Bool) (Aa0_2 : Option Addr) (na0_2 : Nat) (ca0_2 : Nat) (Aa1 : Option Addr) (na1 : Nat) (ca1 : Nat) {I : Ctx} {h : Mem} {Q : Value → Mem → Prop}
  (hh : holds Try.prog 26 I (cl_ Q)
   (.sem (Instr.box 24 (.agg #[.int .i64 a0_0, .bool a0_1, .slice Aa0_2 na0_2 ca0_2])) shBlk fun l1 =>
    (.sem (Instr.alloc 24 true (.tuple #[])) shBlk fun l2 =>
     (.stop k_rippkt_entries_1 (t_rippkt_entries_1 ((l1 0).n) ((l2 0).n) Aa1 na1 ca1 (jl [(0, .agg #[.int .i64 a0_0, .bool a0_1, .slice Aa0_2 na0_2 ca0_2]), (5, .int .i64 0), (6, undef), (7, undef), (8, undef), (9, undef), (10, undef), (11, undef), (12, undef), (13, undef), (14, undef), (15, undef), (16, undef), (17, undef), (18, undef), (19, undef), (20, undef), (21, undef), (22, undef), (23, undef), (24, undef), (25, undef), (26, undef), (27, undef)]))))) h) : Fn Try.prog 26 #[.agg #[.int .i64 a0_0, .bool a0_1, .slice Aa0_2 na0_2 ca0_2], .slice Aa1 na1 ca1] I h Q :=
  Wp.fn (args := [.agg #[.int .i64 a0_0, .bool a0_1, .slice Aa0_2 na0_2 ca0_2], .slice Aa1 na1 ca1]) Try.func26 rfl (by kernel_rfl) (of_tree (cfg := g_rippkt_entries) 1000 (by kernel_rfl) Try.func26 rfl Try.checked.mixed hh)
theorem ca_rippkt_entries : callable Try.prog 26 := ⟨_, Try.func26, by kernel_rfl, by kernel_rfl⟩
set_option maxRecDepth 100000 in
theorem r_rippkt_entries_1 (y2 : Nat) (y4 : Nat) (A1 : Option Addr) (n1 : Nat) (c1 : Nat) (u : Nat → Value) {I : Ctx} {h : Mem} {Q : Value → Mem → Prop}
  (hh : holds Try.prog 26 I Q
   (.ite ((((n1 : Nat) : Int) : Int) == 0)
    (.rd (Instr.loadAt 24 (.pointer (some ⟨y2, 0, none⟩))) (.one (.agg [.int .i64, .bool, .sl])) fun l3 =>
     (.unit (Instr.storeAt 24 (.pointer (some ⟨y4, 0, none⟩)) (.agg #[.int .i64 ((l3 0).i), .bool ((l3 1).b), .slice ((l3 2).A) ((l3 2).n) ((l3 2).c)]))
      (.rd (loadVar 24 ⟨y4, 0, none⟩) (.one (.agg [.int .i64, .bool, .sl])) fun l4 =>
       (.done (.tuple #[.agg #[.int .i64 ((l4 0).i), .bool ((l4 1).b), .slice ((l4 2).A) ((l4 2).n) ((l4 2).c)], .int .i64 0])))))
    (.rd (Instr.sliceAt 26 (.slice A1 n1 c1) none (some (.int .i64 20)) (some (.int .i64 20))) (.one (.sc (.sl))) fun l5 =>
     (.call 35 [.slice ((l5 0).A) ((l5 0).n) ((l5 0).c)] (.tup [.agg [.int .u32, .int .i64, .int .u16, .int .u32, .int .i64], (.sc (.bool))]) fun l6 => -- rippkt_get
      (.sem (Instr.alloc 41 true (.tuple #[])) shBlk fun l7 =>
       (.unit (Instr.storeAt 41 (.pointer (some ⟨(l7 0).n, 0, none⟩)) (.agg #[.int .u32 ((l6 0).i), .int .i64 ((l6 1).i), .int .u16 ((l6 2).i), .int .u32 ((l6 3).i), .int .i64 ((l6 4).i)]))
        (.ite ((l6 5).b)
         (.rd (Instr.loadAt 22 (.pointer (some ⟨y2, 2, none⟩))) (.one (.sc (.sl))) fun l8 =>
          (.rd (Instr.loadAt 41 (.pointer (some ⟨(l7 0).n, 0, none⟩))) (.one (.agg [.int .u32, .int .i64, .int .u16, .int .u32, .int .i64])) fun l9 =>
           (.sem (Instr.buildSlice 22 1 #[(0, .agg #[.int .u32 ((l9 0).i), .int .i64 ((l9 1).i), .int .u16 ((l9 2).i), .int .u32 ((l9 3).i), .int .i64 ((l9 4).i)])]) (.one (.sc (.row 1))) fun l10 =>
            (.nx (builtin .append #[22, 22] 22 #[false, false] #[.slice ((l8 0).A) ((l8 0).n) ((l8 0).c), .slice (some ⟨(l10 0).n, 0, none⟩) 1 1]) (.one (.sc (.sl))) fun l11 =>
             (.unit (Instr.storeAt 22 (.pointer (some ⟨y2, 2, none⟩)) (.slice ((l11 0).A) ((l11 0).n) ((l11 0).c)))
              (.rd (Instr.sliceAt 26 (.slice A1 n1 c1) (some (.int .i64 20)) none none) (.one (.sc (.sl))) fun l12 =>
               (.stop k_rippkt_entries_2 (t_rippkt_entries_2 y2 y4 ((l12 0).A) ((l12 0).n) ((l12 0).c) (jl [(0, (u 0)), (5, (u 5)), (6, .pointer (some ⟨(l7 0).n, 0, none⟩)), (7, .bool ((l6 5).b)), (8, .slice A1 n1 c1), (9, .int .i64 ((n1 : Nat) : Int)), (10, .bool ((((n1 : Nat) : Int) : Int) == 0)), (11, (u 11)), (12, .tuple #[.agg #[.int .u32 ((l6 0).i), .int .i64 ((l6 1).i), .int .u16 ((l6 2).i), .int .u32 ((l6 3).i), .int .i64 ((l6 4).i)], .bool ((l6 5).b)]), (13, .slice A1 n1 c1), (14, .slice ((l5 0).A) ((l5 0).n) ((l5 0).c)), (15, .tuple #[.agg #[.int .u32 ((l6 0).i), .int .i64 ((l6 1).i), .int .u16 ((l6 2).i), .int .u32 ((l6 3).i), .int .i64 ((l6 4).i)], .bool ((l6 5).b)]), (16, .agg #[.int .u32 ((l6 0).i), .int .i64 ((l6 1).i), .int .u16 ((l6 2).i), .int .u32 ((l6 3).i), .int .i64 ((l6 4).i)]), (17, .bool ((l6 5).b)), (18, .bool ((l6 5).b)), (19, .pointer (some ⟨y2, 2, none⟩)), (20, .slice ((l8 0).A) ((l8 0).n) ((l8 0).c)), (21, .agg #[.int .u32 ((l9 0).i), .int .i64 ((l9 1).i), .int .u16 ((l9 2).i), .int .u32 ((l9 3).i), .int .i64 ((l9 4).i)]), (22, .slice (some ⟨(l10 0).n, 0, none⟩) 1 1), (23, .slice ((l11 0).A) ((l11 0).n) ((l11 0).c)), (24, .pointer (some ⟨y2, 2, none⟩)), (25, .slice A1 n1 c1), (26, .slice ((l12 0).A) ((l12 0).n) ((l12 0).c)), (27, (u 27))])))))))))
         (.unit (Instr.storeAt 24 (.pointer (some ⟨y4, 0, none⟩)) (.agg #[.int .i64 0, .bool false, .slice none 0 0]))
          (.rd (loadVar 24 ⟨y4, 0, none⟩) (.one (.agg [.int .i64, .bool, .sl])) fun l13 =>
           (.done (.tuple #[.agg #[.int .i64 ((l13 0).i), .bool ((l13 1).b), .slice ((l13 2).A) ((l13 2).n) ((l13 2).c)], .int .i64 2])))))))))) h) : Wp Try.prog 26 k_rippkt_entries_1 (t_rippkt_entries_1 y2 y4 A1 n1 c1 u) I h Q :=
  of_tree (cfg := g_rippkt_entries) 1000 (by kernel_rfl) Try.func26 rfl Try.checked.mixed hh
set_option maxRecDepth 100000 in
theorem r_rippkt_entries_2 (y2 : Nat) (y4 : Nat) (A1 : Option Addr) (n1 : Nat) (c1 : Nat) (u : Nat → Value) {I : Ctx} {h : Mem} {Q : Value → Mem → Prop}
  (hh : holds Try.prog 26 I Q
   (.ite ((((n1 : Nat) : Int) : Int) == 0)
    (.rd (Instr.loadAt 24 (.pointer (some ⟨y2, 0, none⟩))) (.one (.agg [.int .i64, .bool, .sl])) fun l14 =>
     (.unit (Instr.storeAt 24 (.pointer (some ⟨y4, 0, none⟩)) (.agg #[.int .i64 ((l14 0).i), .bool ((l14 1).b), .slice ((l14 2).A) ((l14 2).n) ((l14 2).c)]))
      (.rd (loadVar 24 ⟨y4, 0, none⟩) (.one (.agg [.int .i64, .bool, .sl])) fun l15 =>
       (.done (.tuple #[.agg #[.int .i64 ((l15 0).i), .bool ((l15 1).b), .slice ((l15 2).A) ((l15 2).n) ((l15 2).c)], .int .i64 0])))))
    (.rd (Instr.sliceAt 26 (.slice A1 n1 c1) none (some (.int .i64 20)) (some (.int .i64 20))) (.one (.sc (.sl))) fun l16 =>
     (.call 35 [.slice ((l16 0).A) ((l16 0).n) ((l16 0).c)] (.tup [.agg [.int .u32, .int .i64, .int .u16, .int .u32, .int .i64], (.sc (.bool))]) fun l17 => -- rippkt_get
      (.sem (Instr.alloc 41 true (.tuple #[])) shBlk fun l18 =>
       (.unit (Instr.storeAt 41 (.pointer (some ⟨(l18 0).n, 0, none⟩)) (.agg #[.int .u32 ((l17 0).i), .int .i64 ((l17 1).i), .int .u16 ((l17 2).i), .int .u32 ((l17 3).i), .int .i64 ((l17 4).i)]))
        (.ite ((l17 5).b)
         (.rd (Instr.loadAt 22 (.pointer (some ⟨y2, 2, none⟩))) (.one (.sc (.sl))) fun l19 =>
          (.rd (Instr.loadAt 41 (.pointer (some ⟨(l18 0).n, 0, none⟩))) (.one (.agg [.int .u32, .int .i64, .int .u16, .int .u32, .int .i64])) fun l20 =>
           (.sem (Instr.buildSlice 22 1 #[(0, .agg #[.int .u32 ((l20 0).i), .int .i64 ((l20 1).i), .int .u16 ((l20 2).i), .int .u32 ((l20 3).i), .int .i64 ((l20 4).i)])]) (.one (.sc (.row 1))) fun l21 =>
            (.nx (builtin .append #[22, 22] 22 #[false, false] #[.slice ((l19 0).A) ((l19 0).n) ((l19 0).c), .slice (some ⟨(l21 0).n, 0, none⟩) 1 1]) (.one (.sc (.sl))) fun l22 =>
             (.unit (Instr.storeAt 22 (.pointer (some ⟨y2, 2, none⟩)) (.slice ((l22 0).A) ((l22 0).n) ((l22 0).c)))
              (.rd (Instr.sliceAt 26 (.slice A1 n1 c1) (some (.int .i64 20)) none none) (.one (.sc (.sl))) fun l23 =>
               (.stop k_rippkt_entries_2 (t_rippkt_entries_2 y2 y4 ((l23 0).A) ((l23 0).n) ((l23 0).c) (jl [(0, (u 0)), (5, (u 5)), (6, .pointer (some ⟨(l18 0).n, 0, none⟩)), (7, .bool ((l17 5).b)), (8, .slice A1 n1 c1), (9, .int .i64 ((n1 : Nat) : Int)), (10, .bool ((((n1 : Nat) : Int) : Int) == 0)), (11, (u 11)), (12, .tuple #[.agg #[.int .u32 ((l17 0).i), .int .i64 ((l17 1).i), .int .u16 ((l17 2).i), .int .u32 ((l17 3).i), .int .i64 ((l17 4).i)], .bool ((l17 5).b)]), (13, .slice A1 n1 c1), (14, .slice ((l16 0).A) ((l16 0).n) ((l16 0).c)), (15, .tuple #[.agg #[.int .u32 ((l17 0).i), .int .i64 ((l17 1).i), .int .u16 ((l17 2).i), .int .u32 ((l17 3).i), .int .i64 ((l17 4).i)], .bool ((l17 5).b)]), (16, .agg #[.int .u32 ((l17 0).i), .int .i64 ((l17 1).i), .int .u16 ((l17 2).i), .int .u32 ((l17 3).i), .int .i64 ((l17 4).i)]), (17, .bool ((l17 5).b)), (18, .bool ((l17 5).b)), (19, .pointer (some ⟨y2, 2, none⟩)), (20, .slice ((l19 0).A) ((l19 0).n) ((l19 0).c)), (21, .agg #[.int .u32 ((l20 0).i), .int .i64 ((l20 1).i), .int .u16 ((l20 2).i), .int .u32 ((l20 3).i), .int .i64 ((l20 4).i)]), (22, .slice (some ⟨(l21 0).n, 0, none⟩) 1 1), (23, .slice ((l22 0).A) ((l22 0).n) ((l22 0).c)), (24, .pointer (some ⟨y2, 2, none⟩)), (25, .slice A1 n1 c1), (26, .slice ((l23 0).A) ((l23 0).n) ((l23 0).c)), (27, (u 27))])))))))))
         (.unit (Instr.storeAt 24 (.pointer (some ⟨y4, 0, none⟩)) (.agg #[.int .i64 0, .bool false, .slice none 0 0]))
          (.rd (loadVar 24 ⟨y4, 0, none⟩) (.one (.agg [.int .i64, .bool, .sl])) fun l24 =>
           (.done (.tuple #[.agg #[.int .i64 ((l24 0).i), .bool ((l24 1).b), .slice ((l24 2).A) ((l24 2).n) ((l24 2).c)], .int .i64 2])))))))))) h) : Wp Try.prog 26 k_rippkt_entries_2 (t_rippkt_entries_2 y2 y4 A1 n1 c1 u) I h Q :=
  of_tree (cfg := g_rippkt_entries) 1000 (by kernel_rfl) Try.func26 rfl Try.checked.mixed hh
/-! ### octroiref05_read: function 27 of Go -/
abbrev F_octroiref05_read : FuncId := 27
noncomputable def c_octroiref05_read : Code := (Try.f27.body).getD .skip
def p_octroiref05_read : Nat → List (List Nat) := fun r => match r with | 9 => [[], [], [1], [1, 2], [1, 2, 3], [1, 2, 3, 4], [1, 2, 3, 4, 5], [1, 2, 3, 4, 5, 6], [1, 2, 3, 4, 5, 6, 7], [1, 2, 3, 4, 5, 6, 7, 8], [1, 2, 3, 4, 5, 6, 7, 8, 9], [1, 2, 3, 4, 5, 6, 7, 8, 9, 10], [1, 2, 3, 4, 5, 6, 7, 8, 9, 10, 11], [1, 2, 3, 4, 5, 6, 7, 8, 9, 10, 11, 12], [1, 2, 3, 4, 5, 6, 7, 8, 9, 10, 11, 12, 13], [1, 2, 3, 4, 5, 6, 7, 8, 9, 10, 11, 12, 13, 14], [1, 2, 3, 4, 5, 6, 7, 8, 9, 10, 11, 12, 13, 14, 15], [0, 1, 2, 3, 4, 5, 6, 7, 8, 9, 10, 11], [0, 1, 2, 3, 4, 5, 6, 7, 8, 9, 10, 11, 12, 13, 14, 15, 16, 17]] | _ => []
noncomputable def g_octroiref05_read : Cfg := { sh := shs, fsh := fshs, results := [.cell 2 41, .tmp 3], hint := fun _ _ => none, ord := fun r => match r with | 9 => some [0, 1, 2, 3, 4, 5, 6, 7, 8, 9, 10, 11, 12, 13, 14, 15, 16, 17, 18] | _ => none, pre := p_octroiref05_read, un := unOf p_octroiref05_read }
set_option maxRecDepth 100000 in
theorem r_octroiref05_read (Aa0 : Option Addr) (na0 : Nat) (ca0 : Nat) {I : Ctx} {h : Mem} {Q : Value → Mem → Prop}
  (hh : holds Try.prog 27 I (cl_ Q)
   (.sem (Instr.alloc 41 true (.tuple #[])) shBlk fun l1 =>
    (.call 36 [.slice Aa0 na0 ca0, .int .i64 2, .int .i64 2] (.tup [(.sc (.int .u32)), (.sc (.bool))]) fun l2 => -- octroiref01_Get
     (.call 36 [.slice Aa0 na0 ca0, .int .i64 4, .int .i64 4] (.tup [(.sc (.int .u32)), (.sc (.bool))]) fun l3 => -- octroiref01_Get
      (.call 36 [.slice Aa0 na0 ca0, .int .i64 8, .int .i64 4] (.tup [(.sc (.int .u32)), (.sc (.bool))]) fun l4 => -- octroiref01_Get
       (.call 36 [.slice Aa0 na0 ca0, .int .i64 12, .int .i64 4] (.tup [(.sc (.int .u32)), (.sc (.bool))]) fun l5 => -- octroiref01_Get
        (.call 36 [.slice Aa0 na0 ca0, .int .i64 16, .int .i64 4] (.tup [(.sc (.int .u32)), (.sc (.bool))]) fun l6 => -- octroiref01_Get
         (.call 37 [.int .u32 ((l4 0).i)] (.tup [(.sc (.int .i64)), (.sc (.bool))]) fun l7 => -- octroiref02_Bits
          (.sem (Instr.alloc 41 true (.tuple #[])) shBlk fun l8 =>
           (.unit (Instr.storeAt 41 (.pointer (some ⟨(l8 0).n, 0, none⟩)) (.agg #[.int .u32 ((l3 0).i), .int .i64 ((l7 0).i), .int .u16 (IntKind.wrap .u16 ((l2 0).i)), .int .u32 ((l5 0).i), .int .i64 (IntKind.wrap .i64 ((l6 0).i))]))
            (.rd (Instr.loadAt 41 (.pointer (some ⟨(l8 0).n, 0, none⟩))) (.one (.agg [.int .u32, .int .i64, .int .u16, .int .u32, .int .i64])) fun l9 =>
             (.call 22 [.agg #[.int .u32 ((l9 0).i), .int .i64 ((l9 1).i), .int .u16 ((l9 2).i), .int .u32 ((l9 3).i), .int .i64 ((l9 4).i)]] (.one (.sc (.bool))) fun l10 => -- octroiref05_entry
              (.rd (Instr.loadAt 41 (.pointer (some ⟨(l8 0).n, 0, none⟩))) (.one (.agg [.int .u32, .int .i64, .int .u16, .int .u32, .int .i64])) fun l11 =>
               (.ite ((l7 1).b)
                (.ite ((l10 0).b)
                 (.rd (Instr.indexAt 26 (.slice Aa0 na0 ca0) (.int .i64 0)) (.one (.sc (.padr))) fun l12 =>
                  (.rd (Instr.loadAt 5 (.pointer (some ((l12 0).a)))) (.one (.sc (.int .u8))) fun l13 =>
                   (.ite (((l13 0).i : Int) == 0)
                    (.rd (Instr.indexAt 26 (.slice Aa0 na0 ca0) (.int .i64 1)) (.one (.sc (.padr))) fun l14 =>
                     (.rd (Instr.loadAt 5 (.pointer (some ((l14 0).a)))) (.one (.sc (.int .u8))) fun l15 =>
                      (.unit (Instr.storeAt 41 (.pointer (some ⟨(l1 0).n, 0, none⟩)) (.agg #[.int .u32 ((l11 0).i), .int .i64 ((l11 1).i), .int .u16 ((l11 2).i), .int .u32 ((l11 3).i), .int .i64 ((l11 4).i)]))
                       (.pin (vN (Instr.loadAt 5 (.pointer (some ((l14 0).a))))) (.int .u8 ((l15 0).i))
                        (.pin (vN (Instr.indexAt 26 (.slice Aa0 na0 ca0) (.int .i64 1))) (.pointer (some ((l14 0).a)))
                         (.rd (loadVar 41 ⟨(l1 0).n, 0, none⟩) (.one (.agg [.int .u32, .int .i64, .int .u16, .int .u32, .int .i64])) fun l16 =>
                          (.done (.tuple #[.agg #[.int .u32 ((l16 0).i), .int .i64 ((l16 1).i), .int .u16 ((l16 2).i), .int .u32 ((l16 3).i), .int .i64 ((l16 4).i)], .bool (((l15 0).i : Int) == 2)]))))))))
                    (.unit (Instr.storeAt 41 (.pointer (some ⟨(l1 0).n, 0, none⟩)) (.agg #[.int .u32 ((l11 0).i), .int .i64 ((l11 1).i), .int .u16 ((l11 2).i), .int .u32 ((l11 3).i), .int .i64 ((l11 4).i)]))
                     (.rd (loadVar 41 ⟨(l1 0).n, 0, none⟩) (.one (.agg [.int .u32, .int .i64, .int .u16, .int .u32, .int .i64])) fun l17 =>
                      (.done (.tuple #[.agg #[.int .u32 ((l17 0).i), .int .i64 ((l17 1).i), .int .u16 ((l17 2).i), .int .u32 ((l17 3).i), .int .i64 ((l17 4).i)], .bool false])))))))
                 (.unit (Instr.storeAt 41 (.pointer (some ⟨(l1 0).n, 0, none⟩)) (.agg #[.int .u32 ((l11 0).i), .int .i64 ((l11 1).i), .int .u16 ((l11 2).i), .int .u32 ((l11 3).i), .int .i64 ((l11 4).i)]))
                  (.rd (loadVar 41 ⟨(l1 0).n, 0, none⟩) (.one (.agg [.int .u32, .int .i64, .int .u16, .int .u32, .int .i64])) fun l18 =>
                   (.done (.tuple #[.agg #[.int .u32 ((l18 0).i), .int .i64 ((l18 1).i), .int .u16 ((l18 2).i), .int .u32 ((l18 3).i), .int .i64 ((l18 4).i)], .bool false])))))
                (.unit (Instr.storeAt 41 (.pointer (some ⟨(l1 0).n, 0, none⟩)) (.agg #[.int .u32 ((l11 0).i), .int .i64 ((l11 1).i), .int .u16 ((l11 2).i), .int .u32 ((l11 3).i), .int .i64 ((l11 4).i)]))
                 (.rd (loadVar 41 ⟨(l1 0).n, 0, none⟩) (.one (.agg [.int .u32, .int .i64, .int .u16, .int .u32, .int .i64])) fun l19 =>
                  (.done (.tuple #[.agg #[.int .u32 ((l19 0).i), .int .i64 ((l19 1).i), .int .u16 ((l19 2).i), .int .u32 ((l19 3).i), .int .i64 ((l19 4).i)], .bool false]))))))))))))))))) h) : Fn Try.prog 27 #[.slice Aa0 na0 ca0] I h Q :=
  Wp.fn (args := [.slice Aa0 na0 ca0]) Try.func27 rfl (by kernel_rfl) (of_tree (cfg := g_octroiref05_read) 1000 (by kernel_rfl) Try.func27 rfl Try.checked.mixed hh)
theorem ca_octroiref05_read : callable Try.prog 27 := ⟨_, Try.func27, by kernel_rfl, by kernel_rfl⟩
/-! ### prefix_May: function 28 of Go -/
abbrev F_prefix_May : FuncId := 28
noncomputable def c_prefix_May : Code := (Try.f28.body).getD .skip
def p_prefix_May : Nat → List (List Nat) := fun r => match r with | 1 => [[], [0], [0, 1], [0, 1, 2], [0, 1, 2, 3], [0, 1, 2, 3, 4], [0, 1, 2, 3, 4, 5], [0, 1, 2, 3, 4, 5, 6], [0, 1, 2, 3, 4, 5, 6, 7], [0, 1, 2, 3, 4, 5, 6, 7, 8], [0, 1, 2, 3, 4, 5, 6, 7, 8, 9], [0, 1, 2, 3, 4, 5, 6, 7, 8], [0, 1, 2, 3, 4, 5, 6, 7, 8, 11], [0, 1, 2, 3, 4, 5, 6, 7, 8, 11, 12], [0, 1, 2, 3, 4, 5, 6, 7, 8, 9, 10, 11, 12, 13], [0, 1, 2, 3, 4, 5, 6, 7, 8, 9, 10, 11, 12, 13, 14], [0, 1, 2, 3, 4, 5, 6, 7, 8, 9, 10, 11, 12, 13, 14, 15], [0, 1, 2, 3, 4, 5, 6, 7, 8, 9, 10, 11, 12, 13, 14, 15, 16]] | _ => []
noncomputable def g_prefix_May : Cfg := { sh := shs, fsh := fshs, results := [.tmp 2], hint := fun _ _ => none, ord := fun r => match r with | 1 => some [0, 1, 2, 3, 4, 5, 6, 7, 8, 9, 10, 11, 12, 13, 14, 15, 16, 17] | _ => none, pre := p_prefix_May, un := unOf p_prefix_May }
set_option maxRecDepth 100000 in
theorem r_prefix_May (a0_0 : Int) (a0_1 : Int) {I : Ctx} {h : Mem} {Q : Value → Mem → Prop}
  (hh : holds Try.prog 28 I (cl_ Q)
   (.sem (Instr.box 38 (.agg #[.int .u32 a0_0, .int .i64 a0_1])) shBlk fun l1 =>
    (.rd (Instr.loadAt 3 (.pointer (some ⟨(l1 0).n, 1, none⟩))) (.one (.sc (.int .i64))) fun l2 =>
     (.ite (decide (((l2 0).i : Int) ≥ 0))
      (.rd (Instr.loadAt 3 (.pointer (some ⟨(l1 0).n, 1, none⟩))) (.one (.sc (.int .i64))) fun l3 =>
       (.ite (decide (((l3 0).i : Int) ≤ 32))
        (.rd (Instr.loadAt 36 (.pointer (some ⟨(l1 0).n, 0, none⟩))) (.one (.sc (.int .u32))) fun l4 =>
         (.rd (Instr.loadAt 3 (.pointer (some ⟨(l1 0).n, 1, none⟩))) (.one (.sc (.int .i64))) fun l5 =>
          (.call 33 [.int .i64 ((l5 0).i)] (.one (.sc (.int .u32))) fun l6 => -- prefix_Mask
           (.pin (vN (Instr.loadAt 36 (.pointer (some ⟨(l1 0).n, 0, none⟩)))) (.int .u32 ((l4 0).i))
            (.done (.bool ((bitop .andNot .u32 ((l4 0).i) ((l6 0).i) : Int) == 0)))))))
        (.done (.bool false))))
      (.done (.bool false))))) h) : Fn Try.prog 28 #[.agg #[.int .u32 a0_0, .int .i64 a0_1]] I h Q :=
  Wp.fn (args := [.agg #[.int .u32 a0_0, .int .i64 a0_1]]) Try.func28 rfl (by kernel_rfl) (of_tree (cfg := g_prefix_May) 1000 (by kernel_rfl) Try.func28 rfl Try.checked.mixed hh)
theorem ca_prefix_May : callable Try.prog 28 := ⟨_, Try.func28, by kernel_rfl, by kernel_rfl⟩
/-! ### slices_IndexFunc_RipEntry: function 29 of Go -/
abbrev F_slices_IndexFunc_RipEntry : FuncId := 29
noncomputable def c_slices_IndexFunc_RipEntry : Code := (Try.f29.body).getD .skip
noncomputable def g_slices_IndexFunc_RipEntry : Cfg := { sh := shs, fsh := fshs, results := [.tmp 4], hint := fun _ _ => none, ord := fun _ => none, pre := fun _ => [], un := fun _ _ _ => false }
noncomputable def k_slices_IndexFunc_RipEntry_1 : List Item := [.code (bd (bd (sr (sl (sr c_slices_IndexFunc_RipEntry))))), .inLoop (bd (bd (sr (sl (sr c_slices_IndexFunc_RipEntry))))), .inBlock 0, .code (sr (sr c_slices_IndexFunc_RipEntry))]
noncomputable def t_slices_IndexFunc_RipEntry_1 (Aa0 : Option Addr) (na0 : Nat) (ca0 : Nat) (x8 : Int) (u : Nat → Value) : List Value := [.slice Aa0 na0 ca0, .func (.func 16) #[] #[], undef, undef, (u 4), (u 5), (u 6), .int .i64 ((na0 : Nat) : Int), .int .i64 x8, (u 9), (u 10), (u 11), (u 12), (u 13), (u 14), (u 15), (u 16), (u 17), (u 18)]
set_option maxRecDepth 100000 in
theorem r_slices_IndexFunc_RipEntry (Aa0 : Option Addr) (na0 : Nat) (ca0 : Nat) {I : Ctx} {h : Mem} {Q : Value → Mem → Prop}
  (hh : holds Try.prog 29 I (cl_ Q)
   (.stop k_slices_IndexFunc_RipEntry_1 (t_slices_IndexFunc_RipEntry_1 Aa0 na0 ca0 0 (jl [(4, .int .i64 0), (5, undef), (6, .slice Aa0 na0 ca0), (9, undef), (10, undef), (11, undef), (12, undef), (13, undef), (14, undef), (15, undef), (16, undef), (17, undef), (18, undef)]))) h) : Fn Try.prog 29 #[.slice Aa0 na0 ca0, .func (.func 16) #[] #[]] I h Q :=
  Wp.fn (args := [.slice Aa0 na0 ca0, .func (.func 16) #[] #[]]) Try.func29 rfl (by kernel_rfl) (of_tree (cfg := g_slices_IndexFunc_RipEntry) 1000 (by kernel_rfl) Try.func29 rfl Try.checked.mixed hh)
theorem ca_slices_IndexFunc_RipEntry : callable Try.prog 29 := ⟨_, Try.func29, by kernel_rfl, by kernel_rfl⟩
set_option maxRecDepth 100000 in
theorem r_slices_IndexFunc_RipEntry_1 (Aa0 : Option Addr) (na0 : Nat) (ca0 : Nat) (x8 : Int) (u : Nat → Value) {I : Ctx} {h : Mem} {Q : Value → Mem → Prop}
  (hh : holds Try.prog 29 I Q
   (.ite (decide ((x8 : Int) < ((na0 : Nat) : Int)))
    (.rd (Instr.indexAt 22 (.slice Aa0 na0 ca0) (.int .i64 x8)) (.one (.sc (.padr))) fun l1 =>
     (.rd (Instr.loadAt 41 (.pointer (some ((l1 0).a)))) (.one (.agg [.int .u32, .int .i64, .int .u16, .int .u32, .int .i64])) fun l2 =>
      (.call 16 [.agg #[.int .u32 ((l2 0).i), .int .i64 ((l2 1).i), .int .u16 ((l2 2).i), .int .u32 ((l2 3).i), .int .i64 ((l2 4).i)]] (.one (.sc (.bool))) fun l3 => -- rippkt_Encode_fn1
       (.ite ((l3 0).b)
        (.done (.int .i64 x8))
        (.stop k_slices_IndexFunc_RipEntry_1 (t_slices_IndexFunc_RipEntry_1 Aa0 na0 ca0 (IntKind.wrap .i64 (x8 + 1)) (jl [(4, (u 4)), (5, .int .i64 x8), (6, (u 6)), (9, .bool (decide ((x8 : Int) < ((na0 : Nat) : Int)))), (10, .int .i64 x8), (11, .func (.func 16) #[] #[]), (12, .slice Aa0 na0 ca0), (13, .int .i64 x8), (14, .pointer (some ((l1 0).a))), (15, .agg #[.int .u32 ((l2 0).i), .int .i64 ((l2 1).i), .int .u16 ((l2 2).i), .int .u32 ((l2 3).i), .int .i64 ((l2 4).i)]), (16, .bool ((l3 0).b)), (17, (u 17)), (18, .int .i64 (IntKind.wrap .i64 (x8 + 1)))])))))))
    (.done (.int .i64 (-1)))) h) : Wp Try.prog 29 k_slices_IndexFunc_RipEntry_1 (t_slices_IndexFunc_RipEntry_1 Aa0 na0 ca0 x8 u) I h Q :=
  of_tree (cfg := g_slices_IndexFunc_RipEntry) 1000 (by kernel_rfl) Try.func29 rfl Try.checked.mixed hh
/-! ### num_Put32: function 30 of Go -/
abbrev F_num_Put32 : FuncId := 30
noncomputable def c_num_Put32 : Code := (Try.f30.body).getD .skip
noncomputable def g_num_Put32 : Cfg := { sh := shs, fsh := fshs, results := [.tmp 2], hint := fun _ _ => none, ord := fun _ => none, pre := fun _ => [], un := fun _ _ _ => false }
set_option maxRecDepth 100000 in
theorem r_num_Put32 (a0 : Int) {I : Ctx} {h : Mem} {Q : Value → Mem → Prop}
  (hh : holds Try.prog 30 I (cl_ Q)
   (.call 38 [.int .u32 a0, .int .i64 4] (.one (.sc (.sl))) fun l1 => -- num_put
    (.done (.slice ((l1 0).A) ((l1 0).n) ((l1 0).c)))) h) : Fn Try.prog 30 #[.int .u32 a0] I h Q :=
  Wp.fn (args := [.int .u32 a0]) Try.func30 rfl (by kernel_rfl) (of_tree (cfg := g_num_Put32) 1000 (by kernel_rfl) Try.func30 rfl Try.checked.mixed hh)
theorem ca_num_Put32 : callable Try.prog 30 := ⟨_, Try.func30, by kernel_rfl, by kernel_rfl⟩
/-! ### slices_Concat_byte: function 31 of Go -/
abbrev F_slices_Concat_byte : FuncId := 31
noncomputable def c_slices_Concat_byte : Code := (Try.f31.body).getD .skip
noncomputable def g_slices_Concat_byte : Cfg := { sh := shs, fsh := fshs, results := [.tmp 2], hint := fun _ _ => none, ord := fun _ => none, pre := fun _ => [], un := fun _ _ _ => false }
noncomputable def k_slices_Concat_byte_1 : List Item := [.code (bd (bd (sr (sl (sr (sr c_slices_Concat_byte)))))), .inLoop (bd (bd (sr (sl (sr (sr c_slices_Concat_byte)))))), .inBlock 0, .code (sr (sr (sr c_slices_Concat_byte)))]
noncomputable def t_slices_Concat_byte_1 (Aa0 : Option Addr) (na0 : Nat) (ca0 : Nat) (x3 : Int) (x11 : Int) (u : Nat → Value) : List Value := [.slice Aa0 na0 ca0, undef, (u 2), .int .i64 x3, undef, (u 5), (u 6), undef, (u 8), .slice Aa0 na0 ca0, .int .i64 ((na0 : Nat) : Int), .int .i64 x11, (u 12), (u 13), (u 14), (u 15), (u 16), (u 17), (u 18), (u 19), (u 20), (u 21), (u 22), (u 23), (u 24), (u 25), (u 26), (u 27), (u 28), (u 29), (u 30), (u 31), (u 32), (u 33), (u 34), (u 35)]
noncomputable def k_slices_Concat_byte_2 : List Item := [.code (bd (bd (sr (sl (sr (sr (sr (sr c_slices_Concat_byte)))))))), .inLoop (bd (bd (sr (sl (sr (sr (sr (sr c_slices_Concat_byte)))))))), .inBlock 2, .code (sr (sr (sr (sr (sr c_slices_Concat_byte)))))]
noncomputable def t_slices_Concat_byte_2 (Aa0 : Option Addr) (na0 : Nat) (ca0 : Nat) (A6 : Option Addr) (n6 : Nat) (c6 : Nat) (x27 : Int) (u : Nat → Value) : List Value := [(u 0), undef, (u 2), (u 3), undef, (u 5), .slice A6 n6 c6, undef, (u 8), (u 9), (u 10), (u 11), (u 12), (u 13), (u 14), (u 15), (u 16), (u 17), (u 18), (u 19), (u 20), (u 21), (u 22), (u 23), (u 24), .slice Aa0 na0 ca0, .int .i64 ((na0 : Nat) : Int), .int .i64 x27, (u 28), (u 29), (u 30), (u 31), (u 32), (u 33), (u 34), (u 35)]
set_option maxRecDepth 100000 in
theorem r_slices_Concat_byte (Aa0 : Option Addr) (na0 : Nat) (ca0 : Nat) {I : Ctx} {h : Mem} {Q : Value → Mem → Prop}
  (hh : holds Try.prog 31 I (cl_ Q)
   (.stop k_slices_Concat_byte_1 (t_slices_Concat_byte_1 Aa0 na0 ca0 0 0 (jl [(2, .slice none 0 0), (5, undef), (6, undef), (8, undef), (12, undef), (13, undef), (14, undef), (15, undef), (16, undef), (17, undef), (18, undef), (19, undef), (20, undef), (21, undef), (22, undef), (23, undef), (24, undef), (25, undef), (26, undef), (27, undef), (28, undef), (29, undef), (30, undef), (31, undef), (32, undef), (33, undef), (34, undef), (35, undef)]))) h) : Fn Try.prog 31 #[.slice Aa0 na0 ca0] I h Q :=
  Wp.fn (args := [.slice Aa0 na0 ca0]) Try.func31 rfl (by kernel_rfl) (of_tree (cfg := g_slices_Concat_byte) 1000 (by kernel_rfl) Try.func31 rfl Try.checked.mixed hh)
theorem ca_slices_Concat_byte : callable Try.prog 31 := ⟨_, Try.func31, by kernel_rfl, by kernel_rfl⟩
set_option maxRecDepth 100000 in
theorem r_slices_Concat_byte_1 (Aa0 : Option Addr) (na0 : Nat) (ca0 : Nat) (x3 : Int) (x11 : Int) (u : Nat → Value) {I : Ctx} {h : Mem} {Q : Value → Mem → Prop}
  (hh : holds Try.prog 31 I Q
   (.ite (decide ((x11 : Int) < ((na0 : Nat) : Int)))
    (.rd (Instr.indexAt 61 (.slice Aa0 na0 ca0) (.int .i64 x11)) (.one (.sc (.padr))) fun l1 =>
     (.rd (Instr.loadAt 26 (.pointer (some ((l1 0).a)))) (.one (.sc (.sl))) fun l2 =>
      (.ite (decide ((IntKind.wrap .i64 (x3 + (((l2 0).n : Nat) : Int)) : Int) < 0))
       (.stuck)
       (.stop k_slices_Concat_byte_1 (t_slices_Concat_byte_1 Aa0 na0 ca0 (IntKind.wrap .i64 (x3 + (((l2 0).n : Nat) : Int))) (IntKind.wrap .i64 (x11 + 1)) (jl [(2, (u 2)), (5, .slice ((l2 0).A) ((l2 0).n) ((l2 0).c)), (6, (u 6)), (8, (u 8)), (12, .bool (decide ((x11 : Int) < ((na0 : Nat) : Int)))), (13, .pointer (some ((l1 0).a))), (14, .slice ((l2 0).A) ((l2 0).n) ((l2 0).c)), (15, .int .i64 x3), (16, .slice ((l2 0).A) ((l2 0).n) ((l2 0).c)), (17, .int .i64 (((l2 0).n : Nat) : Int)), (18, .int .i64 (IntKind.wrap .i64 (x3 + (((l2 0).n : Nat) : Int)))), (19, .int .i64 (IntKind.wrap .i64 (x3 + (((l2 0).n : Nat) : Int)))), (20, .bool (decide ((IntKind.wrap .i64 (x3 + (((l2 0).n : Nat) : Int)) : Int) < 0))), (21, (u 21)), (22, .int .i64 (IntKind.wrap .i64 (x11 + 1))), (23, (u 23)), (24, (u 24)), (25, (u 25)), (26, (u 26)), (27, (u 27)), (28, (u 28)), (29, (u 29)), (30, (u 30)), (31, (u 31)), (32, (u 32)), (33, (u 33)), (34, (u 34)), (35, (u 35))]))))))
    (.call 39 [.slice none 0 0, .int .i64 x3] (.one (.sc (.sl))) fun l3 => -- slices_Grow_byte
     (.stop k_slices_Concat_byte_2 (t_slices_Concat_byte_2 Aa0 na0 ca0 ((l3 0).A) ((l3 0).n) ((l3 0).c) 0 (jl [(0, .slice Aa0 na0 ca0), (2, (u 2)), (3, .int .i64 x3), (5, (u 5)), (8, (u 8)), (9, .slice Aa0 na0 ca0), (10, .int .i64 ((na0 : Nat) : Int)), (11, .int .i64 x11), (12, .bool (decide ((x11 : Int) < ((na0 : Nat) : Int)))), (13, (u 13)), (14, (u 14)), (15, (u 15)), (16, (u 16)), (17, (u 17)), (18, (u 18)), (19, (u 19)), (20, (u 20)), (21, (u 21)), (22, (u 22)), (23, .int .i64 x3), (24, .slice ((l3 0).A) ((l3 0).n) ((l3 0).c)), (28, (u 28)), (29, (u 29)), (30, (u 30)), (31, (u 31)), (32, (u 32)), (33, (u 33)), (34, (u 34)), (35, (u 35))]))))) h) : Wp Try.prog 31 k_slices_Concat_byte_1 (t_slices_Concat_byte_1 Aa0 na0 ca0 x3 x11 u) I h Q :=
  of_tree (cfg := g_slices_Concat_byte) 1000 (by kernel_rfl) Try.func31 rfl Try.checked.mixed hh
set_option maxRecDepth 100000 in
theorem r_slices_Concat_byte_2 (Aa0 : Option Addr) (na0 : Nat) (ca0 : Nat) (A6 : Option Addr) (n6 : Nat) (c6 : Nat) (x27 : Int) (u : Nat → Value) {I : Ctx} {h : Mem} {Q : Value → Mem → Prop}
  (hh : holds Try.prog 31 I Q
   (.ite (decide ((x27 : Int) < ((na0 : Nat) : Int)))
    (.rd (Instr.indexAt 61 (.slice Aa0 na0 ca0) (.int .i64 x27)) (.one (.sc (.padr))) fun l4 =>
     (.rd (Instr.loadAt 26 (.pointer (some ((l4 0).a)))) (.one (.sc (.sl))) fun l5 =>
      (.nx (builtin .append #[26, 26] 26 #[false, false] #[.slice A6 n6 c6, .slice ((l5 0).A) ((l5 0).n) ((l5 0).c)]) (.one (.sc (.sl))) fun l6 =>
       (.stop k_slices_Concat_byte_2 (t_slices_Concat_byte_2 Aa0 na0 ca0 ((l6 0).A) ((l6 0).n) ((l6 0).c) (IntKind.wrap .i64 (x27 + 1)) (jl [(0, (u 0)), (2, (u 2)), (3, (u 3)), (5, (u 5)), (8, .slice ((l5 0).A) ((l5 0).n) ((l5 0).c)), (9, (u 9)), (10, (u 10)), (11, (u 11)), (12, (u 12)), (13, (u 13)), (14, (u 14)), (15, (u 15)), (16, (u 16)), (17, (u 17)), (18, (u 18)), (19, (u 19)), (20, (u 20)), (21, (u 21)), (22, (u 22)), (23, (u 23)), (24, (u 24)), (28, .bool (decide ((x27 : Int) < ((na0 : Nat) : Int)))), (29, .pointer (some ((l4 0).a))), (30, .slice ((l5 0).A) ((l5 0).n) ((l5 0).c)), (31, .slice A6 n6 c6), (32, .slice ((l5 0).A) ((l5 0).n) ((l5 0).c)), (33, .slice ((l6 0).A) ((l6 0).n) ((l6 0).c)), (34, .int .i64 (IntKind.wrap .i64 (x27 + 1))), (35, (u 35))]))))))
    (.done (.slice A6 n6 c6))) h) : Wp Try.prog 31 k_slices_Concat_byte_2 (t_slices_Concat_byte_2 Aa0 na0 ca0 A6 n6 c6 x27 u) I h Q :=
  of_tree (cfg := g_slices_Concat_byte) 1000 (by kernel_rfl) Try.func31 rfl Try.checked.mixed hh
/-! ### num_Put16: function 32 of Go -/
abbrev F_num_Put16 : FuncId := 32
noncomputable def c_num_Put16 : Code := (Try.f32.body).getD .skip
noncomputable def g_num_Put16 : Cfg := { sh := shs, fsh := fshs, results := [.tmp 2], hint := fun _ _ => none, ord := fun _ => none, pre := fun _ => [], un := fun _ _ _ => false }
set_option maxRecDepth 100000 in
theorem r_num_Put16 (a0 : Int) {I : Ctx} {h : Mem} {Q : Value → Mem → Prop}
  (hh : holds Try.prog 32 I (cl_ Q)
   (.call 38 [.int .u32 (IntKind.wrap .u32 a0), .int .i64 2] (.one (.sc (.sl))) fun l1 => -- num_put
    (.done (.slice ((l1 0).A) ((l1 0).n) ((l1 0).c)))) h) : Fn Try.prog 32 #[.int .u16 a0] I h Q :=
  Wp.fn (args := [.int .u16 a0]) Try.func32 rfl (by kernel_rfl) (of_tree (cfg := g_num_Put16) 1000 (by kernel_rfl) Try.func32 rfl Try.checked.mixed hh)
theorem ca_num_Put16 : callable Try.prog 32 := ⟨_, Try.func32, by kernel_rfl, by kernel_rfl⟩
/-! ### prefix_Mask: function 33 of Go -/
abbrev F_prefix_Mask : FuncId := 33
noncomputable def c_prefix_Mask : Code := (Try.f33.body).getD .skip
noncomputable def g_prefix_Mask : Cfg := { sh := shs, fsh := fshs, results := [.tmp 2], hint := fun r i => match r, i with | 1, 4 => some (true, .one (.sc (.int .u32))) | _, _ => none, ord := fun _ => none, pre := fun _ => [], un := fun _ _ _ => false }
set_option maxRecDepth 100000 in
theorem r_prefix_Mask (a0 : Int) {I : Ctx} {h : Mem} {Q : Value → Mem → Prop}
  (hh : holds Try.prog 33 I (cl_ Q)
   (.rdn (binN .shl 36 (.int .u32 4294967295) (.int .i64 (IntKind.wrap .i64 (32 - (if (if (32 : Int) < a0 then 32 else a0 : Int) > 0 then if (32 : Int) < a0 then 32 else a0 else 0))))) (.one (.sc (.int .u32))) fun l1 =>
    (.done (.int .u32 ((l1 0).i)))) h) : Fn Try.prog 33 #[.int .i64 a0] I h Q :=
  Wp.fn (args := [.int .i64 a0]) Try.func33 rfl (by kernel_rfl) (of_tree (cfg := g_prefix_Mask) 1000 (by kernel_rfl) Try.func33 rfl Try.checked.mixed hh)
theorem ca_prefix_Mask : callable Try.prog 33 := ⟨_, Try.func33, by kernel_rfl, by kernel_rfl⟩
/-! ### octroiref02_May: function 34 of Go -/
abbrev F_octroiref02_May : FuncId := 34
noncomputable def c_octroiref02_May : Code := (Try.f34.body).getD .skip
def p_octroiref02_May : Nat → List (List Nat) := fun r => match r with | 1 => [[], [0], [0, 1], [0, 1, 2], [0, 1, 2, 3], [0, 1, 2, 3, 4], [0, 1, 2, 3, 4, 5], [0, 1, 2, 3, 4, 5, 6], [0, 1, 2, 3, 4, 5, 6, 7], [0, 1, 2, 3, 4, 5, 6, 7, 8], [0, 1, 2, 3, 4, 5, 6, 7, 8, 9], [0, 1, 2, 3, 4, 5, 6, 7, 8], [0, 1, 2, 3, 4, 5, 6, 7, 8, 11], [0, 1, 2, 3, 4, 5, 6, 7, 8, 11, 12], [0, 1, 2, 3, 4, 5, 6, 7, 8, 9, 10, 11, 12, 13], [0, 1, 2, 3, 4, 5, 6, 7, 8], [0, 1, 2, 3, 4, 5, 6, 7, 8, 15], [0, 1, 2, 3, 4, 5, 6, 7, 8, 9, 10, 11, 12, 13, 14, 15, 16], [0, 1, 2, 3, 4, 5, 6, 7, 8, 9, 10, 11, 12, 13, 14, 15, 16, 17], [0, 1, 2, 3, 4, 5, 6, 7, 8, 9, 10, 11, 12, 13, 14, 15, 16, 17, 18]] | _ => []
noncomputable def g_octroiref02_May : Cfg := { sh := shs, fsh := fshs, results := [.tmp 2], hint := fun _ _ => none, ord := fun r => match r with | 1 => some [0, 1, 2, 3, 4, 5, 6, 7, 8, 9, 10, 11, 12, 15, 16, 13, 14, 17, 18, 19] | _ => none, pre := p_octroiref02_May, un := unOf p_octroiref02_May }
set_option maxRecDepth 100000 in
theorem r_octroiref02_May (a0_0 : Int) (a0_1 : Int) {I : Ctx} {h : Mem} {Q : Value → Mem → Prop}
  (hh : holds Try.prog 34 I (cl_ Q)
   (.sem (Instr.box 38 (.agg #[.int .u32 a0_0, .int .i64 a0_1])) shBlk fun l1 =>
    (.rd (Instr.loadAt 3 (.pointer (some ⟨(l1 0).n, 1, none⟩))) (.one (.sc (.int .i64))) fun l2 =>
     (.ite (decide (((l2 0).i : Int) ≥ 0))
      (.rd (Instr.loadAt 3 (.pointer (some ⟨(l1 0).n, 1, none⟩))) (.one (.sc (.int .i64))) fun l3 =>
       (.ite (decide (((l3 0).i : Int) ≤ 32))
        (.rd (Instr.loadAt 36 (.pointer (some ⟨(l1 0).n, 0, none⟩))) (.one (.sc (.int .u32))) fun l4 =>
         (.rd (Instr.loadAt 3 (.pointer (some ⟨(l1 0).n, 1, none⟩))) (.one (.sc (.int .i64))) fun l5 =>
          (.rd (Instr.loadAt 36 (.pointer (some ⟨(l1 0).n, 0, none⟩))) (.one (.sc (.int .u32))) fun l6 =>
           (.call 24 [.int .i64 ((l5 0).i)] (.one (.sc (.int .u32))) fun l7 => -- octroiref02_Mask
            (.pin (vN (Instr.loadAt 36 (.pointer (some ⟨(l1 0).n, 0, none⟩)))) (.int .u32 ((l6 0).i))
             (.pin (vN (Instr.loadAt 36 (.pointer (some ⟨(l1 0).n, 0, none⟩)))) (.int .u32 ((l4 0).i))
              (.done (.bool ((bitop .and .u32 ((l4 0).i) ((l7 0).i) : Int) == ((l6 0).i))))))))))
        (.done (.bool false))))
      (.done (.bool false))))) h) : Fn Try.prog 34 #[.agg #[.int .u32 a0_0, .int .i64 a0_1]] I h Q :=
  Wp.fn (args := [.agg #[.int .u32 a0_0, .int .i64 a0_1]]) Try.func34 rfl (by kernel_rfl) (of_tree (cfg := g_octroiref02_May) 1000 (by kernel_rfl) Try.func34 rfl Try.checked.mixed hh)
theorem ca_octroiref02_May : callable Try.prog 34 := ⟨_, Try.func34, by kernel_rfl, by kernel_rfl⟩
/-! ### rippkt_get: function 35 of Go -/
abbrev F_rippkt_get : FuncId := 35
noncomputable def c_rippkt_get : Code := (Try.f35.body).getD .skip
def p_rippkt_get : Nat → List (List Nat) := fun r => match r with | 8 => [[], [], [1], [1, 2], [1, 2, 3], [1, 2, 3, 4], [1, 2, 3, 4, 5], [1, 2, 3, 4, 5, 6], [1, 2, 3, 4, 5, 6, 7], [1, 2, 3, 4, 5, 6, 7, 8], [1, 2, 3, 4, 5, 6, 7, 8, 9], [1, 2, 3, 4, 5, 6, 7, 8, 9, 10], [1, 2, 3, 4, 5, 6, 7, 8, 9, 10, 11], [1, 2, 3, 4, 5, 6, 7, 8, 9, 10, 11, 12], [1, 2, 3, 4, 5, 6, 7, 8, 9, 10, 11, 12, 13], [1, 2, 3, 4, 5, 6, 7, 8, 9, 10, 11, 12, 13, 14], [1, 2, 3, 4, 5, 6, 7, 8, 9, 10, 11, 12, 13, 14, 15], [1, 2, 3, 4, 5, 6, 7, 8, 9, 10, 11, 12, 13, 14, 15, 16], [0, 1, 2, 3, 4, 5, 6, 7, 8, 9, 10, 11, 12], [0, 1, 2, 3, 4, 5, 6, 7, 8, 9, 10, 11, 12, 13, 14, 15, 16, 17, 18]] | _ => []
noncomputable def g_rippkt_get : Cfg := { sh := shs, fsh := fshs, results := [.cell 2 41, .tmp 3], hint := fun _ _ => none, ord := fun r => match r with | 8 => some [0, 1, 2, 3, 4, 5, 6, 7, 8, 9, 10, 11, 12, 13, 14, 15, 16, 17, 18, 19] | _ => none, pre := p_rippkt_get, un := unOf p_rippkt_get }
set_option maxRecDepth 100000 in
theorem r_rippkt_get (Aa0 : Option Addr) (na0 : Nat) (ca0 : Nat) {I : Ctx} {h : Mem} {Q : Value → Mem → Prop}
  (hh : holds Try.prog 35 I (cl_ Q)
   (.sem (Instr.alloc 41 true (.tuple #[])) shBlk fun l1 =>
    (.call 40 [.slice Aa0 na0 ca0, .int .i64 8] (.tup [(.sc (.int .u32)), (.sc (.bool))]) fun l2 => -- num_Get32
     (.call 40 [.slice Aa0 na0 ca0, .int .i64 16] (.tup [(.sc (.int .u32)), (.sc (.bool))]) fun l3 => -- num_Get32
      (.call 41 [.slice Aa0 na0 ca0, .int .i64 2] (.tup [(.sc (.int .u16)), (.sc (.bool))]) fun l4 => -- num_Get16
       (.unit (Instr.storeAt 39 (.pointer (some ⟨(l1 0).n, 2, none⟩)) (.int .u16 ((l4 0).i)))
        (.call 40 [.slice Aa0 na0 ca0, .int .i64 4] (.tup [(.sc (.int .u32)), (.sc (.bool))]) fun l5 => -- num_Get32
         (.unit (Instr.storeAt 36 (.pointer (some ⟨(l1 0).n, 0, none⟩)) (.int .u32 ((l5 0).i)))
          (.call 42 [.int .u32 ((l2 0).i)] (.tup [(.sc (.int .i64)), (.sc (.bool))]) fun l6 => -- prefix_Bits
           (.unit (Instr.storeAt 3 (.pointer (some ⟨(l1 0).n, 1, none⟩)) (.int .i64 ((l6 0).i)))
            (.call 40 [.slice Aa0 na0 ca0, .int .i64 12] (.tup [(.sc (.int .u32)), (.sc (.bool))]) fun l7 => -- num_Get32
             (.unit (Instr.storeAt 36 (.pointer (some ⟨(l1 0).n, 3, none⟩)) (.int .u32 ((l7 0).i)))
              (.unit (Instr.storeAt 3 (.pointer (some ⟨(l1 0).n, 4, none⟩)) (.int .i64 (IntKind.wrap .i64 ((l3 0).i))))
               (.rd (Instr.loadAt 41 (.pointer (some ⟨(l1 0).n, 0, none⟩))) (.one (.agg [.int .u32, .int .i64, .int .u16, .int .u32, .int .i64])) fun l8 =>
                (.ite ((l6 1).b)
                 (.rd (Instr.loadAt 41 (.pointer (some ⟨(l1 0).n, 0, none⟩))) (.one (.agg [.int .u32, .int .i64, .int .u16, .int .u32, .int .i64])) fun l9 =>
                  (.call 17 [.agg #[.int .u32 ((l9 0).i), .int .i64 ((l9 1).i), .int .u16 ((l9 2).i), .int .u32 ((l9 3).i), .int .i64 ((l9 4).i)]] (.one (.sc (.bool))) fun l10 => -- rippkt_may
                   (.pin (vN (Instr.loadAt 41 (.pointer (some ⟨(l1 0).n, 0, none⟩)))) (.agg #[.int .u32 ((l8 0).i), .int .i64 ((l8 1).i), .int .u16 ((l8 2).i), .int .u32 ((l8 3).i), .int .i64 ((l8 4).i)])
                    (.ite ((l10 0).b)
                     (.rd (Instr.indexAt 26 (.slice Aa0 na0 ca0) (.int .i64 0)) (.one (.sc (.padr))) fun l11 =>
                      (.rd (Instr.loadAt 5 (.pointer (some ((l11 0).a)))) (.one (.sc (.int .u8))) fun l12 =>
                       (.ite (((l12 0).i : Int) == 0)
                        (.rd (Instr.indexAt 26 (.slice Aa0 na0 ca0) (.int .i64 1)) (.one (.sc (.padr))) fun l13 =>
                         (.rd (Instr.loadAt 5 (.pointer (some ((l13 0).a)))) (.one (.sc (.int .u8))) fun l14 =>
                          (.unit (Instr.storeAt 41 (.pointer (some ⟨(l1 0).n, 0, none⟩)) (.agg #[.int .u32 ((l8 0).i), .int .i64 ((l8 1).i), .int .u16 ((l8 2).i), .int .u32 ((l8 3).i), .int .i64 ((l8 4).i)]))
                           (.pin (vN (Instr.loadAt 5 (.pointer (some ((l13 0).a))))) (.int .u8 ((l14 0).i))
                            (.pin (vN (Instr.indexAt 26 (.slice Aa0 na0 ca0) (.int .i64 1))) (.pointer (some ((l13 0).a)))
                             (.rd (loadVar 41 ⟨(l1 0).n, 0, none⟩) (.one (.agg [.int .u32, .int .i64, .int .u16, .int .u32, .int .i64])) fun l15 =>
                              (.done (.tuple #[.agg #[.int .u32 ((l15 0).i), .int .i64 ((l15 1).i), .int .u16 ((l15 2).i), .int .u32 ((l15 3).i), .int .i64 ((l15 4).i)], .bool (((l14 0).i : Int) == 2)]))))))))
                        (.unit (Instr.storeAt 41 (.pointer (some ⟨(l1 0).n, 0, none⟩)) (.agg #[.int .u32 ((l8 0).i), .int .i64 ((l8 1).i), .int .u16 ((l8 2).i), .int .u32 ((l8 3).i), .int .i64 ((l8 4).i)]))
                         (.rd (loadVar 41 ⟨(l1 0).n, 0, none⟩) (.one (.agg [.int .u32, .int .i64, .int .u16, .int .u32, .int .i64])) fun l16 =>
                          (.done (.tuple #[.agg #[.int .u32 ((l16 0).i), .int .i64 ((l16 1).i), .int .u16 ((l16 2).i), .int .u32 ((l16 3).i), .int .i64 ((l16 4).i)], .bool false])))))))
                     (.unit (Instr.storeAt 41 (.pointer (some ⟨(l1 0).n, 0, none⟩)) (.agg #[.int .u32 ((l8 0).i), .int .i64 ((l8 1).i), .int .u16 ((l8 2).i), .int .u32 ((l8 3).i), .int .i64 ((l8 4).i)]))
                      (.rd (loadVar 41 ⟨(l1 0).n, 0, none⟩) (.one (.agg [.int .u32, .int .i64, .int .u16, .int .u32, .int .i64])) fun l17 =>
                       (.done (.tuple #[.agg #[.int .u32 ((l17 0).i), .int .i64 ((l17 1).i), .int .u16 ((l17 2).i), .int .u32 ((l17 3).i), .int .i64 ((l17 4).i)], .bool false]))))))))
                 (.unit (Instr.storeAt 41 (.pointer (some ⟨(l1 0).n, 0, none⟩)) (.agg #[.int .u32 ((l8 0).i), .int .i64 ((l8 1).i), .int .u16 ((l8 2).i), .int .u32 ((l8 3).i), .int .i64 ((l8 4).i)]))
                  (.rd (loadVar 41 ⟨(l1 0).n, 0, none⟩) (.one (.agg [.int .u32, .int .i64, .int .u16, .int .u32, .int .i64])) fun l18 =>
                   (.done (.tuple #[.agg #[.int .u32 ((l18 0).i), .int .i64 ((l18 1).i), .int .u16 ((l18 2).i), .int .u32 ((l18 3).i), .int .i64 ((l18 4).i)], .bool false])))))))))))))))))) h) : Fn Try.prog 35 #[.slice Aa0 na0 ca0] I h Q :=
  Wp.fn (args := [.slice Aa0 na0 ca0]) Try.func35 rfl (by kernel_rfl) (of_tree (cfg := g_rippkt_get) 1000 (by kernel_rfl) Try.func35 rfl Try.checked.mixed hh)
theorem ca_rippkt_get : callable Try.prog 35 := ⟨_, Try.func35, by kernel_rfl, by kernel_rfl⟩
/-! ### octroiref01_Get: function 36 of Go -/
abbrev F_octroiref01_Get : FuncId := 36
noncomputable def c_octroiref01_Get : Code := (Try.f36.body).getD .skip
noncomputable def g_octroiref01_Get : Cfg := { sh := shs, fsh := fshs, results := [.tmp 6, .tmp 7], hint := fun _ _ => none, ord := fun _ => none, pre := fun _ => [], un := fun _ _ _ => false }
noncomputable def k_octroiref01_Get_1 : List Item := [.code (bd (bd (sr (sl (sr (sr (sr c_octroiref01_Get))))))), .inLoop (bd (bd (sr (sl (sr (sr (sr c_octroiref01_Get))))))), .inBlock 0, .code (sr (sr (sr (sr c_octroiref01_Get))))]
noncomputable def t_octroiref01_Get_1 (Aa0 : Option Addr) (na0 : Nat) (ca0 : Nat) (a1 : Int) (a2 : Int) (x8 : Int) (x9 : Int) (u : Nat → Value) : List Value := [.slice Aa0 na0 ca0, .int .i64 a1, .int .i64 a2, undef, undef, undef, (u 6), (u 7), .int .u32 x8, .int .i64 x9, (u 10), (u 11), (u 12), (u 13), (u 14), (u 15), (u 16), (u 17), (u 18), (u 19), (u 20), (u 21), (u 22), (u 23), (u 24), (u 25), (u 26), (u 27), (u 28), (u 29), (u 30), (u 31), (u 32), (u 33), (u 34), (u 35), (u 36), (u 37), (u 38), (u 39), (u 40), (u 41)]
set_option maxRecDepth 100000 in
theorem r_octroiref01_Get (Aa0 : Option Addr) (na0 : Nat) (ca0 : Nat) (a1 : Int) (a2 : Int) {I : Ctx} {h : Mem} {Q : Value → Mem → Prop}
  (hh : holds Try.prog 36 I (cl_ Q)
   (.ite (decide ((a1 : Int) < 0))
    (.done (.tuple #[.int .u32 0, .bool false]))
    (.ite (decide ((a1 : Int) > ((na0 : Nat) : Int)))
     (.done (.tuple #[.int .u32 0, .bool false]))
     (.ite (decide ((IntKind.wrap .i64 (((na0 : Nat) : Int) - a1) : Int) < a2))
      (.done (.tuple #[.int .u32 0, .bool false]))
      (.stop k_octroiref01_Get_1 (t_octroiref01_Get_1 Aa0 na0 ca0 a1 a2 0 0 (jl [(6, .int .u32 0), (7, .bool false), (10, .int .i64 a1), (11, .bool (decide ((a1 : Int) < 0))), (12, .bool false), (13, .int .i64 a1), (14, .slice Aa0 na0 ca0), (15, .int .i64 ((na0 : Nat) : Int)), (16, .bool (decide ((a1 : Int) > ((na0 : Nat) : Int)))), (17, .bool (decide ((a1 : Int) > ((na0 : Nat) : Int)))), (18, .bool false), (19, .slice Aa0 na0 ca0), (20, .int .i64 ((na0 : Nat) : Int)), (21, .int .i64 a1), (22, .int .i64 (IntKind.wrap .i64 (((na0 : Nat) : Int) - a1))), (23, .int .i64 a2), (24, .bool (decide ((IntKind.wrap .i64 (((na0 : Nat) : Int) - a1) : Int) < a2))), (25, .bool (decide ((IntKind.wrap .i64 (((na0 : Nat) : Int) - a1) : Int) < a2))), (26, undef), (27, undef), (28, undef), (29, undef), (30, undef), (31, undef), (32, undef), (33, undef), (34, undef), (35, undef), (36, undef), (37, undef), (38, undef), (39, undef), (40, undef), (41, undef)])))))) h) : Fn Try.prog 36 #[.slice Aa0 na0 ca0, .int .i64 a1, .int .i64 a2] I h Q :=
  Wp.fn (args := [.slice Aa0 na0 ca0, .int .i64 a1, .int .i64 a2]) Try.func36 rfl (by kernel_rfl) (of_tree (cfg := g_octroiref01_Get) 1000 (by kernel_rfl) Try.func36 rfl Try.checked.mixed hh)
theorem ca_octroiref01_Get : callable Try.prog 36 := ⟨_, Try.func36, by kernel_rfl, by kernel_rfl⟩
set_option maxRecDepth 100000 in
theorem r_octroiref01_Get_1 (Aa0 : Option Addr) (na0 : Nat) (ca0 : Nat) (a1 : Int) (a2 : Int) (x8 : Int) (x9 : Int) (u : Nat → Value) {I : Ctx} {h : Mem} {Q : Value → Mem → Prop}
  (hh : holds Try.prog 36 I Q
   (.ite (decide ((x9 : Int) < a2))
    (.rd (Instr.indexAt 26 (.slice Aa0 na0 ca0) (.int .i64 (IntKind.wrap .i64 (a1 + x9)))) (.one (.sc (.padr))) fun l1 =>
     (.rd (Instr.loadAt 5 (.pointer (some ((l1 0).a)))) (.one (.sc (.int .u8))) fun l2 =>
      (.stop k_octroiref01_Get_1 (t_octroiref01_Get_1 Aa0 na0 ca0 a1 a2 (IntKind.wrap .u32 ((IntKind.wrap .u32 (x8 * 256)) + (IntKind.wrap .u32 ((l2 0).i)))) (IntKind.wrap .i64 (x9 + 1)) (jl [(6, (u 6)), (7, (u 7)), (10, (u 10)), (11, (u 11)), (12, (u 12)), (13, (u 13)), (14, (u 14)), (15, (u 15)), (16, (u 16)), (17, (u 17)), (18, (u 18)), (19, (u 19)), (20, (u 20)), (21, (u 21)), (22, (u 22)), (23, (u 23)), (24, (u 24)), (25, (u 25)), (26, .int .i64 x9), (27, .int .i64 a2), (28, .bool (decide ((x9 : Int) < a2))), (29, .int .i64 x9), (30, .int .i64 (IntKind.wrap .i64 (x9 + 1))), (31, .int .u32 x8), (32, .int .u32 (IntKind.wrap .u32 (x8 * 256))), (33, .slice Aa0 na0 ca0), (34, .int .i64 a1), (35, .int .i64 x9), (36, .int .i64 (IntKind.wrap .i64 (a1 + x9))), (37, .pointer (some ((l1 0).a))), (38, .int .u8 ((l2 0).i)), (39, .int .u32 (IntKind.wrap .u32 ((l2 0).i))), (40, .int .u32 (IntKind.wrap .u32 ((IntKind.wrap .u32 (x8 * 256)) + (IntKind.wrap .u32 ((l2 0).i))))), (41, (u 41))])))))
    (.done (.tuple #[.int .u32 x8, .bool true]))) h) : Wp Try.prog 36 k_octroiref01_Get_1 (t_octroiref01_Get_1 Aa0 na0 ca0 a1 a2 x8 x9 u) I h Q :=
  of_tree (cfg := g_octroiref01_Get) 1000 (by kernel_rfl) Try.func36 rfl Try.checked.mixed hh
/-! ### octroiref02_Bits: function 37 of Go -/
abbrev F_octroiref02_Bits : FuncId := 37
noncomputable def c_octroiref02_Bits : Code := (Try.f37.body).getD .skip
noncomputable def g_octroiref02_Bits : Cfg := { sh := shs, fsh := fshs, results := [.tmp 2, .tmp 3], hint := fun _ _ => none, ord := fun _ => none, pre := fun _ => [], un := fun _ _ _ => false }
noncomputable def k_octroiref02_Bits_1 : List Item := [.code (bd (bd (sr (sl (sr c_octroiref02_Bits))))), .inLoop (bd (bd (sr (sl (sr c_octroiref02_Bits))))), .inBlock 0, .code (sr (sr c_octroiref02_Bits))]
noncomputable def t_octroiref02_Bits_1 (a0 : Int) (x4 : Int) (u : Nat → Value) : List Value := [.int .u32 a0, undef, (u 2), (u 3), .int .i64 x4, (u 5), (u 6), (u 7), (u 8), (u 9), (u 10), (u 11), (u 12), (u 13)]
set_option maxRecDepth 100000 in
theorem r_octroiref02_Bits (a0 : Int) {I : Ctx} {h : Mem} {Q : Value → Mem → Prop}
  (hh : holds Try.prog 37 I (cl_ Q)
   (.stop k_octroiref02_Bits_1 (t_octroiref02_Bits_1 a0 0 (jl [(2, .int .i64 0), (3, .bool false), (5, undef), (6, undef), (7, undef), (8, undef), (9, undef), (10, undef), (11, undef), (12, undef), (13, undef)]))) h) : Fn Try.prog 37 #[.int .u32 a0] I h Q :=
  Wp.fn (args := [.int .u32 a0]) Try.func37 rfl (by kernel_rfl) (of_tree (cfg := g_octroiref02_Bits) 1000 (by kernel_rfl) Try.func37 rfl Try.checked.mixed hh)
theorem ca_octroiref02_Bits : callable Try.prog 37 := ⟨_, Try.func37, by kernel_rfl, by kernel_rfl⟩
set_option maxRecDepth 100000 in
theorem r_octroiref02_Bits_1 (a0 : Int) (x4 : Int) (u : Nat → Value) {I : Ctx} {h : Mem} {Q : Value → Mem → Prop}
  (hh : holds Try.prog 37 I Q
   (.ite (decide ((x4 : Int) ≤ 32))
    (.call 24 [.int .i64 x4] (.one (.sc (.int .u32))) fun l1 => -- octroiref02_Mask
     (.ite (((l1 0).i : Int) == a0)
      (.done (.tuple #[.int .i64 x4, .bool true]))
      (.stop k_octroiref02_Bits_1 (t_octroiref02_Bits_1 a0 (IntKind.wrap .i64 (x4 + 1)) (jl [(2, (u 2)), (3, (u 3)), (5, .int .i64 x4), (6, .bool (decide ((x4 : Int) ≤ 32))), (7, .int .i64 x4), (8, .int .i64 (IntKind.wrap .i64 (x4 + 1))), (9, .int .i64 x4), (10, .int .u32 ((l1 0).i)), (11, .int .u32 a0), (12, .bool (((l1 0).i : Int) == a0)), (13, (u 13))])))))
    (.done (.tuple #[.int .i64 0, .bool false]))) h) : Wp Try.prog 37 k_octroiref02_Bits_1 (t_octroiref02_Bits_1 a0 x4 u) I h Q :=
  of_tree (cfg := g_octroiref02_Bits) 1000 (by kernel_rfl) Try.func37 rfl Try.checked.mixed hh
/-! ### num_put: function 38 of Go -/
abbrev F_num_put : FuncId := 38
noncomputable def c_num_put : Code := (Try.f38.body).getD .skip
noncomputable def g_num_put : Cfg := { sh := shs, fsh := fshs, results := [.tmp 4], hint := fun r i => match r, i with | 5, 8 => some (true, .one (.sc (.int .u32))) | _, _ => none, ord := fun _ => none, pre := fun _ => [], un := fun _ _ _ => false }
noncomputable def k_num_put_1 : List Item := [.code (bd (bd (sr (sl (sr (sr c_num_put)))))), .inLoop (bd (bd (sr (sl (sr (sr c_num_put)))))), .inBlock 0, .code (sr (sr (sr c_num_put)))]
noncomputable def t_num_put_1 (a0 : Int) (a1 : Int) (Ay5 : Option Addr) (ny5 : Nat) (cy5 : Nat) (x10 : Int) (u : Nat → Value) : List Value := [.int .u32 a0, .int .i64 a1, undef, undef, (u 4), .slice Ay5 ny5 cy5, (u 6), (u 7), (u 8), .int .i64 a1, .int .i64 x10, (u 11), (u 12), (u 13), (u 14), (u 15), (u 16), (u 17), (u 18), (u 19), (u 20), (u 21), (u 22), (u 23), (u 24), (u 25)]
set_option maxRecDepth 100000 in
theorem r_num_put (a0 : Int) (a1 : Int) {I : Ctx} {h : Mem} {Q : Value → Mem → Prop}
  (hh : holds Try.prog 38 I (cl_ Q)
   (.sem (Instr.makeSlice 26 (.int .i64 a1) (.int .i64 a1)) (.one (.sc (.sl))) fun l1 =>
    (.stop k_num_put_1 (t_num_put_1 a0 a1 ((l1 0).A) ((l1 0).n) ((l1 0).c) 0 (jl [(4, .slice none 0 0), (6, undef), (7, .int .i64 a1), (8, .slice ((l1 0).A) ((l1 0).n) ((l1 0).c)), (11, undef), (12, undef), (13, undef), (14, undef), (15, undef), (16, undef), (17, undef), (18, undef), (19, undef), (20, undef), (21, undef), (22, undef), (23, undef), (24, undef), (25, undef)])))) h) : Fn Try.prog 38 #[.int .u32 a0, .int .i64 a1] I h Q :=
  Wp.fn (args := [.int .u32 a0, .int .i64 a1]) Try.func38 rfl (by kernel_rfl) (of_tree (cfg := g_num_put) 1000 (by kernel_rfl) Try.func38 rfl Try.checked.mixed hh)
theorem ca_num_put : callable Try.prog 38 := ⟨_, Try.func38, by kernel_rfl, by kernel_rfl⟩
set_option maxRecDepth 100000 in
theorem r_num_put_1 (a0 : Int) (a1 : Int) (Ay5 : Option Addr) (ny5 : Nat) (cy5 : Nat) (x10 : Int) (u : Nat → Value) {I : Ctx} {h : Mem} {Q : Value → Mem → Prop}
  (hh : holds Try.prog 38 I Q
   (.ite (decide ((x10 : Int) < a1))
    (.rdn (binN .shr 36 (.int .u32 a0) (.int .i64 (IntKind.wrap .i64 (8 * x10)))) (.one (.sc (.int .u32))) fun l2 =>
     (.rd (Instr.indexAt 26 (.slice Ay5 ny5 cy5) (.int .i64 (IntKind.wrap .i64 ((IntKind.wrap .i64 (a1 - 1)) - x10)))) (.one (.sc (.padr))) fun l3 =>
      (.unit (Instr.storeAt 5 (.pointer (some ((l3 0).a))) (.int .u8 (IntKind.wrap .u8 ((l2 0).i))))
       (.stop k_num_put_1 (t_num_put_1 a0 a1 Ay5 ny5 cy5 (IntKind.wrap .i64 (x10 + 1)) (jl [(4, (u 4)), (6, .int .i64 x10), (7, (u 7)), (8, (u 8)), (11, .bool (decide ((x10 : Int) < a1))), (12, .int .i64 x10), (13, .slice Ay5 ny5 cy5), (14, .int .i64 a1), (15, .int .i64 (IntKind.wrap .i64 (a1 - 1))), (16, .int .i64 x10), (17, .int .i64 (IntKind.wrap .i64 ((IntKind.wrap .i64 (a1 - 1)) - x10))), (18, .int .u32 a0), (19, .int .i64 x10), (20, .int .i64 (IntKind.wrap .i64 (8 * x10))), (21, .int .u32 ((l2 0).i)), (22, .int .u8 (IntKind.wrap .u8 ((l2 0).i))), (23, .pointer (some ((l3 0).a))), (24, .int .i64 (IntKind.wrap .i64 (x10 + 1))), (25, (u 25))]))))))
    (.done (.slice Ay5 ny5 cy5))) h) : Wp Try.prog 38 k_num_put_1 (t_num_put_1 a0 a1 Ay5 ny5 cy5 x10 u) I h Q :=
  of_tree (cfg := g_num_put) 1000 (by kernel_rfl) Try.func38 rfl Try.checked.mixed hh
/-! ### slices_Grow_byte: function 39 of Go -/
abbrev F_slices_Grow_byte : FuncId := 39
noncomputable def c_slices_Grow_byte : Code := (Try.f39.body).getD .skip
noncomputable def g_slices_Grow_byte : Cfg := { sh := shs, fsh := fshs, results := [.tmp 4], hint := fun _ _ => none, ord := fun _ => none, pre := fun _ => [], un := fun _ _ _ => false }
set_option maxRecDepth 100000 in
theorem r_slices_Grow_byte (Aa0 : Option Addr) (na0 : Nat) (ca0 : Nat) (a1 : Int) {I : Ctx} {h : Mem} {Q : Value → Mem → Prop}
  (hh : holds Try.prog 39 I (cl_ Q)
   (.ite (decide ((a1 : Int) < 0))
    (.stuck)
    (.ite (decide ((IntKind.wrap .i64 (a1 - (IntKind.wrap .i64 (((ca0 : Nat) : Int) - ((na0 : Nat) : Int)))) : Int) > 0))
     (.rd (Instr.sliceAt 26 (.slice Aa0 na0 ca0) none (some (.int .i64 ((ca0 : Nat) : Int))) none) (.one (.sc (.sl))) fun l1 =>
      (.nx (builtin .append #[26, 3] 26 #[false, false] #[.slice ((l1 0).A) ((l1 0).n) ((l1 0).c), .int .i64 (IntKind.wrap .i64 (a1 - (IntKind.wrap .i64 (((ca0 : Nat) : Int) - ((na0 : Nat) : Int)))))]) (.one (.sc (.sl))) fun l2 =>
       (.rd (Instr.sliceAt 26 (.slice ((l2 0).A) ((l2 0).n) ((l2 0).c)) none (some (.int .i64 ((na0 : Nat) : Int))) none) (.one (.sc (.sl))) fun l3 =>
        (.done (.slice ((l3 0).A) ((l3 0).n) ((l3 0).c))))))
     (.done (.slice Aa0 na0 ca0)))) h) : Fn Try.prog 39 #[.slice Aa0 na0 ca0, .int .i64 a1] I h Q :=
  Wp.fn (args := [.slice Aa0 na0 ca0, .int .i64 a1]) Try.func39 rfl (by kernel_rfl) (of_tree (cfg := g_slices_Grow_byte) 1000 (by kernel_rfl) Try.func39 rfl Try.checked.mixed hh)
theorem ca_slices_Grow_byte : callable Try.prog 39 := ⟨_, Try.func39, by kernel_rfl, by kernel_rfl⟩
/-! ### num_Get32: function 40 of Go -/
abbrev F_num_Get32 : FuncId := 40
noncomputable def c_num_Get32 : Code := (Try.f40.body).getD .skip
noncomputable def g_num_Get32 : Cfg := { sh := shs, fsh := fshs, results := [.tmp 4, .tmp 5], hint := fun _ _ => none, ord := fun _ => none, pre := fun _ => [], un := fun _ _ _ => false }
set_option maxRecDepth 100000 in
theorem r_num_Get32 (Aa0 : Option Addr) (na0 : Nat) (ca0 : Nat) (a1 : Int) {I : Ctx} {h : Mem} {Q : Value → Mem → Prop}
  (hh : holds Try.prog 40 I (cl_ Q)
   (.call 43 [.slice Aa0 na0 ca0, .int .i64 a1, .int .i64 4] (.tup [(.sc (.int .u32)), (.sc (.bool))]) fun l1 => -- num_get
    (.done (.tuple #[.int .u32 ((l1 0).i), .bool ((l1 1).b)]))) h) : Fn Try.prog 40 #[.slice Aa0 na0 ca0, .int .i64 a1] I h Q :=
  Wp.fn (args := [.slice Aa0 na0 ca0, .int .i64 a1]) Try.func40 rfl (by kernel_rfl) (of_tree (cfg := g_num_Get32) 1000 (by kernel_rfl) Try.func40 rfl Try.checked.mixed hh)
theorem ca_num_Get32 : callable Try.prog 40 := ⟨_, Try.func40, by kernel_rfl, by kernel_rfl⟩
/-! ### num_Get16: function 41 of Go -/
abbrev F_num_Get16 : FuncId := 41
noncomputable def c_num_Get16 : Code := (Try.f41.body).getD .skip
noncomputable def g_num_Get16 : Cfg := { sh := shs, fsh := fshs, results := [.tmp 4, .tmp 5], hint := fun _ _ => none, ord := fun _ => none, pre := fun _ => [], un := fun _ _ _ => false }
set_option maxRecDepth 100000 in
theorem r_num_Get16 (Aa0 : Option Addr) (na0 : Nat) (ca0 : Nat) (a1 : Int) {I : Ctx} {h : Mem} {Q : Value → Mem → Prop}
  (hh : holds Try.prog 41 I (cl_ Q)
   (.call 43 [.slice Aa0 na0 ca0, .int .i64 a1, .int .i64 2] (.tup [(.sc (.int .u32)), (.sc (.bool))]) fun l1 => -- num_get
    (.done (.tuple #[.int .u16 (IntKind.wrap .u16 ((l1 0).i)), .bool ((l1 1).b)]))) h) : Fn Try.prog 41 #[.slice Aa0 na0 ca0, .int .i64 a1] I h Q :=
  Wp.fn (args := [.slice Aa0 na0 ca0, .int .i64 a1]) Try.func41 rfl (by kernel_rfl) (of_tree (cfg := g_num_Get16) 1000 (by kernel_rfl) Try.func41 rfl Try.checked.mixed hh)
theorem ca_num_Get16 : callable Try.prog 41 := ⟨_, Try.func41, by kernel_rfl, by kernel_rfl⟩
/-! ### prefix_Bits: function 42 of Go -/
abbrev F_prefix_Bits : FuncId := 42
noncomputable def c_prefix_Bits : Code := (Try.f42.body).getD .skip
noncomputable def g_prefix_Bits : Cfg := { sh := shs, fsh := fshs, results := [.tmp 2, .tmp 3], hint := fun _ _ => none, ord := fun _ => none, pre := fun _ => [], un := fun _ _ _ => false }
set_option maxRecDepth 100000 in
theorem r_prefix_Bits (a0 : Int) {I : Ctx} {h : Mem} {Q : Value → Mem → Prop}
  (hh : holds Try.prog 42 I (cl_ Q)
   (.call 44 [.int .u32 (bitop .xor .u32 (IntKind.max .u32) a0)] (.one (.sc (.int .i64))) fun l1 => -- math_bits_LeadingZeros32
    (.call 33 [.int .i64 ((l1 0).i)] (.one (.sc (.int .u32))) fun l2 => -- prefix_Mask
     (.ite (((l2 0).i : Int) != a0)
      (.done (.tuple #[.int .i64 0, .bool false]))
      (.done (.tuple #[.int .i64 ((l1 0).i), .bool true]))))) h) : Fn Try.prog 42 #[.int .u32 a0] I h Q :=
  Wp.fn (args := [.int .u32 a0]) Try.func42 rfl (by kernel_rfl) (of_tree (cfg := g_prefix_Bits) 1000 (by kernel_rfl) Try.func42 rfl Try.checked.mixed hh)
theorem ca_prefix_Bits : callable Try.prog 42 := ⟨_, Try.func42, by kernel_rfl, by kernel_rfl⟩
/-! ### num_get: function 43 of Go -/
abbrev F_num_get : FuncId := 43
noncomputable def c_num_get : Code := (Try.f43.body).getD .skip
noncomputable def g_num_get : Cfg := { sh := shs, fsh := fshs, results := [.tmp 6, .tmp 7], hint := fun _ _ => none, ord := fun _ => none, pre := fun _ => [], un := fun _ _ _ => false }
noncomputable def k_num_get_1 : List Item := [.code (bd (bd (sr (sl (sr (sr c_num_get)))))), .inLoop (bd (bd (sr (sl (sr (sr c_num_get)))))), .inBlock 0, .code (sr (sr (sr c_num_get)))]
noncomputable def t_num_get_1 (Ay25 : Option Addr) (ny25 : Nat) (cy25 : Nat) (y26 : Int) (x6 : Int) (x27 : Int) (u : Nat → Value) : List Value := [(u 0), (u 1), (u 2), undef, undef, undef, .int .u32 x6, (u 7), undef, (u 9), (u 10), (u 11), (u 12), (u 13), (u 14), (u 15), (u 16), (u 17), (u 18), (u 19), (u 20), (u 21), (u 22), (u 23), (u 24), .slice Ay25 ny25 cy25, .int .i64 y26, .int .i64 x27, (u 28), (u 29), (u 30), (u 31), (u 32), (u 33), (u 34), (u 35), (u 36), (u 37)]
set_option maxRecDepth 100000 in
theorem r_num_get (Aa0 : Option Addr) (na0 : Nat) (ca0 : Nat) (a1 : Int) (a2 : Int) {I : Ctx} {h : Mem} {Q : Value → Mem → Prop}
  (hh : holds Try.prog 43 I (cl_ Q)
   (.ite (decide ((a1 : Int) < 0))
    (.done (.tuple #[.int .u32 0, .bool false]))
    (.ite (decide ((a1 : Int) > (IntKind.wrap .i64 (((na0 : Nat) : Int) - a2))))
     (.done (.tuple #[.int .u32 0, .bool false]))
     (.rd (Instr.sliceAt 26 (.slice Aa0 na0 ca0) (some (.int .i64 a1)) (some (.int .i64 (IntKind.wrap .i64 (a1 + a2)))) none) (.one (.sc (.sl))) fun l1 =>
      (.stop k_num_get_1 (t_num_get_1 ((l1 0).A) ((l1 0).n) ((l1 0).c) (((l1 0).n : Nat) : Int) 0 0 (jl [(0, .slice Aa0 na0 ca0), (1, .int .i64 a1), (2, .int .i64 a2), (7, .bool false), (9, undef), (10, .int .i64 a1), (11, .bool (decide ((a1 : Int) < 0))), (12, .bool false), (13, .int .i64 a1), (14, .slice Aa0 na0 ca0), (15, .int .i64 ((na0 : Nat) : Int)), (16, .int .i64 a2), (17, .int .i64 (IntKind.wrap .i64 (((na0 : Nat) : Int) - a2))), (18, .bool (decide ((a1 : Int) > (IntKind.wrap .i64 (((na0 : Nat) : Int) - a2))))), (19, .bool (decide ((a1 : Int) > (IntKind.wrap .i64 (((na0 : Nat) : Int) - a2))))), (20, .slice Aa0 na0 ca0), (21, .int .i64 a1), (22, .int .i64 a1), (23, .int .i64 a2), (24, .int .i64 (IntKind.wrap .i64 (a1 + a2))), (28, undef), (29, undef), (30, undef), (31, undef), (32, undef), (33, undef), (34, undef), (35, undef), (36, undef), (37, undef)])))))) h) : Fn Try.prog 43 #[.slice Aa0 na0 ca0, .int .i64 a1, .int .i64 a2] I h Q :=
  Wp.fn (args := [.slice Aa0 na0 ca0, .int .i64 a1, .int .i64 a2]) Try.func43 rfl (by kernel_rfl) (of_tree (cfg := g_num_get) 1000 (by kernel_rfl) Try.func43 rfl Try.checked.mixed hh)
theorem ca_num_get : callable Try.prog 43 := ⟨_, Try.func43, by kernel_rfl, by kernel_rfl⟩
set_option maxRecDepth 100000 in
theorem r_num_get_1 (Ay25 : Option Addr) (ny25 : Nat) (cy25 : Nat) (y26 : Int) (x6 : Int) (x27 : Int) (u : Nat → Value) {I : Ctx} {h : Mem} {Q : Value → Mem → Prop}
  (hh : holds Try.prog 43 I Q
   (.ite (decide ((x27 : Int) < y26))
    (.rd (Instr.indexAt 26 (.slice Ay25 ny25 cy25) (.int .i64 x27)) (.one (.sc (.padr))) fun l2 =>
     (.rd (Instr.loadAt 5 (.pointer (some ((l2 0).a)))) (.one (.sc (.int .u8))) fun l3 =>
      (.stop k_num_get_1 (t_num_get_1 Ay25 ny25 cy25 y26 (bitop .or .u32 (IntKind.wrap .u32 (x6 * 2 ^ 8)) (IntKind.wrap .u32 ((l3 0).i))) (IntKind.wrap .i64 (x27 + 1)) (jl [(0, (u 0)), (1, (u 1)), (2, (u 2)), (7, (u 7)), (9, .int .u8 ((l3 0).i)), (10, (u 10)), (11, (u 11)), (12, (u 12)), (13, (u 13)), (14, (u 14)), (15, (u 15)), (16, (u 16)), (17, (u 17)), (18, (u 18)), (19, (u 19)), (20, (u 20)), (21, (u 21)), (22, (u 22)), (23, (u 23)), (24, (u 24)), (28, .bool (decide ((x27 : Int) < y26))), (29, .pointer (some ((l2 0).a))), (30, .int .u8 ((l3 0).i)), (31, .int .u32 x6), (32, .int .u32 (IntKind.wrap .u32 (x6 * 2 ^ 8))), (33, .int .u8 ((l3 0).i)), (34, .int .u32 (IntKind.wrap .u32 ((l3 0).i))), (35, .int .u32 (bitop .or .u32 (IntKind.wrap .u32 (x6 * 2 ^ 8)) (IntKind.wrap .u32 ((l3 0).i)))), (36, .int .i64 (IntKind.wrap .i64 (x27 + 1))), (37, (u 37))])))))
    (.done (.tuple #[.int .u32 x6, .bool true]))) h) : Wp Try.prog 43 k_num_get_1 (t_num_get_1 Ay25 ny25 cy25 y26 x6 x27 u) I h Q :=
  of_tree (cfg := g_num_get) 1000 (by kernel_rfl) Try.func43 rfl Try.checked.mixed hh
/-! ### math_bits_LeadingZeros32: function 44 of Go -/
abbrev F_math_bits_LeadingZeros32 : FuncId := 44
noncomputable def c_math_bits_LeadingZeros32 : Code := (Try.f44.body).getD .skip
noncomputable def g_math_bits_LeadingZeros32 : Cfg := { sh := shs, fsh := fshs, results := [.tmp 2], hint := fun _ _ => none, ord := fun _ => none, pre := fun _ => [], un := fun _ _ _ => false }
set_option maxRecDepth 100000 in
theorem r_math_bits_LeadingZeros32 (a0 : Int) {I : Ctx} {h : Mem} {Q : Value → Mem → Prop}
  (hh : holds Try.prog 44 I (cl_ Q)
   (.call 45 [.int .u32 a0] (.one (.sc (.int .i64))) fun l1 => -- math_bits_Len32
    (.done (.int .i64 (IntKind.wrap .i64 (32 - ((l1 0).i)))))) h) : Fn Try.prog 44 #[.int .u32 a0] I h Q :=
  Wp.fn (args := [.int .u32 a0]) Try.func44 rfl (by kernel_rfl) (of_tree (cfg := g_math_bits_LeadingZeros32) 1000 (by kernel_rfl) Try.func44 rfl Try.checked.mixed hh)
theorem ca_math_bits_LeadingZeros32 : callable Try.prog 44 := ⟨_, Try.func44, by kernel_rfl, by kernel_rfl⟩
/-! ### math_bits_Len32: function 45 of Go -/
abbrev F_math_bits_Len32 : FuncId := 45
noncomputable def c_math_bits_Len32 : Code := (Try.f45.body).getD .skip
noncomputable def g_math_bits_Len32 : Cfg := { sh := shs, fsh := fshs, results := [.tmp 2], hint := fun _ _ => none, ord := fun _ => none, pre := fun _ => [], un := fun _ _ _ => false }
set_option maxRecDepth 100000 in
theorem r_math_bits_Len32 (a0 : Int) {I : Ctx} {h : Mem} {Q : Value → Mem → Prop}
  (hh : holds Try.prog 45 I (cl_ Q)
   (.ite (decide ((a0 : Int) ≥ 65536))
    (.ite (decide ((Int.fdiv a0 (2 ^ 16) : Int) ≥ 256))
     (.rd (Instr.index 9 (.string (ByteArray.mk #[0, 1, 2, 2, 3, 3, 3, 3, 4, 4, 4, 4, 4, 4, 4, 4, 5, 5, 5, 5, 5, 5, 5, 5, 5, 5, 5, 5, 5, 5, 5, 5, 6, 6, 6, 6, 6, 6, 6, 6, 6, 6, 6, 6, 6, 6, 6, 6, 6, 6, 6, 6, 6, 6, 6, 6, 6, 6, 6, 6, 6, 6, 6, 6, 7, 7, 7, 7, 7, 7, 7, 7, 7, 7, 7, 7, 7, 7, 7, 7, 7, 7, 7, 7, 7, 7, 7, 7, 7, 7, 7, 7, 7, 7, 7, 7, 7, 7, 7, 7, 7, 7, 7, 7, 7, 7, 7, 7, 7, 7, 7, 7, 7, 7, 7, 7, 7, 7, 7, 7, 7, 7, 7, 7, 7, 7, 7, 7, 8, 8, 8, 8, 8, 8, 8, 8, 8, 8, 8, 8, 8, 8, 8, 8, 8, 8, 8, 8, 8, 8, 8, 8, 8, 8, 8, 8, 8, 8, 8, 8, 8, 8, 8, 8, 8, 8, 8, 8, 8, 8, 8, 8, 8, 8, 8, 8, 8, 8, 8, 8, 8, 8, 8, 8, 8, 8, 8, 8, 8, 8, 8, 8, 8, 8, 8, 8, 8, 8, 8, 8, 8, 8, 8, 8, 8, 8, 8, 8, 8, 8, 8, 8, 8, 8, 8, 8, 8, 8, 8, 8, 8, 8, 8, 8, 8, 8, 8, 8, 8, 8, 8, 8, 8, 8, 8, 8, 8, 8, 8, 8, 8, 8, 8, 8, 8, 8, 8, 8, 8, 8, 8, 8, 8, 8, 8, 8])) (.int .u8 (IntKind.wrap .u8 (Int.fdiv (Int.fdiv a0 (2 ^ 16)) (2 ^ 8))))) (.one (.sc (.int .u8))) fun l1 =>
      (.done (.int .i64 (IntKind.wrap .i64 ((IntKind.wrap .i64 (16 + 8)) + (IntKind.wrap .i64 ((l1 0).i)))))))
     (.rd (Instr.index 9 (.string (ByteArray.mk #[0, 1, 2, 2, 3, 3, 3, 3, 4, 4, 4, 4, 4, 4, 4, 4, 5, 5, 5, 5, 5, 5, 5, 5, 5, 5, 5, 5, 5, 5, 5, 5, 6, 6, 6, 6, 6, 6, 6, 6, 6, 6, 6, 6, 6, 6, 6, 6, 6, 6, 6, 6, 6, 6, 6, 6, 6, 6, 6, 6, 6, 6, 6, 6, 7, 7, 7, 7, 7, 7, 7, 7, 7, 7, 7, 7, 7, 7, 7, 7, 7, 7, 7, 7, 7, 7, 7, 7, 7, 7, 7, 7, 7, 7, 7, 7, 7, 7, 7, 7, 7, 7, 7, 7, 7, 7, 7, 7, 7, 7, 7, 7, 7, 7, 7, 7, 7, 7, 7, 7, 7, 7, 7, 7, 7, 7, 7, 7, 8, 8, 8, 8, 8, 8, 8, 8, 8, 8, 8, 8, 8, 8, 8, 8, 8, 8, 8, 8, 8, 8, 8, 8, 8, 8, 8, 8, 8, 8, 8, 8, 8, 8, 8, 8, 8, 8, 8, 8, 8, 8, 8, 8, 8, 8, 8, 8, 8, 8, 8, 8, 8, 8, 8, 8, 8, 8, 8, 8, 8, 8, 8, 8, 8, 8, 8, 8, 8, 8, 8, 8, 8, 8, 8, 8, 8, 8, 8, 8, 8, 8, 8, 8, 8, 8, 8, 8, 8, 8, 8, 8, 8, 8, 8, 8, 8, 8, 8, 8, 8, 8, 8, 8, 8, 8, 8, 8, 8, 8, 8, 8, 8, 8, 8, 8, 8, 8, 8, 8, 8, 8, 8, 8, 8, 8, 8, 8])) (.int .u8 (IntKind.wrap .u8 (Int.fdiv a0 (2 ^ 16))))) (.one (.sc (.int .u8))) fun l2 =>
      (.done (.int .i64 (IntKind.wrap .i64 (16 + (IntKind.wrap .i64 ((l2 0).i))))))))
    (.ite (decide ((a0 : Int) ≥ 256))
     (.rd (Instr.index 9 (.string (ByteArray.mk #[0, 1, 2, 2, 3, 3, 3, 3, 4, 4, 4, 4, 4, 4, 4, 4, 5, 5, 5, 5, 5, 5, 5, 5, 5, 5, 5, 5, 5, 5, 5, 5, 6, 6, 6, 6, 6, 6, 6, 6, 6, 6, 6, 6, 6, 6, 6, 6, 6, 6, 6, 6, 6, 6, 6, 6, 6, 6, 6, 6, 6, 6, 6, 6, 7, 7, 7, 7, 7, 7, 7, 7, 7, 7, 7, 7, 7, 7, 7, 7, 7, 7, 7, 7, 7, 7, 7, 7, 7, 7, 7, 7, 7, 7, 7, 7, 7, 7, 7, 7, 7, 7, 7, 7, 7, 7, 7, 7, 7, 7, 7, 7, 7, 7, 7, 7, 7, 7, 7, 7, 7, 7, 7, 7, 7, 7, 7, 7, 8, 8, 8, 8, 8, 8, 8, 8, 8, 8, 8, 8, 8, 8, 8, 8, 8, 8, 8, 8, 8, 8, 8, 8, 8, 8, 8, 8, 8, 8, 8, 8, 8, 8, 8, 8, 8, 8, 8, 8, 8, 8, 8, 8, 8, 8, 8, 8, 8, 8, 8, 8, 8, 8, 8, 8, 8, 8, 8, 8, 8, 8, 8, 8, 8, 8, 8, 8, 8, 8, 8, 8, 8, 8, 8, 8, 8, 8, 8, 8, 8, 8, 8, 8, 8, 8, 8, 8, 8, 8, 8, 8, 8, 8, 8, 8, 8, 8, 8, 8, 8, 8, 8, 8, 8, 8, 8, 8, 8, 8, 8, 8, 8, 8, 8, 8, 8, 8, 8, 8, 8, 8, 8, 8, 8, 8, 8, 8])) (.int .u8 (IntKind.wrap .u8 (Int.fdiv a0 (2 ^ 8))))) (.one (.sc (.int .u8))) fun l3 =>
      (.done (.int .i64 (IntKind.wrap .i64 ((IntKind.wrap .i64 (0 + 8)) + (IntKind.wrap .i64 ((l3 0).i)))))))
     (.rd (Instr.index 9 (.string (ByteArray.mk #[0, 1, 2, 2, 3, 3, 3, 3, 4, 4, 4, 4, 4, 4, 4, 4, 5, 5, 5, 5, 5, 5, 5, 5, 5, 5, 5, 5, 5, 5, 5, 5, 6, 6, 6, 6, 6, 6, 6, 6, 6, 6, 6, 6, 6, 6, 6, 6, 6, 6, 6, 6, 6, 6, 6, 6, 6, 6, 6, 6, 6, 6, 6, 6, 7, 7, 7, 7, 7, 7, 7, 7, 7, 7, 7, 7, 7, 7, 7, 7, 7, 7, 7, 7, 7, 7, 7, 7, 7, 7, 7, 7, 7, 7, 7, 7, 7, 7, 7, 7, 7, 7, 7, 7, 7, 7, 7, 7, 7, 7, 7, 7, 7, 7, 7, 7, 7, 7, 7, 7, 7, 7, 7, 7, 7, 7, 7, 7, 8, 8, 8, 8, 8, 8, 8, 8, 8, 8, 8, 8, 8, 8, 8, 8, 8, 8, 8, 8, 8, 8, 8, 8, 8, 8, 8, 8, 8, 8, 8, 8, 8, 8, 8, 8, 8, 8, 8, 8, 8, 8, 8, 8, 8, 8, 8, 8, 8, 8, 8, 8, 8, 8, 8, 8, 8, 8, 8, 8, 8, 8, 8, 8, 8, 8, 8, 8, 8, 8, 8, 8, 8, 8, 8, 8, 8, 8, 8, 8, 8, 8, 8, 8, 8, 8, 8, 8, 8, 8, 8, 8, 8, 8, 8, 8, 8, 8, 8, 8, 8, 8, 8, 8, 8, 8, 8, 8, 8, 8, 8, 8, 8, 8, 8, 8, 8, 8, 8, 8, 8, 8, 8, 8, 8, 8, 8, 8])) (.int .u8 (IntKind.wrap .u8 a0))) (.one (.sc (.int .u8))) fun l4 =>
      (.done (.int .i64 (IntKind.wrap .i64 (0 + (IntKind.wrap .i64 ((l4 0).i))))))))) h) : Fn Try.prog 45 #[.int .u32 a0] I h Q :=
  Wp.fn (args := [.int .u32 a0]) Try.func45 rfl (by kernel_rfl) (of_tree (cfg := g_math_bits_Len32) 1000 (by kernel_rfl) Try.func45 rfl Try.checked.mixed hh)
theorem ca_math_bits_Len32 : callable Try.prog 45 := ⟨_, Try.func45, by kernel_rfl, by kernel_rfl⟩
end Go.Proofs.YtahllmihgpaaeaaS
