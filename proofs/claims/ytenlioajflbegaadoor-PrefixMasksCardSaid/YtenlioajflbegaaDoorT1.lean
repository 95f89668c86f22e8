import Derived.Test.YtenlioajflbegaaDoorT0
set_option linter.unusedVariables false
namespace Go.Proofs.YtenlioajflbegaaDoorS
/-! ### octroilaw02_PrefixTexts: function 3 of Go -/
abbrev F_octroilaw02_PrefixTexts : FuncId := 3
noncomputable def c_octroilaw02_PrefixTexts : Code := (Tryd.f3.body).getD .skip
def p_octroilaw02_PrefixTexts : Nat → List (List Nat) := fun r => match r with | 6 => [[], [0], [0, 1], [0, 1, 2], [0, 1], [0, 1, 2, 3, 4], [0, 1, 2, 3, 4, 5], [0, 1, 2, 3, 4, 5, 6], [0, 1, 2, 3, 4, 5, 6, 7], [0, 1, 2, 3, 4, 5, 6, 7, 8], [0, 1, 2, 3, 4, 5, 6, 7, 8], [0, 1, 2, 3, 4, 5, 6, 7, 8, 9, 10], [0, 1, 2, 3, 4, 5, 6, 7, 8, 9, 10, 11], [0, 1, 2, 3, 4, 5, 6, 7, 8, 9, 10, 11, 12], [0, 1, 2, 3, 4, 5, 6, 7, 8, 9, 10, 11, 12, 13], [0, 1, 2, 3, 4, 5, 6, 7, 8, 9, 10, 11, 12, 13], [0, 1, 2, 3, 4, 5, 6, 7, 8, 9, 10, 11, 12, 13, 14, 15], [0, 1, 2, 3, 4, 5, 6, 7, 8, 9, 10, 11, 12, 13, 14, 15, 16], [0, 1, 2, 3, 4, 5, 6, 7, 8, 9, 10, 11, 12, 13, 14, 15, 16, 17]] | _ => []
noncomputable def g_octroilaw02_PrefixTexts : Cfg := { sh := shs, fsh := fshs, results := [.tmp 4], hint := fun r i => match r, i with | 6, 11 => some (true, .one (.sc (.bool))) | _, _ => none, ord := fun r => match r with | 6 => some [0, 1, 2, 4, 3, 5, 6, 7, 8, 9, 10, 11, 12, 13, 14, 15, 16, 17, 18] | _ => none, pre := p_octroilaw02_PrefixTexts, un := unOf p_octroilaw02_PrefixTexts }
set_option maxRecDepth 100000 in
set_option maxHeartbeats 4000000 in
theorem r_octroilaw02_PrefixTexts (a0_0 : Int) (a0_1 : Int) (a1 : ByteArray) {I : Ctx} {h : Mem} {Q : Value → Mem → Prop}
  (hh : holds Tryd.prog 3 I (cl_ Q)
   (.sem (Instr.box 24 (.agg #[.int .u32 a0_0, .int .i64 a0_1])) shBlk fun l1 =>
    (.call 11 [] (.one (.sc (.bool))) fun l2 => -- octroilaw02_awake
     (.rd (Instr.loadAt 3 (.pointer (some ⟨(l1 0).n, 1, none⟩))) (.one (.sc (.int .i64))) fun l3 =>
      (.ite (decide (((l3 0).i : Int) > 1000000000))
       (.done (.bool ((l2 0).b)))
       (.rd (Instr.loadAt 3 (.pointer (some ⟨(l1 0).n, 1, none⟩))) (.one (.sc (.int .i64))) fun l4 =>
        (.ite (decide (((l4 0).i : Int) < (-1000000000)))
         (.done (.bool ((l2 0).b)))
         (.ite (decide ((((a1.size : Nat) : Int) : Int) > 3000))
          (.done (.bool ((l2 0).b)))
          (.call 12 [.string a1] (.tup [.agg [.int .u32, .int .i64], (.sc (.int .i64))]) fun l5 => -- prefix_Parse
           (.sem (Instr.alloc 24 true (.tuple #[])) shBlk fun l6 =>
            (.unit (Instr.storeAt 24 (.pointer (some ⟨(l6 0).n, 0, none⟩)) (.agg #[.int .u32 ((l5 0).i), .int .i64 ((l5 1).i)]))
             (.call 13 [.string a1] (.tup [.agg [.int .u32, .int .i64], (.sc (.int .i64))]) fun l7 => -- octroiref02_Parse
              (.sem (Instr.alloc 24 true (.tuple #[])) shBlk fun l8 =>
               (.unit (Instr.storeAt 24 (.pointer (some ⟨(l8 0).n, 0, none⟩)) (.agg #[.int .u32 ((l7 0).i), .int .i64 ((l7 1).i)]))
                (.ite ((l2 0).b)
                 (.rd (Instr.loadAt 24 (.pointer (some ⟨(l1 0).n, 0, none⟩))) (.one (.agg [.int .u32, .int .i64])) fun l9 =>
                  (.rd (Instr.loadAt 24 (.pointer (some ⟨(l1 0).n, 0, none⟩))) (.one (.agg [.int .u32, .int .i64])) fun l10 =>
                   (.call 14 [.agg #[.int .u32 ((l9 0).i), .int .i64 ((l9 1).i)]] (.one (.sc (.str))) fun l11 => -- prefix_Show
                    (.pin (vN (Instr.loadAt 24 (.pointer (some ⟨(l1 0).n, 0, none⟩)))) (.agg #[.int .u32 ((l10 0).i), .int .i64 ((l10 1).i)])
                     (.call 15 [.agg #[.int .u32 ((l10 0).i), .int .i64 ((l10 1).i)]] (.one (.sc (.str))) fun l12 => -- octroiref02_Show
                      (.ite (((l11 0).s).toList == ((l12 0).s).toList)
                       (.rd (Instr.loadAt 24 (.pointer (some ⟨(l6 0).n, 0, none⟩))) (.one (.agg [.int .u32, .int .i64])) fun l13 =>
                        (.rd (Instr.loadAt 24 (.pointer (some ⟨(l8 0).n, 0, none⟩))) (.one (.agg [.int .u32, .int .i64])) fun l14 =>
                         (.rdn (eqN .eql 24 (.tmp 0) (.tmp 0) (.agg #[.int .u32 ((l13 0).i), .int .i64 ((l13 1).i)]) (.agg #[.int .u32 ((l14 0).i), .int .i64 ((l14 1).i)])) (.one (.sc (.bool))) fun l15 =>
                          (.ite ((l15 0).b)
                           (.done (.bool (((l5 2).i : Int) == ((l7 2).i))))
                           (.done (.bool false))))))
                       (.done (.bool false))))))))
                 (.done (.bool false)))))))))))))))) h) : Fn Tryd.prog 3 #[.agg #[.int .u32 a0_0, .int .i64 a0_1], .string a1] I h Q :=
  Wp.fn (args := [.agg #[.int .u32 a0_0, .int .i64 a0_1], .string a1]) Tryd.func3 rfl (by kernel_rfl) (of_tree (cfg := g_octroilaw02_PrefixTexts) 1000 (by kernel_rfl) Tryd.func3 rfl Tryd.checked.mixed hh)
theorem ca_octroilaw02_PrefixTexts : callable Tryd.prog 3 := ⟨_, Tryd.func3, by kernel_rfl, by kernel_rfl⟩
/-! ### octroilaw02_PrefixBack: function 4 of Go -/
abbrev F_octroilaw02_PrefixBack : FuncId := 4
noncomputable def c_octroilaw02_PrefixBack : Code := (Tryd.f4.body).getD .skip
noncomputable def g_octroilaw02_PrefixBack : Cfg := { sh := shs, fsh := fshs, results := [.tmp 4], hint := fun r i => match r, i with | 6, 5 => some (true, .one (.sc (.bool))) | 9, 7 => some (true, .one (.sc (.bool))) | _, _ => none, ord := fun _ => none, pre := fun _ => [], un := fun _ _ _ => false }
set_option maxRecDepth 100000 in
set_option maxHeartbeats 4000000 in
theorem r_octroilaw02_PrefixBack (a0_0 : Int) (a0_1 : Int) (a1 : ByteArray) {I : Ctx} {h : Mem} {Q : Value → Mem → Prop}
  (hh : holds Tryd.prog 4 I (cl_ Q)
   (.sem (Instr.box 24 (.agg #[.int .u32 a0_0, .int .i64 a0_1])) shBlk fun l1 =>
    (.call 11 [] (.one (.sc (.bool))) fun l2 => -- octroilaw02_awake
     (.ite (decide ((((a1.size : Nat) : Int) : Int) > 3000))
      (.done (.bool ((l2 0).b)))
      (.rd (Instr.loadAt 24 (.pointer (some ⟨(l1 0).n, 0, none⟩))) (.one (.agg [.int .u32, .int .i64])) fun l3 =>
       (.call 16 [.agg #[.int .u32 ((l3 0).i), .int .i64 ((l3 1).i)]] (.one (.sc (.bool))) fun l4 => -- prefix_May
        (.ite ((l4 0).b)
         (.rd (Instr.loadAt 24 (.pointer (some ⟨(l1 0).n, 0, none⟩))) (.one (.agg [.int .u32, .int .i64])) fun l5 =>
          (.call 14 [.agg #[.int .u32 ((l5 0).i), .int .i64 ((l5 1).i)]] (.one (.sc (.str))) fun l6 => -- prefix_Show
           (.call 12 [.string ((l6 0).s)] (.tup [.agg [.int .u32, .int .i64], (.sc (.int .i64))]) fun l7 => -- prefix_Parse
            (.sem (Instr.alloc 24 true (.tuple #[])) shBlk fun l8 =>
             (.unit (Instr.storeAt 24 (.pointer (some ⟨(l8 0).n, 0, none⟩)) (.agg #[.int .u32 ((l7 0).i), .int .i64 ((l7 1).i)]))
              (.ite (((l7 2).i : Int) != 0)
               (.done (.bool false))
               (.rd (Instr.loadAt 24 (.pointer (some ⟨(l8 0).n, 0, none⟩))) (.one (.agg [.int .u32, .int .i64])) fun l9 =>
                (.rd (Instr.loadAt 24 (.pointer (some ⟨(l1 0).n, 0, none⟩))) (.one (.agg [.int .u32, .int .i64])) fun l10 =>
                 (.rdn (eqN .neq 24 (.tmp 0) (.tmp 0) (.agg #[.int .u32 ((l9 0).i), .int .i64 ((l9 1).i)]) (.agg #[.int .u32 ((l10 0).i), .int .i64 ((l10 1).i)])) (.one (.sc (.bool))) fun l11 =>
                  (.ite ((l11 0).b)
                   (.done (.bool false))
                   (.call 12 [.string a1] (.tup [.agg [.int .u32, .int .i64], (.sc (.int .i64))]) fun l12 => -- prefix_Parse
                    (.sem (Instr.alloc 24 true (.tuple #[])) shBlk fun l13 =>
                     (.unit (Instr.storeAt 24 (.pointer (some ⟨(l13 0).n, 0, none⟩)) (.agg #[.int .u32 ((l12 0).i), .int .i64 ((l12 1).i)]))
                      (.ite ((l2 0).b)
                       (.ite (((l12 2).i : Int) != 0)
                        (.rd (Instr.loadAt 24 (.pointer (some ⟨(l13 0).n, 0, none⟩))) (.one (.agg [.int .u32, .int .i64])) fun l14 =>
                         (.rdn (eqN .eql 24 (.tmp 0) (.tmp 0) (.agg #[.int .u32 ((l14 0).i), .int .i64 ((l14 1).i)]) (.agg #[.int .u32 0, .int .i64 0])) (.one (.sc (.bool))) fun l15 =>
                          (.ite ((l15 0).b)
                           (.done (.bool true))
                           (.ite (((l12 2).i : Int) == 0)
                            (.rd (Instr.loadAt 24 (.pointer (some ⟨(l13 0).n, 0, none⟩))) (.one (.agg [.int .u32, .int .i64])) fun l16 =>
                             (.call 14 [.agg #[.int .u32 ((l16 0).i), .int .i64 ((l16 1).i)]] (.one (.sc (.str))) fun l17 => -- prefix_Show
                              (.ite (((l17 0).s).toList == a1.toList)
                               (.rd (Instr.loadAt 24 (.pointer (some ⟨(l13 0).n, 0, none⟩))) (.one (.agg [.int .u32, .int .i64])) fun l18 =>
                                (.call 16 [.agg #[.int .u32 ((l18 0).i), .int .i64 ((l18 1).i)]] (.one (.sc (.bool))) fun l19 => -- prefix_May
                                 (.done (.bool ((l19 0).b)))))
                               (.done (.bool false)))))
                            (.done (.bool false))))))
                        (.ite (((l12 2).i : Int) == 0)
                         (.rd (Instr.loadAt 24 (.pointer (some ⟨(l13 0).n, 0, none⟩))) (.one (.agg [.int .u32, .int .i64])) fun l20 =>
                          (.call 14 [.agg #[.int .u32 ((l20 0).i), .int .i64 ((l20 1).i)]] (.one (.sc (.str))) fun l21 => -- prefix_Show
                           (.ite (((l21 0).s).toList == a1.toList)
                            (.rd (Instr.loadAt 24 (.pointer (some ⟨(l13 0).n, 0, none⟩))) (.one (.agg [.int .u32, .int .i64])) fun l22 =>
                             (.call 16 [.agg #[.int .u32 ((l22 0).i), .int .i64 ((l22 1).i)]] (.one (.sc (.bool))) fun l23 => -- prefix_May
                              (.done (.bool ((l23 0).b)))))
                            (.done (.bool false)))))
                         (.done (.bool false))))
                       (.done (.bool false))))))))))))))))
         (.call 12 [.string a1] (.tup [.agg [.int .u32, .int .i64], (.sc (.int .i64))]) fun l24 => -- prefix_Parse
          (.sem (Instr.alloc 24 true (.tuple #[])) shBlk fun l25 =>
           (.unit (Instr.storeAt 24 (.pointer (some ⟨(l25 0).n, 0, none⟩)) (.agg #[.int .u32 ((l24 0).i), .int .i64 ((l24 1).i)]))
            (.ite ((l2 0).b)
             (.ite (((l24 2).i : Int) != 0)
              (.rd (Instr.loadAt 24 (.pointer (some ⟨(l25 0).n, 0, none⟩))) (.one (.agg [.int .u32, .int .i64])) fun l26 =>
               (.rdn (eqN .eql 24 (.tmp 0) (.tmp 0) (.agg #[.int .u32 ((l26 0).i), .int .i64 ((l26 1).i)]) (.agg #[.int .u32 0, .int .i64 0])) (.one (.sc (.bool))) fun l27 =>
                (.ite ((l27 0).b)
                 (.done (.bool true))
                 (.ite (((l24 2).i : Int) == 0)
                  (.rd (Instr.loadAt 24 (.pointer (some ⟨(l25 0).n, 0, none⟩))) (.one (.agg [.int .u32, .int .i64])) fun l28 =>
                   (.call 14 [.agg #[.int .u32 ((l28 0).i), .int .i64 ((l28 1).i)]] (.one (.sc (.str))) fun l29 => -- prefix_Show
                    (.ite (((l29 0).s).toList == a1.toList)
                     (.rd (Instr.loadAt 24 (.pointer (some ⟨(l25 0).n, 0, none⟩))) (.one (.agg [.int .u32, .int .i64])) fun l30 =>
                      (.call 16 [.agg #[.int .u32 ((l30 0).i), .int .i64 ((l30 1).i)]] (.one (.sc (.bool))) fun l31 => -- prefix_May
                       (.done (.bool ((l31 0).b)))))
                     (.done (.bool false)))))
                  (.done (.bool false))))))
              (.ite (((l24 2).i : Int) == 0)
               (.rd (Instr.loadAt 24 (.pointer (some ⟨(l25 0).n, 0, none⟩))) (.one (.agg [.int .u32, .int .i64])) fun l32 =>
                (.call 14 [.agg #[.int .u32 ((l32 0).i), .int .i64 ((l32 1).i)]] (.one (.sc (.str))) fun l33 => -- prefix_Show
                 (.ite (((l33 0).s).toList == a1.toList)
                  (.rd (Instr.loadAt 24 (.pointer (some ⟨(l25 0).n, 0, none⟩))) (.one (.agg [.int .u32, .int .i64])) fun l34 =>
                   (.call 16 [.agg #[.int .u32 ((l34 0).i), .int .i64 ((l34 1).i)]] (.one (.sc (.bool))) fun l35 => -- prefix_May
                    (.done (.bool ((l35 0).b)))))
                  (.done (.bool false)))))
               (.done (.bool false))))
             (.done (.bool false)))))))))))) h) : Fn Tryd.prog 4 #[.agg #[.int .u32 a0_0, .int .i64 a0_1], .string a1] I h Q :=
  Wp.fn (args := [.agg #[.int .u32 a0_0, .int .i64 a0_1], .string a1]) Tryd.func4 rfl (by kernel_rfl) (of_tree (cfg := g_octroilaw02_PrefixBack) 1000 (by kernel_rfl) Tryd.func4 rfl Tryd.checked.mixed hh)
theorem ca_octroilaw02_PrefixBack : callable Tryd.prog 4 := ⟨_, Tryd.func4, by kernel_rfl, by kernel_rfl⟩
/-! ### octroilaw02_PrefixNests: function 5 of Go -/
abbrev F_octroilaw02_PrefixNests : FuncId := 5
noncomputable def c_octroilaw02_PrefixNests : Code := (Tryd.f5.body).getD .skip
noncomputable def g_octroilaw02_PrefixNests : Cfg := { sh := shs, fsh := fshs, results := [.tmp 8], hint := fun r i => match r, i with | 4, 20 => some (true, .one (.sc (.bool))) | _, _ => none, ord := fun _ => none, pre := fun _ => [], un := fun _ _ _ => false }
set_option maxRecDepth 100000 in
set_option maxHeartbeats 4000000 in
theorem r_octroilaw02_PrefixNests (a0_0 : Int) (a0_1 : Int) (a1_0 : Int) (a1_1 : Int) (a2_0 : Int) (a2_1 : Int) (a3 : Int) {I : Ctx} {h : Mem} {Q : Value → Mem → Prop}
  (hh : holds Tryd.prog 5 I (cl_ Q)
   (.sem (Instr.box 24 (.agg #[.int .u32 a0_0, .int .i64 a0_1])) shBlk fun l1 =>
    (.sem (Instr.box 24 (.agg #[.int .u32 a1_0, .int .i64 a1_1])) shBlk fun l2 =>
     (.sem (Instr.box 24 (.agg #[.int .u32 a2_0, .int .i64 a2_1])) shBlk fun l3 =>
      (.call 11 [] (.one (.sc (.bool))) fun l4 => -- octroilaw02_awake
       (.rd (Instr.loadAt 24 (.pointer (some ⟨(l1 0).n, 0, none⟩))) (.one (.agg [.int .u32, .int .i64])) fun l5 =>
        (.rd (Instr.loadAt 24 (.pointer (some ⟨(l2 0).n, 0, none⟩))) (.one (.agg [.int .u32, .int .i64])) fun l6 =>
         (.call 17 [.agg #[.int .u32 ((l5 0).i), .int .i64 ((l5 1).i)], .agg #[.int .u32 ((l6 0).i), .int .i64 ((l6 1).i)]] (.one (.sc (.bool))) fun l7 => -- prefix_Covers
          (.rd (Instr.loadAt 24 (.pointer (some ⟨(l2 0).n, 0, none⟩))) (.one (.agg [.int .u32, .int .i64])) fun l8 =>
           (.rd (Instr.loadAt 24 (.pointer (some ⟨(l3 0).n, 0, none⟩))) (.one (.agg [.int .u32, .int .i64])) fun l9 =>
            (.call 17 [.agg #[.int .u32 ((l8 0).i), .int .i64 ((l8 1).i)], .agg #[.int .u32 ((l9 0).i), .int .i64 ((l9 1).i)]] (.one (.sc (.bool))) fun l10 => -- prefix_Covers
             (.ite ((l7 0).b)
              (.ite ((l10 0).b)
               (.rd (Instr.loadAt 24 (.pointer (some ⟨(l1 0).n, 0, none⟩))) (.one (.agg [.int .u32, .int .i64])) fun l11 =>
                (.rd (Instr.loadAt 24 (.pointer (some ⟨(l3 0).n, 0, none⟩))) (.one (.agg [.int .u32, .int .i64])) fun l12 =>
                 (.call 17 [.agg #[.int .u32 ((l11 0).i), .int .i64 ((l11 1).i)], .agg #[.int .u32 ((l12 0).i), .int .i64 ((l12 1).i)]] (.one (.sc (.bool))) fun l13 => -- prefix_Covers
                  (.ite (!((l13 0).b))
                   (.done (.bool false))
                   (.ite ((l7 0).b)
                    (.rd (Instr.loadAt 24 (.pointer (some ⟨(l2 0).n, 0, none⟩))) (.one (.agg [.int .u32, .int .i64])) fun l14 =>
                     (.rd (Instr.loadAt 24 (.pointer (some ⟨(l1 0).n, 0, none⟩))) (.one (.agg [.int .u32, .int .i64])) fun l15 =>
                      (.call 17 [.agg #[.int .u32 ((l14 0).i), .int .i64 ((l14 1).i)], .agg #[.int .u32 ((l15 0).i), .int .i64 ((l15 1).i)]] (.one (.sc (.bool))) fun l16 => -- prefix_Covers
                       (.ite ((l16 0).b)
                        (.rd (Instr.loadAt 24 (.pointer (some ⟨(l1 0).n, 0, none⟩))) (.one (.agg [.int .u32, .int .i64])) fun l17 =>
                         (.rd (Instr.loadAt 24 (.pointer (some ⟨(l2 0).n, 0, none⟩))) (.one (.agg [.int .u32, .int .i64])) fun l18 =>
                          (.rdn (eqN .neq 24 (.tmp 0) (.tmp 0) (.agg #[.int .u32 ((l17 0).i), .int .i64 ((l17 1).i)]) (.agg #[.int .u32 ((l18 0).i), .int .i64 ((l18 1).i)])) (.one (.sc (.bool))) fun l19 =>
                           (.ite ((l19 0).b)
                            (.done (.bool false))
                            (.ite ((l7 0).b)
                             (.rd (Instr.loadAt 24 (.pointer (some ⟨(l2 0).n, 0, none⟩))) (.one (.agg [.int .u32, .int .i64])) fun l20 =>
                              (.call 18 [.agg #[.int .u32 ((l20 0).i), .int .i64 ((l20 1).i)], .int .u32 a3] (.one (.sc (.bool))) fun l21 => -- prefix_Has
                               (.ite ((l21 0).b)
                                (.rd (Instr.loadAt 24 (.pointer (some ⟨(l1 0).n, 0, none⟩))) (.one (.agg [.int .u32, .int .i64])) fun l22 =>
                                 (.call 18 [.agg #[.int .u32 ((l22 0).i), .int .i64 ((l22 1).i)], .int .u32 a3] (.one (.sc (.bool))) fun l23 => -- prefix_Has
                                  (.ite (!((l23 0).b))
                                   (.done (.bool false))
                                   (.rd (Instr.loadAt 24 (.pointer (some ⟨(l1 0).n, 0, none⟩))) (.one (.agg [.int .u32, .int .i64])) fun l24 =>
                                    (.call 18 [.agg #[.int .u32 ((l24 0).i), .int .i64 ((l24 1).i)], .int .u32 a3] (.one (.sc (.bool))) fun l25 => -- prefix_Has
                                     (.ite ((l25 0).b)
                                      (.rd (Instr.loadAt 24 (.pointer (some ⟨(l2 0).n, 0, none⟩))) (.one (.agg [.int .u32, .int .i64])) fun l26 =>
                                       (.call 18 [.agg #[.int .u32 ((l26 0).i), .int .i64 ((l26 1).i)], .int .u32 a3] (.one (.sc (.bool))) fun l27 => -- prefix_Has
                                        (.ite ((l4 0).b)
                                         (.ite (!((l27 0).b))
                                          (.done (.bool true))
                                          (.ite ((l7 0).b)
                                           (.done (.bool true))
                                           (.rd (Instr.loadAt 24 (.pointer (some ⟨(l2 0).n, 0, none⟩))) (.one (.agg [.int .u32, .int .i64])) fun l28 =>
                                            (.rd (Instr.loadAt 24 (.pointer (some ⟨(l1 0).n, 0, none⟩))) (.one (.agg [.int .u32, .int .i64])) fun l29 =>
                                             (.call 17 [.agg #[.int .u32 ((l28 0).i), .int .i64 ((l28 1).i)], .agg #[.int .u32 ((l29 0).i), .int .i64 ((l29 1).i)]] (.one (.sc (.bool))) fun l30 => -- prefix_Covers
                                              (.done (.bool ((l30 0).b))))))))
                                         (.done (.bool false)))))
                                      (.ite ((l4 0).b)
                                       (.ite (true)
                                        (.done (.bool true))
                                        (.ite ((l7 0).b)
                                         (.done (.bool true))
                                         (.rd (Instr.loadAt 24 (.pointer (some ⟨(l2 0).n, 0, none⟩))) (.one (.agg [.int .u32, .int .i64])) fun l31 =>
                                          (.rd (Instr.loadAt 24 (.pointer (some ⟨(l1 0).n, 0, none⟩))) (.one (.agg [.int .u32, .int .i64])) fun l32 =>
                                           (.call 17 [.agg #[.int .u32 ((l31 0).i), .int .i64 ((l31 1).i)], .agg #[.int .u32 ((l32 0).i), .int .i64 ((l32 1).i)]] (.one (.sc (.bool))) fun l33 => -- prefix_Covers
                                            (.done (.bool ((l33 0).b))))))))
                                       (.done (.bool false)))))))))
                                (.rd (Instr.loadAt 24 (.pointer (some ⟨(l1 0).n, 0, none⟩))) (.one (.agg [.int .u32, .int .i64])) fun l34 =>
                                 (.call 18 [.agg #[.int .u32 ((l34 0).i), .int .i64 ((l34 1).i)], .int .u32 a3] (.one (.sc (.bool))) fun l35 => -- prefix_Has
                                  (.ite ((l35 0).b)
                                   (.rd (Instr.loadAt 24 (.pointer (some ⟨(l2 0).n, 0, none⟩))) (.one (.agg [.int .u32, .int .i64])) fun l36 =>
                                    (.call 18 [.agg #[.int .u32 ((l36 0).i), .int .i64 ((l36 1).i)], .int .u32 a3] (.one (.sc (.bool))) fun l37 => -- prefix_Has
                                     (.ite ((l4 0).b)
                                      (.ite (!((l37 0).b))
                                       (.done (.bool true))
                                       (.ite ((l7 0).b)
                                        (.done (.bool true))
                                        (.rd (Instr.loadAt 24 (.pointer (some ⟨(l2 0).n, 0, none⟩))) (.one (.agg [.int .u32, .int .i64])) fun l38 =>
                                         (.rd (Instr.loadAt 24 (.pointer (some ⟨(l1 0).n, 0, none⟩))) (.one (.agg [.int .u32, .int .i64])) fun l39 =>
                                          (.call 17 [.agg #[.int .u32 ((l38 0).i), .int .i64 ((l38 1).i)], .agg #[.int .u32 ((l39 0).i), .int .i64 ((l39 1).i)]] (.one (.sc (.bool))) fun l40 => -- prefix_Covers
                                           (.done (.bool ((l40 0).b))))))))
                                      (.done (.bool false)))))
                                   (.ite ((l4 0).b)
                                    (.ite (true)
                                     (.done (.bool true))
                                     (.ite ((l7 0).b)
                                      (.done (.bool true))
                                      (.rd (Instr.loadAt 24 (.pointer (some ⟨(l2 0).n, 0, none⟩))) (.one (.agg [.int .u32, .int .i64])) fun l41 =>
                                       (.rd (Instr.loadAt 24 (.pointer (some ⟨(l1 0).n, 0, none⟩))) (.one (.agg [.int .u32, .int .i64])) fun l42 =>
                                        (.call 17 [.agg #[.int .u32 ((l41 0).i), .int .i64 ((l41 1).i)], .agg #[.int .u32 ((l42 0).i), .int .i64 ((l42 1).i)]] (.one (.sc (.bool))) fun l43 => -- prefix_Covers
                                         (.done (.bool ((l43 0).b))))))))
                                    (.done (.bool false)))))))))
                             (.rd (Instr.loadAt 24 (.pointer (some ⟨(l1 0).n, 0, none⟩))) (.one (.agg [.int .u32, .int .i64])) fun l44 =>
                              (.call 18 [.agg #[.int .u32 ((l44 0).i), .int .i64 ((l44 1).i)], .int .u32 a3] (.one (.sc (.bool))) fun l45 => -- prefix_Has
                               (.ite ((l45 0).b)
                                (.rd (Instr.loadAt 24 (.pointer (some ⟨(l2 0).n, 0, none⟩))) (.one (.agg [.int .u32, .int .i64])) fun l46 =>
                                 (.call 18 [.agg #[.int .u32 ((l46 0).i), .int .i64 ((l46 1).i)], .int .u32 a3] (.one (.sc (.bool))) fun l47 => -- prefix_Has
                                  (.ite ((l4 0).b)
                                   (.ite (!((l47 0).b))
                                    (.done (.bool true))
                                    (.ite ((l7 0).b)
                                     (.done (.bool true))
                                     (.rd (Instr.loadAt 24 (.pointer (some ⟨(l2 0).n, 0, none⟩))) (.one (.agg [.int .u32, .int .i64])) fun l48 =>
                                      (.rd (Instr.loadAt 24 (.pointer (some ⟨(l1 0).n, 0, none⟩))) (.one (.agg [.int .u32, .int .i64])) fun l49 =>
                                       (.call 17 [.agg #[.int .u32 ((l48 0).i), .int .i64 ((l48 1).i)], .agg #[.int .u32 ((l49 0).i), .int .i64 ((l49 1).i)]] (.one (.sc (.bool))) fun l50 => -- prefix_Covers
                                        (.done (.bool ((l50 0).b))))))))
                                   (.done (.bool false)))))
                                (.ite ((l4 0).b)
                                 (.ite (true)
                                  (.done (.bool true))
                                  (.ite ((l7 0).b)
                                   (.done (.bool true))
                                   (.rd (Instr.loadAt 24 (.pointer (some ⟨(l2 0).n, 0, none⟩))) (.one (.agg [.int .u32, .int .i64])) fun l51 =>
                                    (.rd (Instr.loadAt 24 (.pointer (some ⟨(l1 0).n, 0, none⟩))) (.one (.agg [.int .u32, .int .i64])) fun l52 =>
                                     (.call 17 [.agg #[.int .u32 ((l51 0).i), .int .i64 ((l51 1).i)], .agg #[.int .u32 ((l52 0).i), .int .i64 ((l52 1).i)]] (.one (.sc (.bool))) fun l53 => -- prefix_Covers
                                      (.done (.bool ((l53 0).b))))))))
                                 (.done (.bool false)))))))))))
                        (.ite ((l7 0).b)
                         (.rd (Instr.loadAt 24 (.pointer (some ⟨(l2 0).n, 0, none⟩))) (.one (.agg [.int .u32, .int .i64])) fun l54 =>
                          (.call 18 [.agg #[.int .u32 ((l54 0).i), .int .i64 ((l54 1).i)], .int .u32 a3] (.one (.sc (.bool))) fun l55 => -- prefix_Has
                           (.ite ((l55 0).b)
                            (.rd (Instr.loadAt 24 (.pointer (some ⟨(l1 0).n, 0, none⟩))) (.one (.agg [.int .u32, .int .i64])) fun l56 =>
                             (.call 18 [.agg #[.int .u32 ((l56 0).i), .int .i64 ((l56 1).i)], .int .u32 a3] (.one (.sc (.bool))) fun l57 => -- prefix_Has
                              (.ite (!((l57 0).b))
                               (.done (.bool false))
                               (.rd (Instr.loadAt 24 (.pointer (some ⟨(l1 0).n, 0, none⟩))) (.one (.agg [.int .u32, .int .i64])) fun l58 =>
                                (.call 18 [.agg #[.int .u32 ((l58 0).i), .int .i64 ((l58 1).i)], .int .u32 a3] (.one (.sc (.bool))) fun l59 => -- prefix_Has
                                 (.ite ((l59 0).b)
                                  (.rd (Instr.loadAt 24 (.pointer (some ⟨(l2 0).n, 0, none⟩))) (.one (.agg [.int .u32, .int .i64])) fun l60 =>
                                   (.call 18 [.agg #[.int .u32 ((l60 0).i), .int .i64 ((l60 1).i)], .int .u32 a3] (.one (.sc (.bool))) fun l61 => -- prefix_Has
                                    (.ite ((l4 0).b)
                                     (.ite (!((l61 0).b))
                                      (.done (.bool true))
                                      (.ite ((l7 0).b)
                                       (.done (.bool true))
                                       (.rd (Instr.loadAt 24 (.pointer (some ⟨(l2 0).n, 0, none⟩))) (.one (.agg [.int .u32, .int .i64])) fun l62 =>
                                        (.rd (Instr.loadAt 24 (.pointer (some ⟨(l1 0).n, 0, none⟩))) (.one (.agg [.int .u32, .int .i64])) fun l63 =>
                                         (.call 17 [.agg #[.int .u32 ((l62 0).i), .int .i64 ((l62 1).i)], .agg #[.int .u32 ((l63 0).i), .int .i64 ((l63 1).i)]] (.one (.sc (.bool))) fun l64 => -- prefix_Covers
                                          (.done (.bool ((l64 0).b))))))))
                                     (.done (.bool false)))))
                                  (.ite ((l4 0).b)
                                   (.ite (true)
                                    (.done (.bool true))
                                    (.ite ((l7 0).b)
                                     (.done (.bool true))
                                     (.rd (Instr.loadAt 24 (.pointer (some ⟨(l2 0).n, 0, none⟩))) (.one (.agg [.int .u32, .int .i64])) fun l65 =>
                                      (.rd (Instr.loadAt 24 (.pointer (some ⟨(l1 0).n, 0, none⟩))) (.one (.agg [.int .u32, .int .i64])) fun l66 =>
                                       (.call 17 [.agg #[.int .u32 ((l65 0).i), .int .i64 ((l65 1).i)], .agg #[.int .u32 ((l66 0).i), .int .i64 ((l66 1).i)]] (.one (.sc (.bool))) fun l67 => -- prefix_Covers
                                        (.done (.bool ((l67 0).b))))))))
                                   (.done (.bool false)))))))))
                            (.rd (Instr.loadAt 24 (.pointer (some ⟨(l1 0).n, 0, none⟩))) (.one (.agg [.int .u32, .int .i64])) fun l68 =>
                             (.call 18 [.agg #[.int .u32 ((l68 0).i), .int .i64 ((l68 1).i)], .int .u32 a3] (.one (.sc (.bool))) fun l69 => -- prefix_Has
                              (.ite ((l69 0).b)
                               (.rd (Instr.loadAt 24 (.pointer (some ⟨(l2 0).n, 0, none⟩))) (.one (.agg [.int .u32, .int .i64])) fun l70 =>
                                (.call 18 [.agg #[.int .u32 ((l70 0).i), .int .i64 ((l70 1).i)], .int .u32 a3] (.one (.sc (.bool))) fun l71 => -- prefix_Has
                                 (.ite ((l4 0).b)
                                  (.ite (!((l71 0).b))
                                   (.done (.bool true))
                                   (.ite ((l7 0).b)
                                    (.done (.bool true))
                                    (.rd (Instr.loadAt 24 (.pointer (some ⟨(l2 0).n, 0, none⟩))) (.one (.agg [.int .u32, .int .i64])) fun l72 =>
                                     (.rd (Instr.loadAt 24 (.pointer (some ⟨(l1 0).n, 0, none⟩))) (.one (.agg [.int .u32, .int .i64])) fun l73 =>
                                      (.call 17 [.agg #[.int .u32 ((l72 0).i), .int .i64 ((l72 1).i)], .agg #[.int .u32 ((l73 0).i), .int .i64 ((l73 1).i)]] (.one (.sc (.bool))) fun l74 => -- prefix_Covers
                                       (.done (.bool ((l74 0).b))))))))
                                  (.done (.bool false)))))
                               (.ite ((l4 0).b)
                                (.ite (true)
                                 (.done (.bool true))
                                 (.ite ((l7 0).b)
                                  (.done (.bool true))
                                  (.rd (Instr.loadAt 24 (.pointer (some ⟨(l2 0).n, 0, none⟩))) (.one (.agg [.int .u32, .int .i64])) fun l75 =>
                                   (.rd (Instr.loadAt 24 (.pointer (some ⟨(l1 0).n, 0, none⟩))) (.one (.agg [.int .u32, .int .i64])) fun l76 =>
                                    (.call 17 [.agg #[.int .u32 ((l75 0).i), .int .i64 ((l75 1).i)], .agg #[.int .u32 ((l76 0).i), .int .i64 ((l76 1).i)]] (.one (.sc (.bool))) fun l77 => -- prefix_Covers
                                     (.done (.bool ((l77 0).b))))))))
                                (.done (.bool false)))))))))
                         (.rd (Instr.loadAt 24 (.pointer (some ⟨(l1 0).n, 0, none⟩))) (.one (.agg [.int .u32, .int .i64])) fun l78 =>
                          (.call 18 [.agg #[.int .u32 ((l78 0).i), .int .i64 ((l78 1).i)], .int .u32 a3] (.one (.sc (.bool))) fun l79 => -- prefix_Has
                           (.ite ((l79 0).b)
                            (.rd (Instr.loadAt 24 (.pointer (some ⟨(l2 0).n, 0, none⟩))) (.one (.agg [.int .u32, .int .i64])) fun l80 =>
                             (.call 18 [.agg #[.int .u32 ((l80 0).i), .int .i64 ((l80 1).i)], .int .u32 a3] (.one (.sc (.bool))) fun l81 => -- prefix_Has
                              (.ite ((l4 0).b)
                               (.ite (!((l81 0).b))
                                (.done (.bool true))
                                (.ite ((l7 0).b)
                                 (.done (.bool true))
                                 (.rd (Instr.loadAt 24 (.pointer (some ⟨(l2 0).n, 0, none⟩))) (.one (.agg [.int .u32, .int .i64])) fun l82 =>
                                  (.rd (Instr.loadAt 24 (.pointer (some ⟨(l1 0).n, 0, none⟩))) (.one (.agg [.int .u32, .int .i64])) fun l83 =>
                                   (.call 17 [.agg #[.int .u32 ((l82 0).i), .int .i64 ((l82 1).i)], .agg #[.int .u32 ((l83 0).i), .int .i64 ((l83 1).i)]] (.one (.sc (.bool))) fun l84 => -- prefix_Covers
                                    (.done (.bool ((l84 0).b))))))))
                               (.done (.bool false)))))
                            (.ite ((l4 0).b)
                             (.ite (true)
                              (.done (.bool true))
                              (.ite ((l7 0).b)
                               (.done (.bool true))
                               (.rd (Instr.loadAt 24 (.pointer (some ⟨(l2 0).n, 0, none⟩))) (.one (.agg [.int .u32, .int .i64])) fun l85 =>
                                (.rd (Instr.loadAt 24 (.pointer (some ⟨(l1 0).n, 0, none⟩))) (.one (.agg [.int .u32, .int .i64])) fun l86 =>
                                 (.call 17 [.agg #[.int .u32 ((l85 0).i), .int .i64 ((l85 1).i)], .agg #[.int .u32 ((l86 0).i), .int .i64 ((l86 1).i)]] (.one (.sc (.bool))) fun l87 => -- prefix_Covers
                                  (.done (.bool ((l87 0).b))))))))
                             (.done (.bool false)))))))))))
                    (.ite ((l7 0).b)
                     (.rd (Instr.loadAt 24 (.pointer (some ⟨(l2 0).n, 0, none⟩))) (.one (.agg [.int .u32, .int .i64])) fun l88 =>
                      (.call 18 [.agg #[.int .u32 ((l88 0).i), .int .i64 ((l88 1).i)], .int .u32 a3] (.one (.sc (.bool))) fun l89 => -- prefix_Has
                       (.ite ((l89 0).b)
                        (.rd (Instr.loadAt 24 (.pointer (some ⟨(l1 0).n, 0, none⟩))) (.one (.agg [.int .u32, .int .i64])) fun l90 =>
                         (.call 18 [.agg #[.int .u32 ((l90 0).i), .int .i64 ((l90 1).i)], .int .u32 a3] (.one (.sc (.bool))) fun l91 => -- prefix_Has
                          (.ite (!((l91 0).b))
                           (.done (.bool false))
                           (.rd (Instr.loadAt 24 (.pointer (some ⟨(l1 0).n, 0, none⟩))) (.one (.agg [.int .u32, .int .i64])) fun l92 =>
                            (.call 18 [.agg #[.int .u32 ((l92 0).i), .int .i64 ((l92 1).i)], .int .u32 a3] (.one (.sc (.bool))) fun l93 => -- prefix_Has
                             (.ite ((l93 0).b)
                              (.rd (Instr.loadAt 24 (.pointer (some ⟨(l2 0).n, 0, none⟩))) (.one (.agg [.int .u32, .int .i64])) fun l94 =>
                               (.call 18 [.agg #[.int .u32 ((l94 0).i), .int .i64 ((l94 1).i)], .int .u32 a3] (.one (.sc (.bool))) fun l95 => -- prefix_Has
                                (.ite ((l4 0).b)
                                 (.ite (!((l95 0).b))
                                  (.done (.bool true))
                                  (.ite ((l7 0).b)
                                   (.done (.bool true))
                                   (.rd (Instr.loadAt 24 (.pointer (some ⟨(l2 0).n, 0, none⟩))) (.one (.agg [.int .u32, .int .i64])) fun l96 =>
                                    (.rd (Instr.loadAt 24 (.pointer (some ⟨(l1 0).n, 0, none⟩))) (.one (.agg [.int .u32, .int .i64])) fun l97 =>
                                     (.call 17 [.agg #[.int .u32 ((l96 0).i), .int .i64 ((l96 1).i)], .agg #[.int .u32 ((l97 0).i), .int .i64 ((l97 1).i)]] (.one (.sc (.bool))) fun l98 => -- prefix_Covers
                                      (.done (.bool ((l98 0).b))))))))
                                 (.done (.bool false)))))
                              (.ite ((l4 0).b)
                               (.ite (true)
                                (.done (.bool true))
                                (.ite ((l7 0).b)
                                 (.done (.bool true))
                                 (.rd (Instr.loadAt 24 (.pointer (some ⟨(l2 0).n, 0, none⟩))) (.one (.agg [.int .u32, .int .i64])) fun l99 =>
                                  (.rd (Instr.loadAt 24 (.pointer (some ⟨(l1 0).n, 0, none⟩))) (.one (.agg [.int .u32, .int .i64])) fun l100 =>
                                   (.call 17 [.agg #[.int .u32 ((l99 0).i), .int .i64 ((l99 1).i)], .agg #[.int .u32 ((l100 0).i), .int .i64 ((l100 1).i)]] (.one (.sc (.bool))) fun l101 => -- prefix_Covers
                                    (.done (.bool ((l101 0).b))))))))
                               (.done (.bool false)))))))))
                        (.rd (Instr.loadAt 24 (.pointer (some ⟨(l1 0).n, 0, none⟩))) (.one (.agg [.int .u32, .int .i64])) fun l102 =>
                         (.call 18 [.agg #[.int .u32 ((l102 0).i), .int .i64 ((l102 1).i)], .int .u32 a3] (.one (.sc (.bool))) fun l103 => -- prefix_Has
                          (.ite ((l103 0).b)
                           (.rd (Instr.loadAt 24 (.pointer (some ⟨(l2 0).n, 0, none⟩))) (.one (.agg [.int .u32, .int .i64])) fun l104 =>
                            (.call 18 [.agg #[.int .u32 ((l104 0).i), .int .i64 ((l104 1).i)], .int .u32 a3] (.one (.sc (.bool))) fun l105 => -- prefix_Has
                             (.ite ((l4 0).b)
                              (.ite (!((l105 0).b))
                               (.done (.bool true))
                               (.ite ((l7 0).b)
                                (.done (.bool true))
                                (.rd (Instr.loadAt 24 (.pointer (some ⟨(l2 0).n, 0, none⟩))) (.one (.agg [.int .u32, .int .i64])) fun l106 =>
                                 (.rd (Instr.loadAt 24 (.pointer (some ⟨(l1 0).n, 0, none⟩))) (.one (.agg [.int .u32, .int .i64])) fun l107 =>
                                  (.call 17 [.agg #[.int .u32 ((l106 0).i), .int .i64 ((l106 1).i)], .agg #[.int .u32 ((l107 0).i), .int .i64 ((l107 1).i)]] (.one (.sc (.bool))) fun l108 => -- prefix_Covers
                                   (.done (.bool ((l108 0).b))))))))
                              (.done (.bool false)))))
                           (.ite ((l4 0).b)
                            (.ite (true)
                             (.done (.bool true))
                             (.ite ((l7 0).b)
                              (.done (.bool true))
                              (.rd (Instr.loadAt 24 (.pointer (some ⟨(l2 0).n, 0, none⟩))) (.one (.agg [.int .u32, .int .i64])) fun l109 =>
                               (.rd (Instr.loadAt 24 (.pointer (some ⟨(l1 0).n, 0, none⟩))) (.one (.agg [.int .u32, .int .i64])) fun l110 =>
                                (.call 17 [.agg #[.int .u32 ((l109 0).i), .int .i64 ((l109 1).i)], .agg #[.int .u32 ((l110 0).i), .int .i64 ((l110 1).i)]] (.one (.sc (.bool))) fun l111 => -- prefix_Covers
                                 (.done (.bool ((l111 0).b))))))))
                            (.done (.bool false)))))))))
                     (.rd (Instr.loadAt 24 (.pointer (some ⟨(l1 0).n, 0, none⟩))) (.one (.agg [.int .u32, .int .i64])) fun l112 =>
                      (.call 18 [.agg #[.int .u32 ((l112 0).i), .int .i64 ((l112 1).i)], .int .u32 a3] (.one (.sc (.bool))) fun l113 => -- prefix_Has
                       (.ite ((l113 0).b)
                        (.rd (Instr.loadAt 24 (.pointer (some ⟨(l2 0).n, 0, none⟩))) (.one (.agg [.int .u32, .int .i64])) fun l114 =>
                         (.call 18 [.agg #[.int .u32 ((l114 0).i), .int .i64 ((l114 1).i)], .int .u32 a3] (.one (.sc (.bool))) fun l115 => -- prefix_Has
                          (.ite ((l4 0).b)
                           (.ite (!((l115 0).b))
                            (.done (.bool true))
                            (.ite ((l7 0).b)
                             (.done (.bool true))
                             (.rd (Instr.loadAt 24 (.pointer (some ⟨(l2 0).n, 0, none⟩))) (.one (.agg [.int .u32, .int .i64])) fun l116 =>
                              (.rd (Instr.loadAt 24 (.pointer (some ⟨(l1 0).n, 0, none⟩))) (.one (.agg [.int .u32, .int .i64])) fun l117 =>
                               (.call 17 [.agg #[.int .u32 ((l116 0).i), .int .i64 ((l116 1).i)], .agg #[.int .u32 ((l117 0).i), .int .i64 ((l117 1).i)]] (.one (.sc (.bool))) fun l118 => -- prefix_Covers
                                (.done (.bool ((l118 0).b))))))))
                           (.done (.bool false)))))
                        (.ite ((l4 0).b)
                         (.ite (true)
                          (.done (.bool true))
                          (.ite ((l7 0).b)
                           (.done (.bool true))
                           (.rd (Instr.loadAt 24 (.pointer (some ⟨(l2 0).n, 0, none⟩))) (.one (.agg [.int .u32, .int .i64])) fun l119 =>
                            (.rd (Instr.loadAt 24 (.pointer (some ⟨(l1 0).n, 0, none⟩))) (.one (.agg [.int .u32, .int .i64])) fun l120 =>
                             (.call 17 [.agg #[.int .u32 ((l119 0).i), .int .i64 ((l119 1).i)], .agg #[.int .u32 ((l120 0).i), .int .i64 ((l120 1).i)]] (.one (.sc (.bool))) fun l121 => -- prefix_Covers
                              (.done (.bool ((l121 0).b))))))))
                         (.done (.bool false))))))))))))
               (.ite ((l7 0).b)
                (.rd (Instr.loadAt 24 (.pointer (some ⟨(l2 0).n, 0, none⟩))) (.one (.agg [.int .u32, .int .i64])) fun l122 =>
                 (.rd (Instr.loadAt 24 (.pointer (some ⟨(l1 0).n, 0, none⟩))) (.one (.agg [.int .u32, .int .i64])) fun l123 =>
                  (.call 17 [.agg #[.int .u32 ((l122 0).i), .int .i64 ((l122 1).i)], .agg #[.int .u32 ((l123 0).i), .int .i64 ((l123 1).i)]] (.one (.sc (.bool))) fun l124 => -- prefix_Covers
                   (.ite ((l124 0).b)
                    (.rd (Instr.loadAt 24 (.pointer (some ⟨(l1 0).n, 0, none⟩))) (.one (.agg [.int .u32, .int .i64])) fun l125 =>
                     (.rd (Instr.loadAt 24 (.pointer (some ⟨(l2 0).n, 0, none⟩))) (.one (.agg [.int .u32, .int .i64])) fun l126 =>
                      (.rdn (eqN .neq 24 (.tmp 0) (.tmp 0) (.agg #[.int .u32 ((l125 0).i), .int .i64 ((l125 1).i)]) (.agg #[.int .u32 ((l126 0).i), .int .i64 ((l126 1).i)])) (.one (.sc (.bool))) fun l127 =>
                       (.ite ((l127 0).b)
                        (.done (.bool false))
                        (.ite ((l7 0).b)
                         (.rd (Instr.loadAt 24 (.pointer (some ⟨(l2 0).n, 0, none⟩))) (.one (.agg [.int .u32, .int .i64])) fun l128 =>
                          (.call 18 [.agg #[.int .u32 ((l128 0).i), .int .i64 ((l128 1).i)], .int .u32 a3] (.one (.sc (.bool))) fun l129 => -- prefix_Has
                           (.ite ((l129 0).b)
                            (.rd (Instr.loadAt 24 (.pointer (some ⟨(l1 0).n, 0, none⟩))) (.one (.agg [.int .u32, .int .i64])) fun l130 =>
                             (.call 18 [.agg #[.int .u32 ((l130 0).i), .int .i64 ((l130 1).i)], .int .u32 a3] (.one (.sc (.bool))) fun l131 => -- prefix_Has
                              (.ite (!((l131 0).b))
                               (.done (.bool false))
                               (.rd (Instr.loadAt 24 (.pointer (some ⟨(l1 0).n, 0, none⟩))) (.one (.agg [.int .u32, .int .i64])) fun l132 =>
                                (.call 18 [.agg #[.int .u32 ((l132 0).i), .int .i64 ((l132 1).i)], .int .u32 a3] (.one (.sc (.bool))) fun l133 => -- prefix_Has
                                 (.ite ((l133 0).b)
                                  (.rd (Instr.loadAt 24 (.pointer (some ⟨(l2 0).n, 0, none⟩))) (.one (.agg [.int .u32, .int .i64])) fun l134 =>
                                   (.call 18 [.agg #[.int .u32 ((l134 0).i), .int .i64 ((l134 1).i)], .int .u32 a3] (.one (.sc (.bool))) fun l135 => -- prefix_Has
                                    (.ite ((l4 0).b)
                                     (.ite (!((l135 0).b))
                                      (.done (.bool true))
                                      (.ite ((l7 0).b)
                                       (.done (.bool true))
                                       (.rd (Instr.loadAt 24 (.pointer (some ⟨(l2 0).n, 0, none⟩))) (.one (.agg [.int .u32, .int .i64])) fun l136 =>
                                        (.rd (Instr.loadAt 24 (.pointer (some ⟨(l1 0).n, 0, none⟩))) (.one (.agg [.int .u32, .int .i64])) fun l137 =>
                                         (.call 17 [.agg #[.int .u32 ((l136 0).i), .int .i64 ((l136 1).i)], .agg #[.int .u32 ((l137 0).i), .int .i64 ((l137 1).i)]] (.one (.sc (.bool))) fun l138 => -- prefix_Covers
                                          (.done (.bool ((l138 0).b))))))))
                                     (.done (.bool false)))))
                                  (.ite ((l4 0).b)
                                   (.ite (true)
                                    (.done (.bool true))
                                    (.ite ((l7 0).b)
                                     (.done (.bool true))
                                     (.rd (Instr.loadAt 24 (.pointer (some ⟨(l2 0).n, 0, none⟩))) (.one (.agg [.int .u32, .int .i64])) fun l139 =>
                                      (.rd (Instr.loadAt 24 (.pointer (some ⟨(l1 0).n, 0, none⟩))) (.one (.agg [.int .u32, .int .i64])) fun l140 =>
                                       (.call 17 [.agg #[.int .u32 ((l139 0).i), .int .i64 ((l139 1).i)], .agg #[.int .u32 ((l140 0).i), .int .i64 ((l140 1).i)]] (.one (.sc (.bool))) fun l141 => -- prefix_Covers
                                        (.done (.bool ((l141 0).b))))))))
                                   (.done (.bool false)))))))))
                            (.rd (Instr.loadAt 24 (.pointer (some ⟨(l1 0).n, 0, none⟩))) (.one (.agg [.int .u32, .int .i64])) fun l142 =>
                             (.call 18 [.agg #[.int .u32 ((l142 0).i), .int .i64 ((l142 1).i)], .int .u32 a3] (.one (.sc (.bool))) fun l143 => -- prefix_Has
                              (.ite ((l143 0).b)
                               (.rd (Instr.loadAt 24 (.pointer (some ⟨(l2 0).n, 0, none⟩))) (.one (.agg [.int .u32, .int .i64])) fun l144 =>
                                (.call 18 [.agg #[.int .u32 ((l144 0).i), .int .i64 ((l144 1).i)], .int .u32 a3] (.one (.sc (.bool))) fun l145 => -- prefix_Has
                                 (.ite ((l4 0).b)
                                  (.ite (!((l145 0).b))
                                   (.done (.bool true))
                                   (.ite ((l7 0).b)
                                    (.done (.bool true))
                                    (.rd (Instr.loadAt 24 (.pointer (some ⟨(l2 0).n, 0, none⟩))) (.one (.agg [.int .u32, .int .i64])) fun l146 =>
                                     (.rd (Instr.loadAt 24 (.pointer (some ⟨(l1 0).n, 0, none⟩))) (.one (.agg [.int .u32, .int .i64])) fun l147 =>
                                      (.call 17 [.agg #[.int .u32 ((l146 0).i), .int .i64 ((l146 1).i)], .agg #[.int .u32 ((l147 0).i), .int .i64 ((l147 1).i)]] (.one (.sc (.bool))) fun l148 => -- prefix_Covers
                                       (.done (.bool ((l148 0).b))))))))
                                  (.done (.bool false)))))
                               (.ite ((l4 0).b)
                                (.ite (true)
                                 (.done (.bool true))
                                 (.ite ((l7 0).b)
                                  (.done (.bool true))
                                  (.rd (Instr.loadAt 24 (.pointer (some ⟨(l2 0).n, 0, none⟩))) (.one (.agg [.int .u32, .int .i64])) fun l149 =>
                                   (.rd (Instr.loadAt 24 (.pointer (some ⟨(l1 0).n, 0, none⟩))) (.one (.agg [.int .u32, .int .i64])) fun l150 =>
                                    (.call 17 [.agg #[.int .u32 ((l149 0).i), .int .i64 ((l149 1).i)], .agg #[.int .u32 ((l150 0).i), .int .i64 ((l150 1).i)]] (.one (.sc (.bool))) fun l151 => -- prefix_Covers
                                     (.done (.bool ((l151 0).b))))))))
                                (.done (.bool false)))))))))
                         (.rd (Instr.loadAt 24 (.pointer (some ⟨(l1 0).n, 0, none⟩))) (.one (.agg [.int .u32, .int .i64])) fun l152 =>
                          (.call 18 [.agg #[.int .u32 ((l152 0).i), .int .i64 ((l152 1).i)], .int .u32 a3] (.one (.sc (.bool))) fun l153 => -- prefix_Has
                           (.ite ((l153 0).b)
                            (.rd (Instr.loadAt 24 (.pointer (some ⟨(l2 0).n, 0, none⟩))) (.one (.agg [.int .u32, .int .i64])) fun l154 =>
                             (.call 18 [.agg #[.int .u32 ((l154 0).i), .int .i64 ((l154 1).i)], .int .u32 a3] (.one (.sc (.bool))) fun l155 => -- prefix_Has
                              (.ite ((l4 0).b)
                               (.ite (!((l155 0).b))
                                (.done (.bool true))
                                (.ite ((l7 0).b)
                                 (.done (.bool true))
                                 (.rd (Instr.loadAt 24 (.pointer (some ⟨(l2 0).n, 0, none⟩))) (.one (.agg [.int .u32, .int .i64])) fun l156 =>
                                  (.rd (Instr.loadAt 24 (.pointer (some ⟨(l1 0).n, 0, none⟩))) (.one (.agg [.int .u32, .int .i64])) fun l157 =>
                                   (.call 17 [.agg #[.int .u32 ((l156 0).i), .int .i64 ((l156 1).i)], .agg #[.int .u32 ((l157 0).i), .int .i64 ((l157 1).i)]] (.one (.sc (.bool))) fun l158 => -- prefix_Covers
                                    (.done (.bool ((l158 0).b))))))))
                               (.done (.bool false)))))
                            (.ite ((l4 0).b)
                             (.ite (true)
                              (.done (.bool true))
                              (.ite ((l7 0).b)
                               (.done (.bool true))
                               (.rd (Instr.loadAt 24 (.pointer (some ⟨(l2 0).n, 0, none⟩))) (.one (.agg [.int .u32, .int .i64])) fun l159 =>
                                (.rd (Instr.loadAt 24 (.pointer (some ⟨(l1 0).n, 0, none⟩))) (.one (.agg [.int .u32, .int .i64])) fun l160 =>
                                 (.call 17 [.agg #[.int .u32 ((l159 0).i), .int .i64 ((l159 1).i)], .agg #[.int .u32 ((l160 0).i), .int .i64 ((l160 1).i)]] (.one (.sc (.bool))) fun l161 => -- prefix_Covers
                                  (.done (.bool ((l161 0).b))))))))
                             (.done (.bool false)))))))))))
                    (.ite ((l7 0).b)
                     (.rd (Instr.loadAt 24 (.pointer (some ⟨(l2 0).n, 0, none⟩))) (.one (.agg [.int .u32, .int .i64])) fun l162 =>
                      (.call 18 [.agg #[.int .u32 ((l162 0).i), .int .i64 ((l162 1).i)], .int .u32 a3] (.one (.sc (.bool))) fun l163 => -- prefix_Has
                       (.ite ((l163 0).b)
                        (.rd (Instr.loadAt 24 (.pointer (some ⟨(l1 0).n, 0, none⟩))) (.one (.agg [.int .u32, .int .i64])) fun l164 =>
                         (.call 18 [.agg #[.int .u32 ((l164 0).i), .int .i64 ((l164 1).i)], .int .u32 a3] (.one (.sc (.bool))) fun l165 => -- prefix_Has
                          (.ite (!((l165 0).b))
                           (.done (.bool false))
                           (.rd (Instr.loadAt 24 (.pointer (some ⟨(l1 0).n, 0, none⟩))) (.one (.agg [.int .u32, .int .i64])) fun l166 =>
                            (.call 18 [.agg #[.int .u32 ((l166 0).i), .int .i64 ((l166 1).i)], .int .u32 a3] (.one (.sc (.bool))) fun l167 => -- prefix_Has
                             (.ite ((l167 0).b)
                              (.rd (Instr.loadAt 24 (.pointer (some ⟨(l2 0).n, 0, none⟩))) (.one (.agg [.int .u32, .int .i64])) fun l168 =>
                               (.call 18 [.agg #[.int .u32 ((l168 0).i), .int .i64 ((l168 1).i)], .int .u32 a3] (.one (.sc (.bool))) fun l169 => -- prefix_Has
                                (.ite ((l4 0).b)
                                 (.ite (!((l169 0).b))
                                  (.done (.bool true))
                                  (.ite ((l7 0).b)
                                   (.done (.bool true))
                                   (.rd (Instr.loadAt 24 (.pointer (some ⟨(l2 0).n, 0, none⟩))) (.one (.agg [.int .u32, .int .i64])) fun l170 =>
                                    (.rd (Instr.loadAt 24 (.pointer (some ⟨(l1 0).n, 0, none⟩))) (.one (.agg [.int .u32, .int .i64])) fun l171 =>
                                     (.call 17 [.agg #[.int .u32 ((l170 0).i), .int .i64 ((l170 1).i)], .agg #[.int .u32 ((l171 0).i), .int .i64 ((l171 1).i)]] (.one (.sc (.bool))) fun l172 => -- prefix_Covers
                                      (.done (.bool ((l172 0).b))))))))
                                 (.done (.bool false)))))
                              (.ite ((l4 0).b)
                               (.ite (true)
                                (.done (.bool true))
                                (.ite ((l7 0).b)
                                 (.done (.bool true))
                                 (.rd (Instr.loadAt 24 (.pointer (some ⟨(l2 0).n, 0, none⟩))) (.one (.agg [.int .u32, .int .i64])) fun l173 =>
                                  (.rd (Instr.loadAt 24 (.pointer (some ⟨(l1 0).n, 0, none⟩))) (.one (.agg [.int .u32, .int .i64])) fun l174 =>
                                   (.call 17 [.agg #[.int .u32 ((l173 0).i), .int .i64 ((l173 1).i)], .agg #[.int .u32 ((l174 0).i), .int .i64 ((l174 1).i)]] (.one (.sc (.bool))) fun l175 => -- prefix_Covers
                                    (.done (.bool ((l175 0).b))))))))
                               (.done (.bool false)))))))))
                        (.rd (Instr.loadAt 24 (.pointer (some ⟨(l1 0).n, 0, none⟩))) (.one (.agg [.int .u32, .int .i64])) fun l176 =>
                         (.call 18 [.agg #[.int .u32 ((l176 0).i), .int .i64 ((l176 1).i)], .int .u32 a3] (.one (.sc (.bool))) fun l177 => -- prefix_Has
                          (.ite ((l177 0).b)
                           (.rd (Instr.loadAt 24 (.pointer (some ⟨(l2 0).n, 0, none⟩))) (.one (.agg [.int .u32, .int .i64])) fun l178 =>
                            (.call 18 [.agg #[.int .u32 ((l178 0).i), .int .i64 ((l178 1).i)], .int .u32 a3] (.one (.sc (.bool))) fun l179 => -- prefix_Has
                             (.ite ((l4 0).b)
                              (.ite (!((l179 0).b))
                               (.done (.bool true))
                               (.ite ((l7 0).b)
                                (.done (.bool true))
                                (.rd (Instr.loadAt 24 (.pointer (some ⟨(l2 0).n, 0, none⟩))) (.one (.agg [.int .u32, .int .i64])) fun l180 =>
                                 (.rd (Instr.loadAt 24 (.pointer (some ⟨(l1 0).n, 0, none⟩))) (.one (.agg [.int .u32, .int .i64])) fun l181 =>
                                  (.call 17 [.agg #[.int .u32 ((l180 0).i), .int .i64 ((l180 1).i)], .agg #[.int .u32 ((l181 0).i), .int .i64 ((l181 1).i)]] (.one (.sc (.bool))) fun l182 => -- prefix_Covers
                                   (.done (.bool ((l182 0).b))))))))
                              (.done (.bool false)))))
                           (.ite ((l4 0).b)
                            (.ite (true)
                             (.done (.bool true))
                             (.ite ((l7 0).b)
                              (.done (.bool true))
                              (.rd (Instr.loadAt 24 (.pointer (some ⟨(l2 0).n, 0, none⟩))) (.one (.agg [.int .u32, .int .i64])) fun l183 =>
                               (.rd (Instr.loadAt 24 (.pointer (some ⟨(l1 0).n, 0, none⟩))) (.one (.agg [.int .u32, .int .i64])) fun l184 =>
                                (.call 17 [.agg #[.int .u32 ((l183 0).i), .int .i64 ((l183 1).i)], .agg #[.int .u32 ((l184 0).i), .int .i64 ((l184 1).i)]] (.one (.sc (.bool))) fun l185 => -- prefix_Covers
                                 (.done (.bool ((l185 0).b))))))))
                            (.done (.bool false)))))))))
                     (.rd (Instr.loadAt 24 (.pointer (some ⟨(l1 0).n, 0, none⟩))) (.one (.agg [.int .u32, .int .i64])) fun l186 =>
                      (.call 18 [.agg #[.int .u32 ((l186 0).i), .int .i64 ((l186 1).i)], .int .u32 a3] (.one (.sc (.bool))) fun l187 => -- prefix_Has
                       (.ite ((l187 0).b)
                        (.rd (Instr.loadAt 24 (.pointer (some ⟨(l2 0).n, 0, none⟩))) (.one (.agg [.int .u32, .int .i64])) fun l188 =>
                         (.call 18 [.agg #[.int .u32 ((l188 0).i), .int .i64 ((l188 1).i)], .int .u32 a3] (.one (.sc (.bool))) fun l189 => -- prefix_Has
                          (.ite ((l4 0).b)
                           (.ite (!((l189 0).b))
                            (.done (.bool true))
                            (.ite ((l7 0).b)
                             (.done (.bool true))
                             (.rd (Instr.loadAt 24 (.pointer (some ⟨(l2 0).n, 0, none⟩))) (.one (.agg [.int .u32, .int .i64])) fun l190 =>
                              (.rd (Instr.loadAt 24 (.pointer (some ⟨(l1 0).n, 0, none⟩))) (.one (.agg [.int .u32, .int .i64])) fun l191 =>
                               (.call 17 [.agg #[.int .u32 ((l190 0).i), .int .i64 ((l190 1).i)], .agg #[.int .u32 ((l191 0).i), .int .i64 ((l191 1).i)]] (.one (.sc (.bool))) fun l192 => -- prefix_Covers
                                (.done (.bool ((l192 0).b))))))))
                           (.done (.bool false)))))
                        (.ite ((l4 0).b)
                         (.ite (true)
                          (.done (.bool true))
                          (.ite ((l7 0).b)
                           (.done (.bool true))
                           (.rd (Instr.loadAt 24 (.pointer (some ⟨(l2 0).n, 0, none⟩))) (.one (.agg [.int .u32, .int .i64])) fun l193 =>
                            (.rd (Instr.loadAt 24 (.pointer (some ⟨(l1 0).n, 0, none⟩))) (.one (.agg [.int .u32, .int .i64])) fun l194 =>
                             (.call 17 [.agg #[.int .u32 ((l193 0).i), .int .i64 ((l193 1).i)], .agg #[.int .u32 ((l194 0).i), .int .i64 ((l194 1).i)]] (.one (.sc (.bool))) fun l195 => -- prefix_Covers
                              (.done (.bool ((l195 0).b))))))))
                         (.done (.bool false)))))))))))
                (.ite ((l7 0).b)
                 (.rd (Instr.loadAt 24 (.pointer (some ⟨(l2 0).n, 0, none⟩))) (.one (.agg [.int .u32, .int .i64])) fun l196 =>
                  (.call 18 [.agg #[.int .u32 ((l196 0).i), .int .i64 ((l196 1).i)], .int .u32 a3] (.one (.sc (.bool))) fun l197 => -- prefix_Has
                   (.ite ((l197 0).b)
                    (.rd (Instr.loadAt 24 (.pointer (some ⟨(l1 0).n, 0, none⟩))) (.one (.agg [.int .u32, .int .i64])) fun l198 =>
                     (.call 18 [.agg #[.int .u32 ((l198 0).i), .int .i64 ((l198 1).i)], .int .u32 a3] (.one (.sc (.bool))) fun l199 => -- prefix_Has
                      (.ite (!((l199 0).b))
                       (.done (.bool false))
                       (.rd (Instr.loadAt 24 (.pointer (some ⟨(l1 0).n, 0, none⟩))) (.one (.agg [.int .u32, .int .i64])) fun l200 =>
                        (.call 18 [.agg #[.int .u32 ((l200 0).i), .int .i64 ((l200 1).i)], .int .u32 a3] (.one (.sc (.bool))) fun l201 => -- prefix_Has
                         (.ite ((l201 0).b)
                          (.rd (Instr.loadAt 24 (.pointer (some ⟨(l2 0).n, 0, none⟩))) (.one (.agg [.int .u32, .int .i64])) fun l202 =>
                           (.call 18 [.agg #[.int .u32 ((l202 0).i), .int .i64 ((l202 1).i)], .int .u32 a3] (.one (.sc (.bool))) fun l203 => -- prefix_Has
                            (.ite ((l4 0).b)
                             (.ite (!((l203 0).b))
                              (.done (.bool true))
                              (.ite ((l7 0).b)
                               (.done (.bool true))
                               (.rd (Instr.loadAt 24 (.pointer (some ⟨(l2 0).n, 0, none⟩))) (.one (.agg [.int .u32, .int .i64])) fun l204 =>
                                (.rd (Instr.loadAt 24 (.pointer (some ⟨(l1 0).n, 0, none⟩))) (.one (.agg [.int .u32, .int .i64])) fun l205 =>
                                 (.call 17 [.agg #[.int .u32 ((l204 0).i), .int .i64 ((l204 1).i)], .agg #[.int .u32 ((l205 0).i), .int .i64 ((l205 1).i)]] (.one (.sc (.bool))) fun l206 => -- prefix_Covers
                                  (.done (.bool ((l206 0).b))))))))
                             (.done (.bool false)))))
                          (.ite ((l4 0).b)
                           (.ite (true)
                            (.done (.bool true))
                            (.ite ((l7 0).b)
                             (.done (.bool true))
                             (.rd (Instr.loadAt 24 (.pointer (some ⟨(l2 0).n, 0, none⟩))) (.one (.agg [.int .u32, .int .i64])) fun l207 =>
                              (.rd (Instr.loadAt 24 (.pointer (some ⟨(l1 0).n, 0, none⟩))) (.one (.agg [.int .u32, .int .i64])) fun l208 =>
                               (.call 17 [.agg #[.int .u32 ((l207 0).i), .int .i64 ((l207 1).i)], .agg #[.int .u32 ((l208 0).i), .int .i64 ((l208 1).i)]] (.one (.sc (.bool))) fun l209 => -- prefix_Covers
                                (.done (.bool ((l209 0).b))))))))
                           (.done (.bool false)))))))))
                    (.rd (Instr.loadAt 24 (.pointer (some ⟨(l1 0).n, 0, none⟩))) (.one (.agg [.int .u32, .int .i64])) fun l210 =>
                     (.call 18 [.agg #[.int .u32 ((l210 0).i), .int .i64 ((l210 1).i)], .int .u32 a3] (.one (.sc (.bool))) fun l211 => -- prefix_Has
                      (.ite ((l211 0).b)
                       (.rd (Instr.loadAt 24 (.pointer (some ⟨(l2 0).n, 0, none⟩))) (.one (.agg [.int .u32, .int .i64])) fun l212 =>
                        (.call 18 [.agg #[.int .u32 ((l212 0).i), .int .i64 ((l212 1).i)], .int .u32 a3] (.one (.sc (.bool))) fun l213 => -- prefix_Has
                         (.ite ((l4 0).b)
                          (.ite (!((l213 0).b))
                           (.done (.bool true))
                           (.ite ((l7 0).b)
                            (.done (.bool true))
                            (.rd (Instr.loadAt 24 (.pointer (some ⟨(l2 0).n, 0, none⟩))) (.one (.agg [.int .u32, .int .i64])) fun l214 =>
                             (.rd (Instr.loadAt 24 (.pointer (some ⟨(l1 0).n, 0, none⟩))) (.one (.agg [.int .u32, .int .i64])) fun l215 =>
                              (.call 17 [.agg #[.int .u32 ((l214 0).i), .int .i64 ((l214 1).i)], .agg #[.int .u32 ((l215 0).i), .int .i64 ((l215 1).i)]] (.one (.sc (.bool))) fun l216 => -- prefix_Covers
                               (.done (.bool ((l216 0).b))))))))
                          (.done (.bool false)))))
                       (.ite ((l4 0).b)
                        (.ite (true)
                         (.done (.bool true))
                         (.ite ((l7 0).b)
                          (.done (.bool true))
                          (.rd (Instr.loadAt 24 (.pointer (some ⟨(l2 0).n, 0, none⟩))) (.one (.agg [.int .u32, .int .i64])) fun l217 =>
                           (.rd (Instr.loadAt 24 (.pointer (some ⟨(l1 0).n, 0, none⟩))) (.one (.agg [.int .u32, .int .i64])) fun l218 =>
                            (.call 17 [.agg #[.int .u32 ((l217 0).i), .int .i64 ((l217 1).i)], .agg #[.int .u32 ((l218 0).i), .int .i64 ((l218 1).i)]] (.one (.sc (.bool))) fun l219 => -- prefix_Covers
                             (.done (.bool ((l219 0).b))))))))
                        (.done (.bool false)))))))))
                 (.rd (Instr.loadAt 24 (.pointer (some ⟨(l1 0).n, 0, none⟩))) (.one (.agg [.int .u32, .int .i64])) fun l220 =>
                  (.call 18 [.agg #[.int .u32 ((l220 0).i), .int .i64 ((l220 1).i)], .int .u32 a3] (.one (.sc (.bool))) fun l221 => -- prefix_Has
                   (.ite ((l221 0).b)
                    (.rd (Instr.loadAt 24 (.pointer (some ⟨(l2 0).n, 0, none⟩))) (.one (.agg [.int .u32, .int .i64])) fun l222 =>
                     (.call 18 [.agg #[.int .u32 ((l222 0).i), .int .i64 ((l222 1).i)], .int .u32 a3] (.one (.sc (.bool))) fun l223 => -- prefix_Has
                      (.ite ((l4 0).b)
                       (.ite (!((l223 0).b))
                        (.done (.bool true))
                        (.ite ((l7 0).b)
                         (.done (.bool true))
                         (.rd (Instr.loadAt 24 (.pointer (some ⟨(l2 0).n, 0, none⟩))) (.one (.agg [.int .u32, .int .i64])) fun l224 =>
                          (.rd (Instr.loadAt 24 (.pointer (some ⟨(l1 0).n, 0, none⟩))) (.one (.agg [.int .u32, .int .i64])) fun l225 =>
                           (.call 17 [.agg #[.int .u32 ((l224 0).i), .int .i64 ((l224 1).i)], .agg #[.int .u32 ((l225 0).i), .int .i64 ((l225 1).i)]] (.one (.sc (.bool))) fun l226 => -- prefix_Covers
                            (.done (.bool ((l226 0).b))))))))
                       (.done (.bool false)))))
                    (.ite ((l4 0).b)
                     (.ite (true)
                      (.done (.bool true))
                      (.ite ((l7 0).b)
                       (.done (.bool true))
                       (.rd (Instr.loadAt 24 (.pointer (some ⟨(l2 0).n, 0, none⟩))) (.one (.agg [.int .u32, .int .i64])) fun l227 =>
                        (.rd (Instr.loadAt 24 (.pointer (some ⟨(l1 0).n, 0, none⟩))) (.one (.agg [.int .u32, .int .i64])) fun l228 =>
                         (.call 17 [.agg #[.int .u32 ((l227 0).i), .int .i64 ((l227 1).i)], .agg #[.int .u32 ((l228 0).i), .int .i64 ((l228 1).i)]] (.one (.sc (.bool))) fun l229 => -- prefix_Covers
                          (.done (.bool ((l229 0).b))))))))
                     (.done (.bool false)))))))))
              (.ite ((l7 0).b)
               (.rd (Instr.loadAt 24 (.pointer (some ⟨(l2 0).n, 0, none⟩))) (.one (.agg [.int .u32, .int .i64])) fun l230 =>
                (.rd (Instr.loadAt 24 (.pointer (some ⟨(l1 0).n, 0, none⟩))) (.one (.agg [.int .u32, .int .i64])) fun l231 =>
                 (.call 17 [.agg #[.int .u32 ((l230 0).i), .int .i64 ((l230 1).i)], .agg #[.int .u32 ((l231 0).i), .int .i64 ((l231 1).i)]] (.one (.sc (.bool))) fun l232 => -- prefix_Covers
                  (.ite ((l232 0).b)
                   (.rd (Instr.loadAt 24 (.pointer (some ⟨(l1 0).n, 0, none⟩))) (.one (.agg [.int .u32, .int .i64])) fun l233 =>
                    (.rd (Instr.loadAt 24 (.pointer (some ⟨(l2 0).n, 0, none⟩))) (.one (.agg [.int .u32, .int .i64])) fun l234 =>
                     (.rdn (eqN .neq 24 (.tmp 0) (.tmp 0) (.agg #[.int .u32 ((l233 0).i), .int .i64 ((l233 1).i)]) (.agg #[.int .u32 ((l234 0).i), .int .i64 ((l234 1).i)])) (.one (.sc (.bool))) fun l235 =>
                      (.ite ((l235 0).b)
                       (.done (.bool false))
                       (.ite ((l7 0).b)
                        (.rd (Instr.loadAt 24 (.pointer (some ⟨(l2 0).n, 0, none⟩))) (.one (.agg [.int .u32, .int .i64])) fun l236 =>
                         (.call 18 [.agg #[.int .u32 ((l236 0).i), .int .i64 ((l236 1).i)], .int .u32 a3] (.one (.sc (.bool))) fun l237 => -- prefix_Has
                          (.ite ((l237 0).b)
                           (.rd (Instr.loadAt 24 (.pointer (some ⟨(l1 0).n, 0, none⟩))) (.one (.agg [.int .u32, .int .i64])) fun l238 =>
                            (.call 18 [.agg #[.int .u32 ((l238 0).i), .int .i64 ((l238 1).i)], .int .u32 a3] (.one (.sc (.bool))) fun l239 => -- prefix_Has
                             (.ite (!((l239 0).b))
                              (.done (.bool false))
                              (.rd (Instr.loadAt 24 (.pointer (some ⟨(l1 0).n, 0, none⟩))) (.one (.agg [.int .u32, .int .i64])) fun l240 =>
                               (.call 18 [.agg #[.int .u32 ((l240 0).i), .int .i64 ((l240 1).i)], .int .u32 a3] (.one (.sc (.bool))) fun l241 => -- prefix_Has
                                (.ite ((l241 0).b)
                                 (.rd (Instr.loadAt 24 (.pointer (some ⟨(l2 0).n, 0, none⟩))) (.one (.agg [.int .u32, .int .i64])) fun l242 =>
                                  (.call 18 [.agg #[.int .u32 ((l242 0).i), .int .i64 ((l242 1).i)], .int .u32 a3] (.one (.sc (.bool))) fun l243 => -- prefix_Has
                                   (.ite ((l4 0).b)
                                    (.ite (!((l243 0).b))
                                     (.done (.bool true))
                                     (.ite ((l7 0).b)
                                      (.done (.bool true))
                                      (.rd (Instr.loadAt 24 (.pointer (some ⟨(l2 0).n, 0, none⟩))) (.one (.agg [.int .u32, .int .i64])) fun l244 =>
                                       (.rd (Instr.loadAt 24 (.pointer (some ⟨(l1 0).n, 0, none⟩))) (.one (.agg [.int .u32, .int .i64])) fun l245 =>
                                        (.call 17 [.agg #[.int .u32 ((l244 0).i), .int .i64 ((l244 1).i)], .agg #[.int .u32 ((l245 0).i), .int .i64 ((l245 1).i)]] (.one (.sc (.bool))) fun l246 => -- prefix_Covers
                                         (.done (.bool ((l246 0).b))))))))
                                    (.done (.bool false)))))
                                 (.ite ((l4 0).b)
                                  (.ite (true)
                                   (.done (.bool true))
                                   (.ite ((l7 0).b)
                                    (.done (.bool true))
                                    (.rd (Instr.loadAt 24 (.pointer (some ⟨(l2 0).n, 0, none⟩))) (.one (.agg [.int .u32, .int .i64])) fun l247 =>
                                     (.rd (Instr.loadAt 24 (.pointer (some ⟨(l1 0).n, 0, none⟩))) (.one (.agg [.int .u32, .int .i64])) fun l248 =>
                                      (.call 17 [.agg #[.int .u32 ((l247 0).i), .int .i64 ((l247 1).i)], .agg #[.int .u32 ((l248 0).i), .int .i64 ((l248 1).i)]] (.one (.sc (.bool))) fun l249 => -- prefix_Covers
                                       (.done (.bool ((l249 0).b))))))))
                                  (.done (.bool false)))))))))
                           (.rd (Instr.loadAt 24 (.pointer (some ⟨(l1 0).n, 0, none⟩))) (.one (.agg [.int .u32, .int .i64])) fun l250 =>
                            (.call 18 [.agg #[.int .u32 ((l250 0).i), .int .i64 ((l250 1).i)], .int .u32 a3] (.one (.sc (.bool))) fun l251 => -- prefix_Has
                             (.ite ((l251 0).b)
                              (.rd (Instr.loadAt 24 (.pointer (some ⟨(l2 0).n, 0, none⟩))) (.one (.agg [.int .u32, .int .i64])) fun l252 =>
                               (.call 18 [.agg #[.int .u32 ((l252 0).i), .int .i64 ((l252 1).i)], .int .u32 a3] (.one (.sc (.bool))) fun l253 => -- prefix_Has
                                (.ite ((l4 0).b)
                                 (.ite (!((l253 0).b))
                                  (.done (.bool true))
                                  (.ite ((l7 0).b)
                                   (.done (.bool true))
                                   (.rd (Instr.loadAt 24 (.pointer (some ⟨(l2 0).n, 0, none⟩))) (.one (.agg [.int .u32, .int .i64])) fun l254 =>
                                    (.rd (Instr.loadAt 24 (.pointer (some ⟨(l1 0).n, 0, none⟩))) (.one (.agg [.int .u32, .int .i64])) fun l255 =>
                                     (.call 17 [.agg #[.int .u32 ((l254 0).i), .int .i64 ((l254 1).i)], .agg #[.int .u32 ((l255 0).i), .int .i64 ((l255 1).i)]] (.one (.sc (.bool))) fun l256 => -- prefix_Covers
                                      (.done (.bool ((l256 0).b))))))))
                                 (.done (.bool false)))))
                              (.ite ((l4 0).b)
                               (.ite (true)
                                (.done (.bool true))
                                (.ite ((l7 0).b)
                                 (.done (.bool true))
                                 (.rd (Instr.loadAt 24 (.pointer (some ⟨(l2 0).n, 0, none⟩))) (.one (.agg [.int .u32, .int .i64])) fun l257 =>
                                  (.rd (Instr.loadAt 24 (.pointer (some ⟨(l1 0).n, 0, none⟩))) (.one (.agg [.int .u32, .int .i64])) fun l258 =>
                                   (.call 17 [.agg #[.int .u32 ((l257 0).i), .int .i64 ((l257 1).i)], .agg #[.int .u32 ((l258 0).i), .int .i64 ((l258 1).i)]] (.one (.sc (.bool))) fun l259 => -- prefix_Covers
                                    (.done (.bool ((l259 0).b))))))))
                               (.done (.bool false)))))))))
                        (.rd (Instr.loadAt 24 (.pointer (some ⟨(l1 0).n, 0, none⟩))) (.one (.agg [.int .u32, .int .i64])) fun l260 =>
                         (.call 18 [.agg #[.int .u32 ((l260 0).i), .int .i64 ((l260 1).i)], .int .u32 a3] (.one (.sc (.bool))) fun l261 => -- prefix_Has
                          (.ite ((l261 0).b)
                           (.rd (Instr.loadAt 24 (.pointer (some ⟨(l2 0).n, 0, none⟩))) (.one (.agg [.int .u32, .int .i64])) fun l262 =>
                            (.call 18 [.agg #[.int .u32 ((l262 0).i), .int .i64 ((l262 1).i)], .int .u32 a3] (.one (.sc (.bool))) fun l263 => -- prefix_Has
                             (.ite ((l4 0).b)
                              (.ite (!((l263 0).b))
                               (.done (.bool true))
                               (.ite ((l7 0).b)
                                (.done (.bool true))
                                (.rd (Instr.loadAt 24 (.pointer (some ⟨(l2 0).n, 0, none⟩))) (.one (.agg [.int .u32, .int .i64])) fun l264 =>
                                 (.rd (Instr.loadAt 24 (.pointer (some ⟨(l1 0).n, 0, none⟩))) (.one (.agg [.int .u32, .int .i64])) fun l265 =>
                                  (.call 17 [.agg #[.int .u32 ((l264 0).i), .int .i64 ((l264 1).i)], .agg #[.int .u32 ((l265 0).i), .int .i64 ((l265 1).i)]] (.one (.sc (.bool))) fun l266 => -- prefix_Covers
                                   (.done (.bool ((l266 0).b))))))))
                              (.done (.bool false)))))
                           (.ite ((l4 0).b)
                            (.ite (true)
                             (.done (.bool true))
                             (.ite ((l7 0).b)
                              (.done (.bool true))
                              (.rd (Instr.loadAt 24 (.pointer (some ⟨(l2 0).n, 0, none⟩))) (.one (.agg [.int .u32, .int .i64])) fun l267 =>
                               (.rd (Instr.loadAt 24 (.pointer (some ⟨(l1 0).n, 0, none⟩))) (.one (.agg [.int .u32, .int .i64])) fun l268 =>
                                (.call 17 [.agg #[.int .u32 ((l267 0).i), .int .i64 ((l267 1).i)], .agg #[.int .u32 ((l268 0).i), .int .i64 ((l268 1).i)]] (.one (.sc (.bool))) fun l269 => -- prefix_Covers
                                 (.done (.bool ((l269 0).b))))))))
                            (.done (.bool false)))))))))))
                   (.ite ((l7 0).b)
                    (.rd (Instr.loadAt 24 (.pointer (some ⟨(l2 0).n, 0, none⟩))) (.one (.agg [.int .u32, .int .i64])) fun l270 =>
                     (.call 18 [.agg #[.int .u32 ((l270 0).i), .int .i64 ((l270 1).i)], .int .u32 a3] (.one (.sc (.bool))) fun l271 => -- prefix_Has
                      (.ite ((l271 0).b)
                       (.rd (Instr.loadAt 24 (.pointer (some ⟨(l1 0).n, 0, none⟩))) (.one (.agg [.int .u32, .int .i64])) fun l272 =>
                        (.call 18 [.agg #[.int .u32 ((l272 0).i), .int .i64 ((l272 1).i)], .int .u32 a3] (.one (.sc (.bool))) fun l273 => -- prefix_Has
                         (.ite (!((l273 0).b))
                          (.done (.bool false))
                          (.rd (Instr.loadAt 24 (.pointer (some ⟨(l1 0).n, 0, none⟩))) (.one (.agg [.int .u32, .int .i64])) fun l274 =>
                           (.call 18 [.agg #[.int .u32 ((l274 0).i), .int .i64 ((l274 1).i)], .int .u32 a3] (.one (.sc (.bool))) fun l275 => -- prefix_Has
                            (.ite ((l275 0).b)
                             (.rd (Instr.loadAt 24 (.pointer (some ⟨(l2 0).n, 0, none⟩))) (.one (.agg [.int .u32, .int .i64])) fun l276 =>
                              (.call 18 [.agg #[.int .u32 ((l276 0).i), .int .i64 ((l276 1).i)], .int .u32 a3] (.one (.sc (.bool))) fun l277 => -- prefix_Has
                               (.ite ((l4 0).b)
                                (.ite (!((l277 0).b))
                                 (.done (.bool true))
                                 (.ite ((l7 0).b)
                                  (.done (.bool true))
                                  (.rd (Instr.loadAt 24 (.pointer (some ⟨(l2 0).n, 0, none⟩))) (.one (.agg [.int .u32, .int .i64])) fun l278 =>
                                   (.rd (Instr.loadAt 24 (.pointer (some ⟨(l1 0).n, 0, none⟩))) (.one (.agg [.int .u32, .int .i64])) fun l279 =>
                                    (.call 17 [.agg #[.int .u32 ((l278 0).i), .int .i64 ((l278 1).i)], .agg #[.int .u32 ((l279 0).i), .int .i64 ((l279 1).i)]] (.one (.sc (.bool))) fun l280 => -- prefix_Covers
                                     (.done (.bool ((l280 0).b))))))))
                                (.done (.bool false)))))
                             (.ite ((l4 0).b)
                              (.ite (true)
                               (.done (.bool true))
                               (.ite ((l7 0).b)
                                (.done (.bool true))
                                (.rd (Instr.loadAt 24 (.pointer (some ⟨(l2 0).n, 0, none⟩))) (.one (.agg [.int .u32, .int .i64])) fun l281 =>
                                 (.rd (Instr.loadAt 24 (.pointer (some ⟨(l1 0).n, 0, none⟩))) (.one (.agg [.int .u32, .int .i64])) fun l282 =>
                                  (.call 17 [.agg #[.int .u32 ((l281 0).i), .int .i64 ((l281 1).i)], .agg #[.int .u32 ((l282 0).i), .int .i64 ((l282 1).i)]] (.one (.sc (.bool))) fun l283 => -- prefix_Covers
                                   (.done (.bool ((l283 0).b))))))))
                              (.done (.bool false)))))))))
                       (.rd (Instr.loadAt 24 (.pointer (some ⟨(l1 0).n, 0, none⟩))) (.one (.agg [.int .u32, .int .i64])) fun l284 =>
                        (.call 18 [.agg #[.int .u32 ((l284 0).i), .int .i64 ((l284 1).i)], .int .u32 a3] (.one (.sc (.bool))) fun l285 => -- prefix_Has
                         (.ite ((l285 0).b)
                          (.rd (Instr.loadAt 24 (.pointer (some ⟨(l2 0).n, 0, none⟩))) (.one (.agg [.int .u32, .int .i64])) fun l286 =>
                           (.call 18 [.agg #[.int .u32 ((l286 0).i), .int .i64 ((l286 1).i)], .int .u32 a3] (.one (.sc (.bool))) fun l287 => -- prefix_Has
                            (.ite ((l4 0).b)
                             (.ite (!((l287 0).b))
                              (.done (.bool true))
                              (.ite ((l7 0).b)
                               (.done (.bool true))
                               (.rd (Instr.loadAt 24 (.pointer (some ⟨(l2 0).n, 0, none⟩))) (.one (.agg [.int .u32, .int .i64])) fun l288 =>
                                (.rd (Instr.loadAt 24 (.pointer (some ⟨(l1 0).n, 0, none⟩))) (.one (.agg [.int .u32, .int .i64])) fun l289 =>
                                 (.call 17 [.agg #[.int .u32 ((l288 0).i), .int .i64 ((l288 1).i)], .agg #[.int .u32 ((l289 0).i), .int .i64 ((l289 1).i)]] (.one (.sc (.bool))) fun l290 => -- prefix_Covers
                                  (.done (.bool ((l290 0).b))))))))
                             (.done (.bool false)))))
                          (.ite ((l4 0).b)
                           (.ite (true)
                            (.done (.bool true))
                            (.ite ((l7 0).b)
                             (.done (.bool true))
                             (.rd (Instr.loadAt 24 (.pointer (some ⟨(l2 0).n, 0, none⟩))) (.one (.agg [.int .u32, .int .i64])) fun l291 =>
                              (.rd (Instr.loadAt 24 (.pointer (some ⟨(l1 0).n, 0, none⟩))) (.one (.agg [.int .u32, .int .i64])) fun l292 =>
                               (.call 17 [.agg #[.int .u32 ((l291 0).i), .int .i64 ((l291 1).i)], .agg #[.int .u32 ((l292 0).i), .int .i64 ((l292 1).i)]] (.one (.sc (.bool))) fun l293 => -- prefix_Covers
                                (.done (.bool ((l293 0).b))))))))
                           (.done (.bool false)))))))))
                    (.rd (Instr.loadAt 24 (.pointer (some ⟨(l1 0).n, 0, none⟩))) (.one (.agg [.int .u32, .int .i64])) fun l294 =>
                     (.call 18 [.agg #[.int .u32 ((l294 0).i), .int .i64 ((l294 1).i)], .int .u32 a3] (.one (.sc (.bool))) fun l295 => -- prefix_Has
                      (.ite ((l295 0).b)
                       (.rd (Instr.loadAt 24 (.pointer (some ⟨(l2 0).n, 0, none⟩))) (.one (.agg [.int .u32, .int .i64])) fun l296 =>
                        (.call 18 [.agg #[.int .u32 ((l296 0).i), .int .i64 ((l296 1).i)], .int .u32 a3] (.one (.sc (.bool))) fun l297 => -- prefix_Has
                         (.ite ((l4 0).b)
                          (.ite (!((l297 0).b))
                           (.done (.bool true))
                           (.ite ((l7 0).b)
                            (.done (.bool true))
                            (.rd (Instr.loadAt 24 (.pointer (some ⟨(l2 0).n, 0, none⟩))) (.one (.agg [.int .u32, .int .i64])) fun l298 =>
                             (.rd (Instr.loadAt 24 (.pointer (some ⟨(l1 0).n, 0, none⟩))) (.one (.agg [.int .u32, .int .i64])) fun l299 =>
                              (.call 17 [.agg #[.int .u32 ((l298 0).i), .int .i64 ((l298 1).i)], .agg #[.int .u32 ((l299 0).i), .int .i64 ((l299 1).i)]] (.one (.sc (.bool))) fun l300 => -- prefix_Covers
                               (.done (.bool ((l300 0).b))))))))
                          (.done (.bool false)))))
                       (.ite ((l4 0).b)
                        (.ite (true)
                         (.done (.bool true))
                         (.ite ((l7 0).b)
                          (.done (.bool true))
                          (.rd (Instr.loadAt 24 (.pointer (some ⟨(l2 0).n, 0, none⟩))) (.one (.agg [.int .u32, .int .i64])) fun l301 =>
                           (.rd (Instr.loadAt 24 (.pointer (some ⟨(l1 0).n, 0, none⟩))) (.one (.agg [.int .u32, .int .i64])) fun l302 =>
                            (.call 17 [.agg #[.int .u32 ((l301 0).i), .int .i64 ((l301 1).i)], .agg #[.int .u32 ((l302 0).i), .int .i64 ((l302 1).i)]] (.one (.sc (.bool))) fun l303 => -- prefix_Covers
                             (.done (.bool ((l303 0).b))))))))
                        (.done (.bool false)))))))))))
               (.ite ((l7 0).b)
                (.rd (Instr.loadAt 24 (.pointer (some ⟨(l2 0).n, 0, none⟩))) (.one (.agg [.int .u32, .int .i64])) fun l304 =>
                 (.call 18 [.agg #[.int .u32 ((l304 0).i), .int .i64 ((l304 1).i)], .int .u32 a3] (.one (.sc (.bool))) fun l305 => -- prefix_Has
                  (.ite ((l305 0).b)
                   (.rd (Instr.loadAt 24 (.pointer (some ⟨(l1 0).n, 0, none⟩))) (.one (.agg [.int .u32, .int .i64])) fun l306 =>
                    (.call 18 [.agg #[.int .u32 ((l306 0).i), .int .i64 ((l306 1).i)], .int .u32 a3] (.one (.sc (.bool))) fun l307 => -- prefix_Has
                     (.ite (!((l307 0).b))
                      (.done (.bool false))
                      (.rd (Instr.loadAt 24 (.pointer (some ⟨(l1 0).n, 0, none⟩))) (.one (.agg [.int .u32, .int .i64])) fun l308 =>
                       (.call 18 [.agg #[.int .u32 ((l308 0).i), .int .i64 ((l308 1).i)], .int .u32 a3] (.one (.sc (.bool))) fun l309 => -- prefix_Has
                        (.ite ((l309 0).b)
                         (.rd (Instr.loadAt 24 (.pointer (some ⟨(l2 0).n, 0, none⟩))) (.one (.agg [.int .u32, .int .i64])) fun l310 =>
                          (.call 18 [.agg #[.int .u32 ((l310 0).i), .int .i64 ((l310 1).i)], .int .u32 a3] (.one (.sc (.bool))) fun l311 => -- prefix_Has
                           (.ite ((l4 0).b)
                            (.ite (!((l311 0).b))
                             (.done (.bool true))
                             (.ite ((l7 0).b)
                              (.done (.bool true))
                              (.rd (Instr.loadAt 24 (.pointer (some ⟨(l2 0).n, 0, none⟩))) (.one (.agg [.int .u32, .int .i64])) fun l312 =>
                               (.rd (Instr.loadAt 24 (.pointer (some ⟨(l1 0).n, 0, none⟩))) (.one (.agg [.int .u32, .int .i64])) fun l313 =>
                                (.call 17 [.agg #[.int .u32 ((l312 0).i), .int .i64 ((l312 1).i)], .agg #[.int .u32 ((l313 0).i), .int .i64 ((l313 1).i)]] (.one (.sc (.bool))) fun l314 => -- prefix_Covers
                                 (.done (.bool ((l314 0).b))))))))
                            (.done (.bool false)))))
                         (.ite ((l4 0).b)
                          (.ite (true)
                           (.done (.bool true))
                           (.ite ((l7 0).b)
                            (.done (.bool true))
                            (.rd (Instr.loadAt 24 (.pointer (some ⟨(l2 0).n, 0, none⟩))) (.one (.agg [.int .u32, .int .i64])) fun l315 =>
                             (.rd (Instr.loadAt 24 (.pointer (some ⟨(l1 0).n, 0, none⟩))) (.one (.agg [.int .u32, .int .i64])) fun l316 =>
                              (.call 17 [.agg #[.int .u32 ((l315 0).i), .int .i64 ((l315 1).i)], .agg #[.int .u32 ((l316 0).i), .int .i64 ((l316 1).i)]] (.one (.sc (.bool))) fun l317 => -- prefix_Covers
                               (.done (.bool ((l317 0).b))))))))
                          (.done (.bool false)))))))))
                   (.rd (Instr.loadAt 24 (.pointer (some ⟨(l1 0).n, 0, none⟩))) (.one (.agg [.int .u32, .int .i64])) fun l318 =>
                    (.call 18 [.agg #[.int .u32 ((l318 0).i), .int .i64 ((l318 1).i)], .int .u32 a3] (.one (.sc (.bool))) fun l319 => -- prefix_Has
                     (.ite ((l319 0).b)
                      (.rd (Instr.loadAt 24 (.pointer (some ⟨(l2 0).n, 0, none⟩))) (.one (.agg [.int .u32, .int .i64])) fun l320 =>
                       (.call 18 [.agg #[.int .u32 ((l320 0).i), .int .i64 ((l320 1).i)], .int .u32 a3] (.one (.sc (.bool))) fun l321 => -- prefix_Has
                        (.ite ((l4 0).b)
                         (.ite (!((l321 0).b))
                          (.done (.bool true))
                          (.ite ((l7 0).b)
                           (.done (.bool true))
                           (.rd (Instr.loadAt 24 (.pointer (some ⟨(l2 0).n, 0, none⟩))) (.one (.agg [.int .u32, .int .i64])) fun l322 =>
                            (.rd (Instr.loadAt 24 (.pointer (some ⟨(l1 0).n, 0, none⟩))) (.one (.agg [.int .u32, .int .i64])) fun l323 =>
                             (.call 17 [.agg #[.int .u32 ((l322 0).i), .int .i64 ((l322 1).i)], .agg #[.int .u32 ((l323 0).i), .int .i64 ((l323 1).i)]] (.one (.sc (.bool))) fun l324 => -- prefix_Covers
                              (.done (.bool ((l324 0).b))))))))
                         (.done (.bool false)))))
                      (.ite ((l4 0).b)
                       (.ite (true)
                        (.done (.bool true))
                        (.ite ((l7 0).b)
                         (.done (.bool true))
                         (.rd (Instr.loadAt 24 (.pointer (some ⟨(l2 0).n, 0, none⟩))) (.one (.agg [.int .u32, .int .i64])) fun l325 =>
                          (.rd (Instr.loadAt 24 (.pointer (some ⟨(l1 0).n, 0, none⟩))) (.one (.agg [.int .u32, .int .i64])) fun l326 =>
                           (.call 17 [.agg #[.int .u32 ((l325 0).i), .int .i64 ((l325 1).i)], .agg #[.int .u32 ((l326 0).i), .int .i64 ((l326 1).i)]] (.one (.sc (.bool))) fun l327 => -- prefix_Covers
                            (.done (.bool ((l327 0).b))))))))
                       (.done (.bool false)))))))))
                (.rd (Instr.loadAt 24 (.pointer (some ⟨(l1 0).n, 0, none⟩))) (.one (.agg [.int .u32, .int .i64])) fun l328 =>
                 (.call 18 [.agg #[.int .u32 ((l328 0).i), .int .i64 ((l328 1).i)], .int .u32 a3] (.one (.sc (.bool))) fun l329 => -- prefix_Has
                  (.ite ((l329 0).b)
                   (.rd (Instr.loadAt 24 (.pointer (some ⟨(l2 0).n, 0, none⟩))) (.one (.agg [.int .u32, .int .i64])) fun l330 =>
                    (.call 18 [.agg #[.int .u32 ((l330 0).i), .int .i64 ((l330 1).i)], .int .u32 a3] (.one (.sc (.bool))) fun l331 => -- prefix_Has
                     (.ite ((l4 0).b)
                      (.ite (!((l331 0).b))
                       (.done (.bool true))
                       (.ite ((l7 0).b)
                        (.done (.bool true))
                        (.rd (Instr.loadAt 24 (.pointer (some ⟨(l2 0).n, 0, none⟩))) (.one (.agg [.int .u32, .int .i64])) fun l332 =>
                         (.rd (Instr.loadAt 24 (.pointer (some ⟨(l1 0).n, 0, none⟩))) (.one (.agg [.int .u32, .int .i64])) fun l333 =>
                          (.call 17 [.agg #[.int .u32 ((l332 0).i), .int .i64 ((l332 1).i)], .agg #[.int .u32 ((l333 0).i), .int .i64 ((l333 1).i)]] (.one (.sc (.bool))) fun l334 => -- prefix_Covers
                           (.done (.bool ((l334 0).b))))))))
                      (.done (.bool false)))))
                   (.ite ((l4 0).b)
                    (.ite (true)
                     (.done (.bool true))
                     (.ite ((l7 0).b)
                      (.done (.bool true))
                      (.rd (Instr.loadAt 24 (.pointer (some ⟨(l2 0).n, 0, none⟩))) (.one (.agg [.int .u32, .int .i64])) fun l335 =>
                       (.rd (Instr.loadAt 24 (.pointer (some ⟨(l1 0).n, 0, none⟩))) (.one (.agg [.int .u32, .int .i64])) fun l336 =>
                        (.call 17 [.agg #[.int .u32 ((l335 0).i), .int .i64 ((l335 1).i)], .agg #[.int .u32 ((l336 0).i), .int .i64 ((l336 1).i)]] (.one (.sc (.bool))) fun l337 => -- prefix_Covers
                         (.done (.bool ((l337 0).b))))))))
                    (.done (.bool false))))))))))))))))))) h) : Fn Tryd.prog 5 #[.agg #[.int .u32 a0_0, .int .i64 a0_1], .agg #[.int .u32 a1_0, .int .i64 a1_1], .agg #[.int .u32 a2_0, .int .i64 a2_1], .int .u32 a3] I h Q :=
  Wp.fn (args := [.agg #[.int .u32 a0_0, .int .i64 a0_1], .agg #[.int .u32 a1_0, .int .i64 a1_1], .agg #[.int .u32 a2_0, .int .i64 a2_1], .int .u32 a3]) Tryd.func5 rfl (by kernel_rfl) (of_tree (cfg := g_octroilaw02_PrefixNests) 1000 (by kernel_rfl) Tryd.func5 rfl Tryd.checked.mixed hh)
theorem ca_octroilaw02_PrefixNests : callable Tryd.prog 5 := ⟨_, Tryd.func5, by kernel_rfl, by kernel_rfl⟩
/-! ### octroilaw02_PrefixHalves: function 6 of Go -/
abbrev F_octroilaw02_PrefixHalves : FuncId := 6
noncomputable def c_octroilaw02_PrefixHalves : Code := (Tryd.f6.body).getD .skip
noncomputable def g_octroilaw02_PrefixHalves : Cfg := { sh := shs, fsh := fshs, results := [.tmp 4], hint := fun r i => match r, i with | 5, 6 => some (true, .one (.sc (.int .u32))) | _, _ => none, ord := fun _ => none, pre := fun _ => [], un := fun _ _ _ => false }
set_option maxRecDepth 100000 in
set_option maxHeartbeats 4000000 in
theorem r_octroilaw02_PrefixHalves (a0_0 : Int) (a0_1 : Int) (a1 : Int) {I : Ctx} {h : Mem} {Q : Value → Mem → Prop}
  (hh : holds Tryd.prog 6 I (cl_ Q)
   (.sem (Instr.box 24 (.agg #[.int .u32 a0_0, .int .i64 a0_1])) shBlk fun l1 =>
    (.call 11 [] (.one (.sc (.bool))) fun l2 => -- octroilaw02_awake
     (.ite (!((l2 0).b))
      (.done (.bool ((l2 0).b)))
      (.rd (Instr.loadAt 24 (.pointer (some ⟨(l1 0).n, 0, none⟩))) (.one (.agg [.int .u32, .int .i64])) fun l3 =>
       (.call 16 [.agg #[.int .u32 ((l3 0).i), .int .i64 ((l3 1).i)]] (.one (.sc (.bool))) fun l4 => -- prefix_May
        (.ite (!((l4 0).b))
         (.done (.bool ((l2 0).b)))
         (.rd (Instr.loadAt 3 (.pointer (some ⟨(l1 0).n, 1, none⟩))) (.one (.sc (.int .i64))) fun l5 =>
          (.ite (((l5 0).i : Int) == 32)
           (.done (.bool ((l2 0).b)))
           (.rd (Instr.loadAt 22 (.pointer (some ⟨(l1 0).n, 0, none⟩))) (.one (.sc (.int .u32))) fun l6 =>
            (.rd (Instr.loadAt 3 (.pointer (some ⟨(l1 0).n, 1, none⟩))) (.one (.sc (.int .i64))) fun l7 =>
             (.call 19 [.int .u32 ((l6 0).i), .int .i64 (IntKind.wrap .i64 (((l7 0).i) + 1))] (.tup [.agg [.int .u32, .int .i64], (.sc (.int .i64))]) fun l8 => -- prefix_Make
              (.sem (Instr.alloc 24 true (.tuple #[])) shBlk fun l9 =>
               (.unit (Instr.storeAt 24 (.pointer (some ⟨(l9 0).n, 0, none⟩)) (.agg #[.int .u32 ((l8 0).i), .int .i64 ((l8 1).i)]))
                (.rd (Instr.loadAt 22 (.pointer (some ⟨(l1 0).n, 0, none⟩))) (.one (.sc (.int .u32))) fun l10 =>
                 (.rd (Instr.loadAt 3 (.pointer (some ⟨(l1 0).n, 1, none⟩))) (.one (.sc (.int .i64))) fun l11 =>
                  (.rdn (binN .shl 22 (.int .u32 1) (.int .u64 (IntKind.wrap .u64 (IntKind.wrap .i64 (31 - ((l11 0).i)))))) (.one (.sc (.int .u32))) fun l12 =>
                   (.rd (Instr.loadAt 3 (.pointer (some ⟨(l1 0).n, 1, none⟩))) (.one (.sc (.int .i64))) fun l13 =>
                    (.call 19 [.int .u32 (bitop .or .u32 ((l10 0).i) ((l12 0).i)), .int .i64 (IntKind.wrap .i64 (((l13 0).i) + 1))] (.tup [.agg [.int .u32, .int .i64], (.sc (.int .i64))]) fun l14 => -- prefix_Make
                     (.sem (Instr.alloc 24 true (.tuple #[])) shBlk fun l15 =>
                      (.unit (Instr.storeAt 24 (.pointer (some ⟨(l15 0).n, 0, none⟩)) (.agg #[.int .u32 ((l14 0).i), .int .i64 ((l14 1).i)]))
                       (.ite (((l8 2).i : Int) != 0)
                        (.done (.bool false))
                        (.ite (((l14 2).i : Int) != 0)
                         (.done (.bool false))
                         (.rd (Instr.loadAt 24 (.pointer (some ⟨(l9 0).n, 0, none⟩))) (.one (.agg [.int .u32, .int .i64])) fun l16 =>
                          (.rd (Instr.loadAt 24 (.pointer (some ⟨(l15 0).n, 0, none⟩))) (.one (.agg [.int .u32, .int .i64])) fun l17 =>
                           (.call 17 [.agg #[.int .u32 ((l16 0).i), .int .i64 ((l16 1).i)], .agg #[.int .u32 ((l17 0).i), .int .i64 ((l17 1).i)]] (.one (.sc (.bool))) fun l18 => -- prefix_Covers
                            (.ite ((l18 0).b)
                             (.done (.bool false))
                             (.rd (Instr.loadAt 24 (.pointer (some ⟨(l15 0).n, 0, none⟩))) (.one (.agg [.int .u32, .int .i64])) fun l19 =>
                              (.rd (Instr.loadAt 24 (.pointer (some ⟨(l9 0).n, 0, none⟩))) (.one (.agg [.int .u32, .int .i64])) fun l20 =>
                               (.call 17 [.agg #[.int .u32 ((l19 0).i), .int .i64 ((l19 1).i)], .agg #[.int .u32 ((l20 0).i), .int .i64 ((l20 1).i)]] (.one (.sc (.bool))) fun l21 => -- prefix_Covers
                                (.ite ((l21 0).b)
                                 (.done (.bool false))
                                 (.rd (Instr.loadAt 24 (.pointer (some ⟨(l1 0).n, 0, none⟩))) (.one (.agg [.int .u32, .int .i64])) fun l22 =>
                                  (.rd (Instr.loadAt 24 (.pointer (some ⟨(l9 0).n, 0, none⟩))) (.one (.agg [.int .u32, .int .i64])) fun l23 =>
                                   (.call 17 [.agg #[.int .u32 ((l22 0).i), .int .i64 ((l22 1).i)], .agg #[.int .u32 ((l23 0).i), .int .i64 ((l23 1).i)]] (.one (.sc (.bool))) fun l24 => -- prefix_Covers
                                    (.ite (!((l24 0).b))
                                     (.done (.bool false))
                                     (.rd (Instr.loadAt 24 (.pointer (some ⟨(l1 0).n, 0, none⟩))) (.one (.agg [.int .u32, .int .i64])) fun l25 =>
                                      (.rd (Instr.loadAt 24 (.pointer (some ⟨(l15 0).n, 0, none⟩))) (.one (.agg [.int .u32, .int .i64])) fun l26 =>
                                       (.call 17 [.agg #[.int .u32 ((l25 0).i), .int .i64 ((l25 1).i)], .agg #[.int .u32 ((l26 0).i), .int .i64 ((l26 1).i)]] (.one (.sc (.bool))) fun l27 => -- prefix_Covers
                                        (.ite (!((l27 0).b))
                                         (.done (.bool false))
                                         (.rd (Instr.loadAt 24 (.pointer (some ⟨(l9 0).n, 0, none⟩))) (.one (.agg [.int .u32, .int .i64])) fun l28 =>
                                          (.call 18 [.agg #[.int .u32 ((l28 0).i), .int .i64 ((l28 1).i)], .int .u32 a1] (.one (.sc (.bool))) fun l29 => -- prefix_Has
                                           (.rd (Instr.loadAt 24 (.pointer (some ⟨(l15 0).n, 0, none⟩))) (.one (.agg [.int .u32, .int .i64])) fun l30 =>
                                            (.call 18 [.agg #[.int .u32 ((l30 0).i), .int .i64 ((l30 1).i)], .int .u32 a1] (.one (.sc (.bool))) fun l31 => -- prefix_Has
                                             (.rd (Instr.loadAt 24 (.pointer (some ⟨(l1 0).n, 0, none⟩))) (.one (.agg [.int .u32, .int .i64])) fun l32 =>
                                              (.call 18 [.agg #[.int .u32 ((l32 0).i), .int .i64 ((l32 1).i)], .int .u32 a1] (.one (.sc (.bool))) fun l33 => -- prefix_Has
                                               (.ite ((l29 0).b)
                                                (.ite (((l33 0).b) == true)
                                                 (.ite ((l29 0).b)
                                                  (.done (.bool (!((l31 0).b))))
                                                  (.done (.bool true)))
                                                 (.done (.bool false)))
                                                (.ite (((l33 0).b) == ((l31 0).b))
                                                 (.ite ((l29 0).b)
                                                  (.done (.bool (!((l31 0).b))))
                                                  (.done (.bool true)))
                                                 (.done (.bool false)))))))))))))))))))))))))))))))))))))))))))))))) h) : Fn Tryd.prog 6 #[.agg #[.int .u32 a0_0, .int .i64 a0_1], .int .u32 a1] I h Q :=
  Wp.fn (args := [.agg #[.int .u32 a0_0, .int .i64 a0_1], .int .u32 a1]) Tryd.func6 rfl (by kernel_rfl) (of_tree (cfg := g_octroilaw02_PrefixHalves) 1000 (by kernel_rfl) Tryd.func6 rfl Tryd.checked.mixed hh)
theorem ca_octroilaw02_PrefixHalves : callable Tryd.prog 6 := ⟨_, Tryd.func6, by kernel_rfl, by kernel_rfl⟩
/-! ### octroilaw02_PrefixHas: function 7 of Go -/
abbrev F_octroilaw02_PrefixHas : FuncId := 7
noncomputable def c_octroilaw02_PrefixHas : Code := (Tryd.f7.body).getD .skip
def p_octroilaw02_PrefixHas : Nat → List (List Nat) := fun r => match r with | 2 => [[], [0], [0, 1], [0, 1], [0, 1, 2, 3], [0, 1], [0, 1], [0, 1, 2, 3, 4, 5, 6], [0, 1, 2, 3, 4, 5, 6, 7], [0, 1, 2, 3, 4, 5, 6, 7, 8], [0, 1, 2, 3, 4, 5, 6, 7, 8, 9], [0, 1, 2, 3, 4, 5, 6, 7, 8, 9, 10], [0, 1, 2, 3, 4, 5, 6, 7, 8, 9, 10], [0, 1, 2, 3, 4, 5, 6, 7, 8, 9, 10, 11, 12], [0, 1, 2, 3, 4, 5, 6, 7, 8, 9, 10], [0, 1, 2, 3, 4, 5, 6, 7, 8, 9, 10], [0, 1, 2, 3, 4, 5, 6, 7, 8, 9, 10, 11, 12, 13, 14, 15], [0, 1, 2, 3, 4, 5, 6, 7, 8, 9, 10, 11, 12, 13, 14, 15, 16], [0, 1, 2, 3, 4, 5, 6, 7, 8, 9, 10, 11, 12, 13, 14, 15, 16, 17], [0, 1, 2, 3, 4, 5, 6, 7, 8, 9, 10, 11, 12, 13, 14, 15, 16, 17, 18], [0, 1, 2, 3, 4, 5, 6, 7, 8, 9, 10, 11, 12, 13, 14, 15, 16, 17, 18, 19], [0, 1, 2, 3, 4, 5, 6, 7, 8, 9, 10, 11, 12, 13, 14, 15, 16, 17, 18, 19], [0, 1, 2, 3, 4, 5, 6, 7, 8, 9, 10, 11, 12, 13, 14, 15, 16, 17, 18, 19, 20, 21], [0, 1, 2, 3, 4, 5, 6, 7, 8, 9, 10, 11, 12, 13, 14, 15, 16, 17, 18, 19], [0, 1, 2, 3, 4, 5, 6, 7, 8, 9, 10, 11, 12, 13, 14, 15, 16, 17, 18, 19], [0, 1, 2, 3, 4, 5, 6, 7, 8, 9, 10, 11, 12, 13, 14, 15, 16, 17, 18, 19, 20, 21, 22, 23, 24], [0, 1, 2, 3, 4, 5, 6, 7, 8, 9, 10, 11, 12, 13, 14, 15, 16, 17, 18, 19, 20, 21, 22, 23, 24, 25], [0, 1, 2, 3, 4, 5, 6, 7, 8, 9, 10, 11, 12, 13, 14, 15, 16, 17, 18, 19, 20, 21, 22, 23, 24, 25, 26], [0, 1, 2, 3, 4, 5, 6, 7, 8, 9, 10, 11, 12, 13, 14, 15, 16, 17, 18, 19, 20, 21, 22, 23, 24, 25, 26, 27]] | _ => []
noncomputable def g_octroilaw02_PrefixHas : Cfg := { sh := shs, fsh := fshs, results := [.tmp 6], hint := fun _ _ => none, ord := fun r => match r with | 2 => some [0, 1, 2, 3, 5, 6, 4, 7, 8, 9, 10, 11, 12, 14, 15, 13, 16, 17, 18, 19, 20, 21, 23, 24, 22, 25, 26, 27, 28] | _ => none, pre := p_octroilaw02_PrefixHas, un := unOf p_octroilaw02_PrefixHas }
set_option maxRecDepth 100000 in
set_option maxHeartbeats 4000000 in
theorem r_octroilaw02_PrefixHas (a0_0 : Int) (a0_1 : Int) (a1_0 : Int) (a1_1 : Int) (a2 : Int) {I : Ctx} {h : Mem} {Q : Value → Mem → Prop}
  (hh : holds Tryd.prog 7 I (cl_ Q)
   (.sem (Instr.box 24 (.agg #[.int .u32 a0_0, .int .i64 a0_1])) shBlk fun l1 =>
    (.sem (Instr.box 24 (.agg #[.int .u32 a1_0, .int .i64 a1_1])) shBlk fun l2 =>
     (.call 11 [] (.one (.sc (.bool))) fun l3 => -- octroilaw02_awake
      (.ite ((l3 0).b)
       (.rd (Instr.loadAt 24 (.pointer (some ⟨(l1 0).n, 0, none⟩))) (.one (.agg [.int .u32, .int .i64])) fun l4 =>
        (.rd (Instr.loadAt 24 (.pointer (some ⟨(l1 0).n, 0, none⟩))) (.one (.agg [.int .u32, .int .i64])) fun l5 =>
         (.call 18 [.agg #[.int .u32 ((l4 0).i), .int .i64 ((l4 1).i)], .int .u32 a2] (.one (.sc (.bool))) fun l6 => -- prefix_Has
          (.pin (vN (Instr.loadAt 24 (.pointer (some ⟨(l1 0).n, 0, none⟩)))) (.agg #[.int .u32 ((l5 0).i), .int .i64 ((l5 1).i)])
           (.call 20 [.agg #[.int .u32 ((l5 0).i), .int .i64 ((l5 1).i)], .int .u32 a2] (.one (.sc (.bool))) fun l7 => -- octroiref02_Has
            (.ite (((l6 0).b) == ((l7 0).b))
             (.rd (Instr.loadAt 24 (.pointer (some ⟨(l1 0).n, 0, none⟩))) (.one (.agg [.int .u32, .int .i64])) fun l8 =>
              (.rd (Instr.loadAt 24 (.pointer (some ⟨(l2 0).n, 0, none⟩))) (.one (.agg [.int .u32, .int .i64])) fun l9 =>
               (.rd (Instr.loadAt 24 (.pointer (some ⟨(l1 0).n, 0, none⟩))) (.one (.agg [.int .u32, .int .i64])) fun l10 =>
                (.rd (Instr.loadAt 24 (.pointer (some ⟨(l2 0).n, 0, none⟩))) (.one (.agg [.int .u32, .int .i64])) fun l11 =>
                 (.call 17 [.agg #[.int .u32 ((l8 0).i), .int .i64 ((l8 1).i)], .agg #[.int .u32 ((l9 0).i), .int .i64 ((l9 1).i)]] (.one (.sc (.bool))) fun l12 => -- prefix_Covers
                  (.pin (vN (Instr.loadAt 24 (.pointer (some ⟨(l2 0).n, 0, none⟩)))) (.agg #[.int .u32 ((l11 0).i), .int .i64 ((l11 1).i)])
                   (.pin (vN (Instr.loadAt 24 (.pointer (some ⟨(l1 0).n, 0, none⟩)))) (.agg #[.int .u32 ((l10 0).i), .int .i64 ((l10 1).i)])
                    (.call 21 [.agg #[.int .u32 ((l10 0).i), .int .i64 ((l10 1).i)], .agg #[.int .u32 ((l11 0).i), .int .i64 ((l11 1).i)]] (.one (.sc (.bool))) fun l13 => -- octroiref02_Covers
                     (.ite (((l12 0).b) == ((l13 0).b))
                      (.rd (Instr.loadAt 24 (.pointer (some ⟨(l1 0).n, 0, none⟩))) (.one (.agg [.int .u32, .int .i64])) fun l14 =>
                       (.rd (Instr.loadAt 24 (.pointer (some ⟨(l2 0).n, 0, none⟩))) (.one (.agg [.int .u32, .int .i64])) fun l15 =>
                        (.rd (Instr.loadAt 24 (.pointer (some ⟨(l1 0).n, 0, none⟩))) (.one (.agg [.int .u32, .int .i64])) fun l16 =>
                         (.rd (Instr.loadAt 24 (.pointer (some ⟨(l2 0).n, 0, none⟩))) (.one (.agg [.int .u32, .int .i64])) fun l17 =>
                          (.call 22 [.agg #[.int .u32 ((l14 0).i), .int .i64 ((l14 1).i)], .agg #[.int .u32 ((l15 0).i), .int .i64 ((l15 1).i)]] (.one (.sc (.bool))) fun l18 => -- prefix_Less
                           (.pin (vN (Instr.loadAt 24 (.pointer (some ⟨(l2 0).n, 0, none⟩)))) (.agg #[.int .u32 ((l17 0).i), .int .i64 ((l17 1).i)])
                            (.pin (vN (Instr.loadAt 24 (.pointer (some ⟨(l1 0).n, 0, none⟩)))) (.agg #[.int .u32 ((l16 0).i), .int .i64 ((l16 1).i)])
                             (.call 23 [.agg #[.int .u32 ((l16 0).i), .int .i64 ((l16 1).i)], .agg #[.int .u32 ((l17 0).i), .int .i64 ((l17 1).i)]] (.one (.sc (.bool))) fun l19 => -- octroiref02_Less
                              (.done (.bool (((l18 0).b) == ((l19 0).b))))))))))))
                      (.done (.bool false)))))))))))
             (.done (.bool false))))))))
       (.done (.bool false)))))) h) : Fn Tryd.prog 7 #[.agg #[.int .u32 a0_0, .int .i64 a0_1], .agg #[.int .u32 a1_0, .int .i64 a1_1], .int .u32 a2] I h Q :=
  Wp.fn (args := [.agg #[.int .u32 a0_0, .int .i64 a0_1], .agg #[.int .u32 a1_0, .int .i64 a1_1], .int .u32 a2]) Tryd.func7 rfl (by kernel_rfl) (of_tree (cfg := g_octroilaw02_PrefixHas) 1000 (by kernel_rfl) Tryd.func7 rfl Tryd.checked.mixed hh)
theorem ca_octroilaw02_PrefixHas : callable Tryd.prog 7 := ⟨_, Tryd.func7, by kernel_rfl, by kernel_rfl⟩
/-! ### octroilaw02_PrefixOrders: function 8 of Go -/
abbrev F_octroilaw02_PrefixOrders : FuncId := 8
noncomputable def c_octroilaw02_PrefixOrders : Code := (Tryd.f8.body).getD .skip
def p_octroilaw02_PrefixOrders : Nat → List (List Nat) := fun r => match r with | 4 => [[], [0], [0, 1], [0, 1], [0, 1, 2, 3], [0, 1], [0, 1], [0, 1, 2, 3, 4, 5, 6], [0, 1, 2, 3, 4, 5, 6, 7], [0, 1, 2, 3, 4, 5, 6, 7, 8], [0, 1, 2, 3, 4, 5, 6, 7, 8, 9], [0, 1, 2, 3, 4, 5, 6, 7, 8, 9, 10], [0, 1, 2, 3, 4, 5, 6, 7, 8, 9, 10], [0, 1, 2, 3, 4, 5, 6, 7, 8, 9, 10, 11, 12], [0, 1, 2, 3, 4, 5, 6, 7, 8, 9, 10, 11, 12, 13], [0, 1, 2, 3, 4, 5, 6, 7, 8, 9, 10, 11, 12, 13, 14], [0, 1, 2, 3, 4, 5, 6, 7, 8, 9, 10, 11, 12, 13, 14, 15], [0, 1, 2, 3, 4, 5, 6, 7, 8, 9, 10, 11, 12, 13, 14, 15], [0, 1, 2, 3, 4, 5, 6, 7, 8, 9, 10, 11, 12, 13, 14, 15, 16, 17], [0, 1, 2, 3, 4, 5, 6, 7, 8, 9, 10, 11, 12, 13, 14, 15, 16, 17, 18], [0, 1, 2, 3, 4, 5, 6, 7, 8, 9, 10, 11, 12, 13, 14, 15, 16, 17, 18, 19], [0, 1, 2, 3, 4, 5, 6, 7, 8, 9, 10, 11, 12, 13, 14, 15, 16, 17, 18, 19, 20]] | _ => []
noncomputable def g_octroilaw02_PrefixOrders : Cfg := { sh := shs, fsh := fshs, results := [.tmp 4], hint := fun r i => match r, i with | 2, 2 => some (true, .one (.sc (.bool))) | _, _ => none, ord := fun r => match r with | 4 => some [0, 1, 2, 3, 5, 6, 4, 7, 8, 9, 10, 11, 12, 13, 14, 15, 16, 17, 18, 19, 20, 21] | _ => none, pre := p_octroilaw02_PrefixOrders, un := unOf p_octroilaw02_PrefixOrders }
set_option maxRecDepth 100000 in
set_option maxHeartbeats 4000000 in
theorem r_octroilaw02_PrefixOrders (a0_0 : Int) (a0_1 : Int) (a1_0 : Int) (a1_1 : Int) {I : Ctx} {h : Mem} {Q : Value → Mem → Prop}
  (hh : holds Tryd.prog 8 I (cl_ Q)
   (.sem (Instr.box 24 (.agg #[.int .u32 a0_0, .int .i64 a0_1])) shBlk fun l1 =>
    (.sem (Instr.box 24 (.agg #[.int .u32 a1_0, .int .i64 a1_1])) shBlk fun l2 =>
     (.call 11 [] (.one (.sc (.bool))) fun l3 => -- octroilaw02_awake
      (.rd (Instr.loadAt 24 (.pointer (some ⟨(l1 0).n, 0, none⟩))) (.one (.agg [.int .u32, .int .i64])) fun l4 =>
       (.rd (Instr.loadAt 24 (.pointer (some ⟨(l2 0).n, 0, none⟩))) (.one (.agg [.int .u32, .int .i64])) fun l5 =>
        (.rdn (eqN .eql 24 (.tmp 0) (.tmp 0) (.agg #[.int .u32 ((l4 0).i), .int .i64 ((l4 1).i)]) (.agg #[.int .u32 ((l5 0).i), .int .i64 ((l5 1).i)])) (.one (.sc (.bool))) fun l6 =>
         (.ite ((l6 0).b)
          (.ite ((l3 0).b)
           (.rd (Instr.loadAt 24 (.pointer (some ⟨(l1 0).n, 0, none⟩))) (.one (.agg [.int .u32, .int .i64])) fun l7 =>
            (.rd (Instr.loadAt 24 (.pointer (some ⟨(l2 0).n, 0, none⟩))) (.one (.agg [.int .u32, .int .i64])) fun l8 =>
             (.call 22 [.agg #[.int .u32 ((l7 0).i), .int .i64 ((l7 1).i)], .agg #[.int .u32 ((l8 0).i), .int .i64 ((l8 1).i)]] (.one (.sc (.bool))) fun l9 => -- prefix_Less
              (.done (.bool (!((l9 0).b)))))))
           (.done (.bool false)))
          (.ite ((l3 0).b)
           (.rd (Instr.loadAt 24 (.pointer (some ⟨(l1 0).n, 0, none⟩))) (.one (.agg [.int .u32, .int .i64])) fun l10 =>
            (.rd (Instr.loadAt 24 (.pointer (some ⟨(l2 0).n, 0, none⟩))) (.one (.agg [.int .u32, .int .i64])) fun l11 =>
             (.rd (Instr.loadAt 24 (.pointer (some ⟨(l2 0).n, 0, none⟩))) (.one (.agg [.int .u32, .int .i64])) fun l12 =>
              (.rd (Instr.loadAt 24 (.pointer (some ⟨(l1 0).n, 0, none⟩))) (.one (.agg [.int .u32, .int .i64])) fun l13 =>
               (.call 22 [.agg #[.int .u32 ((l10 0).i), .int .i64 ((l10 1).i)], .agg #[.int .u32 ((l11 0).i), .int .i64 ((l11 1).i)]] (.one (.sc (.bool))) fun l14 => -- prefix_Less
                (.pin (vN (Instr.loadAt 24 (.pointer (some ⟨(l1 0).n, 0, none⟩)))) (.agg #[.int .u32 ((l13 0).i), .int .i64 ((l13 1).i)])
                 (.pin (vN (Instr.loadAt 24 (.pointer (some ⟨(l2 0).n, 0, none⟩)))) (.agg #[.int .u32 ((l12 0).i), .int .i64 ((l12 1).i)])
                  (.call 22 [.agg #[.int .u32 ((l12 0).i), .int .i64 ((l12 1).i)], .agg #[.int .u32 ((l13 0).i), .int .i64 ((l13 1).i)]] (.one (.sc (.bool))) fun l15 => -- prefix_Less
                   (.ite (!(((l14 0).b) == ((l15 0).b)))
                    (.rd (Instr.loadAt 24 (.pointer (some ⟨(l1 0).n, 0, none⟩))) (.one (.agg [.int .u32, .int .i64])) fun l16 =>
                     (.rd (Instr.loadAt 24 (.pointer (some ⟨(l2 0).n, 0, none⟩))) (.one (.agg [.int .u32, .int .i64])) fun l17 =>
                      (.call 17 [.agg #[.int .u32 ((l16 0).i), .int .i64 ((l16 1).i)], .agg #[.int .u32 ((l17 0).i), .int .i64 ((l17 1).i)]] (.one (.sc (.bool))) fun l18 => -- prefix_Covers
                       (.ite (!((l18 0).b))
                        (.done (.bool true))
                        (.rd (Instr.loadAt 24 (.pointer (some ⟨(l1 0).n, 0, none⟩))) (.one (.agg [.int .u32, .int .i64])) fun l19 =>
                         (.rd (Instr.loadAt 24 (.pointer (some ⟨(l2 0).n, 0, none⟩))) (.one (.agg [.int .u32, .int .i64])) fun l20 =>
                          (.call 22 [.agg #[.int .u32 ((l19 0).i), .int .i64 ((l19 1).i)], .agg #[.int .u32 ((l20 0).i), .int .i64 ((l20 1).i)]] (.one (.sc (.bool))) fun l21 => -- prefix_Less
                           (.done (.bool ((l21 0).b))))))))))
                    (.done (.bool false)))))))))))
           (.done (.bool false)))))))))) h) : Fn Tryd.prog 8 #[.agg #[.int .u32 a0_0, .int .i64 a0_1], .agg #[.int .u32 a1_0, .int .i64 a1_1]] I h Q :=
  Wp.fn (args := [.agg #[.int .u32 a0_0, .int .i64 a0_1], .agg #[.int .u32 a1_0, .int .i64 a1_1]]) Tryd.func8 rfl (by kernel_rfl) (of_tree (cfg := g_octroilaw02_PrefixOrders) 1000 (by kernel_rfl) Tryd.func8 rfl Tryd.checked.mixed hh)
theorem ca_octroilaw02_PrefixOrders : callable Tryd.prog 8 := ⟨_, Tryd.func8, by kernel_rfl, by kernel_rfl⟩
/-! ### octroilaw02_PrefixMakes: function 9 of Go -/
abbrev F_octroilaw02_PrefixMakes : FuncId := 9
noncomputable def c_octroilaw02_PrefixMakes : Code := (Tryd.f9.body).getD .skip
def p_octroilaw02_PrefixMakes : Nat → List (List Nat) := fun r => match r with | 6 => [[], [0], [0, 1], [0, 1], [0, 1, 2, 3], [0, 1, 2, 3, 4], [0, 1, 2, 3, 4, 5], [0, 1, 2, 3, 4, 5, 6], [0, 1, 2, 3, 4, 5, 6], [0, 1, 2, 3, 4, 5, 6, 7, 8], [0, 1, 2, 3, 4, 5, 6, 7, 8, 9], [0, 1, 2, 3, 4, 5, 6, 7, 8, 9, 10], [0, 1, 2, 3, 4, 5, 6, 7, 8, 9, 10, 11], [0, 1, 2, 3, 4, 5, 6, 7, 8, 9, 10, 11], [0, 1, 2, 3, 4, 5, 6, 7, 8, 9, 10, 11, 12, 13], [0, 1, 2, 3, 4, 5, 6, 7, 8, 9, 10, 11, 12, 13, 14], [0, 1, 2, 3, 4, 5, 6, 7, 8, 9, 10, 11, 12, 13, 14, 15], [0, 1, 2, 3, 4, 5, 6, 7, 8, 9, 10, 11, 12, 13, 14, 15, 16], [0, 1, 2, 3, 4, 5, 6, 7, 8, 9, 10, 11, 12, 13, 14, 15, 16], [0, 1, 2, 3, 4, 5, 6, 7, 8, 9, 10, 11, 12, 13, 14, 15, 16, 17, 18], [0, 1, 2, 3, 4, 5, 6, 7, 8, 9, 10, 11, 12, 13, 14, 15, 16, 17, 18, 19], [0, 1, 2, 3, 4, 5, 6, 7, 8, 9, 10, 11, 12, 13, 14, 15, 16, 17, 18, 19, 20], [0, 1, 2, 3, 4, 5, 6, 7, 8, 9, 10, 11, 12, 13, 14, 15, 16, 17, 18, 19, 20, 21], [0, 1, 2, 3, 4, 5, 6, 7, 8, 9, 10, 11, 12, 13, 14, 15, 16, 17, 18, 19, 20, 21, 22], [0, 1, 2, 3, 4, 5, 6, 7, 8, 9, 10, 11, 12, 13, 14, 15, 16, 17, 18, 19, 20, 21], [0, 1, 2, 3, 4, 5, 6, 7, 8, 9, 10, 11, 12, 13, 14, 15, 16, 17, 18, 19, 20, 21, 22, 23, 24], [0, 1, 2, 3, 4, 5, 6, 7, 8, 9, 10, 11, 12, 13, 14, 15, 16, 17, 18, 19, 20, 21, 22, 23, 24, 25], [0, 1, 2, 3, 4, 5, 6, 7, 8, 9, 10, 11, 12, 13, 14, 15, 16, 17, 18, 19, 20, 21, 22, 23, 24, 25, 26], [0, 1, 2, 3, 4, 5, 6, 7, 8, 9, 10, 11, 12, 13, 14, 15, 16, 17, 18, 19, 20, 21, 22, 23, 24, 25, 26, 27], [0, 1, 2, 3, 4, 5, 6, 7, 8, 9, 10, 11, 12, 13, 14, 15, 16, 17, 18, 19, 20, 21, 22, 23, 24, 25, 26, 27, 28], [0, 1, 2, 3, 4, 5, 6, 7, 8, 9, 10, 11, 12, 13, 14, 15, 16, 17, 18, 19, 20, 21, 22, 23, 24, 25, 26, 27, 28, 29], [0, 1, 2, 3, 4, 5, 6, 7, 8, 9, 10, 11, 12, 13, 14, 15, 16, 17, 18, 19, 20, 21, 22, 23, 24, 25, 26, 27, 28], [0, 1, 2, 3, 4, 5, 6, 7, 8, 9, 10, 11, 12, 13, 14, 15, 16, 17, 18, 19, 20, 21, 22, 23, 24, 25, 26, 27, 28, 29, 30, 31], [0, 1, 2, 3, 4, 5, 6, 7, 8, 9, 10, 11, 12, 13, 14, 15, 16, 17, 18, 19, 20, 21, 22, 23, 24, 25, 26, 27, 28, 29, 30, 31, 32], [0, 1, 2, 3, 4, 5, 6, 7, 8, 9, 10, 11, 12, 13, 14, 15, 16, 17, 18, 19, 20, 21, 22, 23, 24, 25, 26, 27, 28, 29, 30, 31, 32, 33], [0, 1, 2, 3, 4, 5, 6, 7, 8, 9, 10, 11, 12, 13, 14, 15, 16, 17, 18, 19, 20, 21, 22, 23, 24, 25, 26, 27, 28, 29, 30, 31, 32, 33, 34]] | _ => []
noncomputable def g_octroilaw02_PrefixMakes : Cfg := { sh := shs, fsh := fshs, results := [.tmp 6], hint := fun r i => match r, i with | 6, 4 => some (true, .one (.sc (.bool))) | _, _ => none, ord := fun r => match r with | 6 => some [0, 1, 2, 3, 4, 5, 6, 7, 8, 9, 10, 11, 12, 13, 14, 15, 16, 17, 18, 19, 20, 21, 22, 24, 23, 25, 26, 27, 28, 29, 31, 30, 32, 33, 34, 35] | _ => none, pre := p_octroilaw02_PrefixMakes, un := unOf p_octroilaw02_PrefixMakes }
set_option maxRecDepth 100000 in
set_option maxHeartbeats 4000000 in
theorem r_octroilaw02_PrefixMakes (a0 : Int) (a1 : Int) (a2_0 : Int) (a2_1 : Int) {I : Ctx} {h : Mem} {Q : Value → Mem → Prop}
  (hh : holds Tryd.prog 9 I (cl_ Q)
   (.sem (Instr.box 24 (.agg #[.int .u32 a2_0, .int .i64 a2_1])) shBlk fun l1 =>
    (.call 11 [] (.one (.sc (.bool))) fun l2 => -- octroilaw02_awake
     (.call 19 [.int .u32 a0, .int .i64 a1] (.tup [.agg [.int .u32, .int .i64], (.sc (.int .i64))]) fun l3 => -- prefix_Make
      (.sem (Instr.alloc 24 true (.tuple #[])) shBlk fun l4 =>
       (.unit (Instr.storeAt 24 (.pointer (some ⟨(l4 0).n, 0, none⟩)) (.agg #[.int .u32 ((l3 0).i), .int .i64 ((l3 1).i)]))
        (.call 24 [.int .u32 a0, .int .i64 a1] (.tup [.agg [.int .u32, .int .i64], (.sc (.int .i64))]) fun l5 => -- octroiref02_Make
         (.sem (Instr.alloc 24 true (.tuple #[])) shBlk fun l6 =>
          (.unit (Instr.storeAt 24 (.pointer (some ⟨(l6 0).n, 0, none⟩)) (.agg #[.int .u32 ((l5 0).i), .int .i64 ((l5 1).i)]))
           (.call 25 [.int .u32 a0] (.tup [(.sc (.int .i64)), (.sc (.bool))]) fun l7 => -- prefix_Bits
            (.call 26 [.int .u32 a0] (.tup [(.sc (.int .i64)), (.sc (.bool))]) fun l8 => -- octroiref02_Bits
             (.ite ((l2 0).b)
              (.rd (Instr.loadAt 24 (.pointer (some ⟨(l4 0).n, 0, none⟩))) (.one (.agg [.int .u32, .int .i64])) fun l9 =>
               (.rd (Instr.loadAt 24 (.pointer (some ⟨(l6 0).n, 0, none⟩))) (.one (.agg [.int .u32, .int .i64])) fun l10 =>
                (.rdn (eqN .eql 24 (.tmp 0) (.tmp 0) (.agg #[.int .u32 ((l9 0).i), .int .i64 ((l9 1).i)]) (.agg #[.int .u32 ((l10 0).i), .int .i64 ((l10 1).i)])) (.one (.sc (.bool))) fun l11 =>
                 (.ite ((l11 0).b)
                  (.ite (((l3 2).i : Int) == ((l5 2).i))
                   (.ite (((l7 0).i : Int) == ((l8 0).i))
                    (.ite (((l7 1).b) == ((l8 1).b))
                     (.call 27 [.int .i64 a1] (.one (.sc (.int .u32))) fun l12 => -- prefix_Mask
                      (.call 28 [.int .i64 a1] (.one (.sc (.int .u32))) fun l13 => -- octroiref02_Mask
                       (.ite (((l12 0).i : Int) == ((l13 0).i))
                        (.rd (Instr.loadAt 24 (.pointer (some ⟨(l1 0).n, 0, none⟩))) (.one (.agg [.int .u32, .int .i64])) fun l14 =>
                         (.rd (Instr.loadAt 24 (.pointer (some ⟨(l1 0).n, 0, none⟩))) (.one (.agg [.int .u32, .int .i64])) fun l15 =>
                          (.call 16 [.agg #[.int .u32 ((l14 0).i), .int .i64 ((l14 1).i)]] (.one (.sc (.bool))) fun l16 => -- prefix_May
                           (.pin (vN (Instr.loadAt 24 (.pointer (some ⟨(l1 0).n, 0, none⟩)))) (.agg #[.int .u32 ((l15 0).i), .int .i64 ((l15 1).i)])
                            (.call 29 [.agg #[.int .u32 ((l15 0).i), .int .i64 ((l15 1).i)]] (.one (.sc (.bool))) fun l17 => -- octroiref02_May
                             (.done (.bool (((l16 0).b) == ((l17 0).b)))))))))
                        (.done (.bool false)))))
                     (.done (.bool false)))
                    (.done (.bool false)))
                   (.done (.bool false)))
                  (.done (.bool false))))))
              (.done (.bool false))))))))))))) h) : Fn Tryd.prog 9 #[.int .u32 a0, .int .i64 a1, .agg #[.int .u32 a2_0, .int .i64 a2_1]] I h Q :=
  Wp.fn (args := [.int .u32 a0, .int .i64 a1, .agg #[.int .u32 a2_0, .int .i64 a2_1]]) Tryd.func9 rfl (by kernel_rfl) (of_tree (cfg := g_octroilaw02_PrefixMakes) 1000 (by kernel_rfl) Tryd.func9 rfl Tryd.checked.mixed hh)
theorem ca_octroilaw02_PrefixMakes : callable Tryd.prog 9 := ⟨_, Tryd.func9, by kernel_rfl, by kernel_rfl⟩
/-! ### octroilaw02_PrefixMasks: function 10 of Go -/
abbrev F_octroilaw02_PrefixMasks : FuncId := 10
noncomputable def c_octroilaw02_PrefixMasks : Code := (Tryd.f10.body).getD .skip
noncomputable def g_octroilaw02_PrefixMasks : Cfg := { sh := shs, fsh := fshs, results := [.tmp 4], hint := fun _ _ => none, ord := fun _ => none, pre := fun _ => [], un := fun _ _ _ => false }
set_option maxRecDepth 100000 in
set_option maxHeartbeats 4000000 in
theorem r_octroilaw02_PrefixMasks (a0 : Int) (a1 : Int) {I : Ctx} {h : Mem} {Q : Value → Mem → Prop}
  (hh : holds Tryd.prog 10 I (cl_ Q)
   (.call 11 [] (.one (.sc (.bool))) fun l1 => -- octroilaw02_awake
    (.ite (decide ((a0 : Int) < 0))
     (.done (.bool ((l1 0).b)))
     (.ite (decide ((a0 : Int) > a1))
      (.done (.bool ((l1 0).b)))
      (.ite (decide ((a1 : Int) > 32))
       (.done (.bool ((l1 0).b)))
       (.call 27 [.int .i64 a0] (.one (.sc (.int .u32))) fun l2 => -- prefix_Mask
        (.call 25 [.int .u32 ((l2 0).i)] (.tup [(.sc (.int .i64)), (.sc (.bool))]) fun l3 => -- prefix_Bits
         (.ite ((l1 0).b)
          (.call 27 [.int .i64 a0] (.one (.sc (.int .u32))) fun l4 => -- prefix_Mask
           (.call 27 [.int .i64 a1] (.one (.sc (.int .u32))) fun l5 => -- prefix_Mask
            (.call 27 [.int .i64 a0] (.one (.sc (.int .u32))) fun l6 => -- prefix_Mask
             (.ite ((bitop .and .u32 ((l4 0).i) ((l5 0).i) : Int) == ((l6 0).i))
              (.call 27 [.int .i64 a0] (.one (.sc (.int .u32))) fun l7 => -- prefix_Mask
               (.call 27 [.int .i64 a1] (.one (.sc (.int .u32))) fun l8 => -- prefix_Mask
                (.ite (((a0 : Int) == a1) == (((l7 0).i : Int) == ((l8 0).i)))
                 (.ite (((l3 0).i : Int) == a0)
                  (.done (.bool ((l3 1).b)))
                  (.done (.bool false)))
                 (.done (.bool false)))))
              (.done (.bool false))))))
          (.done (.bool false))))))))) h) : Fn Tryd.prog 10 #[.int .i64 a0, .int .i64 a1] I h Q :=
  Wp.fn (args := [.int .i64 a0, .int .i64 a1]) Tryd.func10 rfl (by kernel_rfl) (of_tree (cfg := g_octroilaw02_PrefixMasks) 1000 (by kernel_rfl) Tryd.func10 rfl Tryd.checked.mixed hh)
theorem ca_octroilaw02_PrefixMasks : callable Tryd.prog 10 := ⟨_, Tryd.func10, by kernel_rfl, by kernel_rfl⟩
/-! ### octroilaw02_awake: function 11 of Go -/
abbrev F_octroilaw02_awake : FuncId := 11
noncomputable def c_octroilaw02_awake : Code := (Tryd.f11.body).getD .skip
noncomputable def g_octroilaw02_awake : Cfg := { sh := shs, fsh := fshs, results := [.tmp 0], hint := fun r i => match r, i with | 3, 5 => some (true, .one (.sc (.bool))) | _, _ => none, ord := fun _ => none, pre := fun _ => [], un := fun _ _ _ => false }
set_option maxRecDepth 100000 in
set_option maxHeartbeats 4000000 in
theorem r_octroilaw02_awake  {I : Ctx} {h : Mem} {Q : Value → Mem → Prop}
  (hh : holds Tryd.prog 11 I (cl_ Q)
   (.call 19 [.int .u32 167838211, .int .i64 8] (.tup [.agg [.int .u32, .int .i64], (.sc (.int .i64))]) fun l1 => -- prefix_Make
    (.sem (Instr.alloc 24 true (.tuple #[])) shBlk fun l2 =>
     (.unit (Instr.storeAt 24 (.pointer (some ⟨(l2 0).n, 0, none⟩)) (.agg #[.int .u32 ((l1 0).i), .int .i64 ((l1 1).i)]))
      (.call 12 [.string (ByteArray.mk #[49, 48, 46, 48, 46, 48, 46, 49, 47, 56])] (.tup [.agg [.int .u32, .int .i64], (.sc (.int .i64))]) fun l3 => -- prefix_Parse
       (.sem (Instr.alloc 24 true (.tuple #[])) shBlk fun l4 =>
        (.unit (Instr.storeAt 24 (.pointer (some ⟨(l4 0).n, 0, none⟩)) (.agg #[.int .u32 ((l3 0).i), .int .i64 ((l3 1).i)]))
         (.ite (((l1 2).i : Int) == 0)
          (.rd (Instr.loadAt 24 (.pointer (some ⟨(l2 0).n, 0, none⟩))) (.one (.agg [.int .u32, .int .i64])) fun l5 =>
           (.rdn (eqN .eql 24 (.tmp 0) (.tmp 0) (.agg #[.int .u32 ((l5 0).i), .int .i64 ((l5 1).i)]) (.agg #[.int .u32 167772160, .int .i64 8])) (.one (.sc (.bool))) fun l6 =>
            (.ite ((l6 0).b)
             (.ite (((l3 2).i : Int) == 2)
              (.rd (Instr.loadAt 24 (.pointer (some ⟨(l2 0).n, 0, none⟩))) (.one (.agg [.int .u32, .int .i64])) fun l7 =>
               (.call 14 [.agg #[.int .u32 ((l7 0).i), .int .i64 ((l7 1).i)]] (.one (.sc (.str))) fun l8 => -- prefix_Show
                (.ite (((l8 0).s).toList == (ByteArray.mk #[49, 48, 46, 48, 46, 48, 46, 48, 47, 56]).toList)
                 (.rd (Instr.loadAt 24 (.pointer (some ⟨(l2 0).n, 0, none⟩))) (.one (.agg [.int .u32, .int .i64])) fun l9 =>
                  (.call 17 [.agg #[.int .u32 ((l9 0).i), .int .i64 ((l9 1).i)], .agg #[.int .u32 167837696, .int .i64 16]] (.one (.sc (.bool))) fun l10 => -- prefix_Covers
                   (.done (.bool ((l10 0).b)))))
                 (.done (.bool false)))))
              (.done (.bool false)))
             (.done (.bool false)))))
          (.done (.bool false))))))))) h) : Fn Tryd.prog 11 #[] I h Q :=
  Wp.fn (args := []) Tryd.func11 rfl (by kernel_rfl) (of_tree (cfg := g_octroilaw02_awake) 1000 (by kernel_rfl) Tryd.func11 rfl Tryd.checked.mixed hh)
theorem ca_octroilaw02_awake : callable Tryd.prog 11 := ⟨_, Tryd.func11, by kernel_rfl, by kernel_rfl⟩
/-! ### prefix_Parse: function 12 of Go -/
abbrev F_prefix_Parse : FuncId := 12
noncomputable def c_prefix_Parse : Code := (Tryd.f12.body).getD .skip
noncomputable def g_prefix_Parse : Cfg := { sh := shs, fsh := fshs, results := [.cell 2 24, .tmp 3], hint := fun _ _ => none, ord := fun _ => none, pre := fun _ => [], un := fun _ _ _ => false }
noncomputable def k_prefix_Parse_1 : List Item := [.code (sr (sr (sr (sr (bd (sr c_prefix_Parse)))))), .inScope (bd (sr c_prefix_Parse))]
noncomputable def t_prefix_Parse_1 (a0 : ByteArray) (y2 : Nat) (y4 : Nat) (x6 : ByteArray) (x7 : Int) (x8 : ByteArray) (u : Nat → Value) : List Value := [.string a0, undef, .pointer (some ⟨y2, 0, none⟩), (u 3), .pointer (some ⟨y4, 0, none⟩), (u 5), .string x6, .int .i64 x7, .string x8, (u 9), (u 10), (u 11), (u 12), (u 13), (u 14), (u 15), (u 16), (u 17), (u 18), (u 19), (u 20), (u 21), (u 22), (u 23), (u 24), (u 25), (u 26), (u 27), (u 28), (u 29), (u 30), (u 31), (u 32), (u 33), (u 34), (u 35), (u 36), (u 37), (u 38)]
noncomputable def k_prefix_Parse_2 : List Item := [.code (sl (sl (sr (sr (sr (sr (bd (sr c_prefix_Parse)))))))), .code (sr (sl (sr (sr (sr (sr (bd (sr c_prefix_Parse)))))))), .code (sr (sr (sr (sr (sr (bd (sr c_prefix_Parse))))))), .inScope (bd (sr c_prefix_Parse))]
noncomputable def t_prefix_Parse_2 (a0 : ByteArray) (y2 : Nat) (y4 : Nat) (x6 : ByteArray) (x7 : Int) (x8 : ByteArray) (u : Nat → Value) : List Value := [.string a0, undef, .pointer (some ⟨y2, 0, none⟩), (u 3), .pointer (some ⟨y4, 0, none⟩), (u 5), .string x6, .int .i64 x7, .string x8, (u 9), (u 10), (u 11), (u 12), (u 13), (u 14), (u 15), (u 16), (u 17), (u 18), (u 19), (u 20), (u 21), (u 22), (u 23), (u 24), (u 25), (u 26), (u 27), (u 28), (u 29), (u 30), (u 31), (u 32), (u 33), (u 34), (u 35), (u 36), (u 37), (u 38)]
set_option maxRecDepth 100000 in
set_option maxHeartbeats 4000000 in
theorem r_prefix_Parse (a0 : ByteArray) {I : Ctx} {h : Mem} {Q : Value → Mem → Prop}
  (hh : holds Tryd.prog 12 I (cl_ Q)
   (.sem (Instr.alloc 24 true (.tuple #[])) shBlk fun l1 =>
    (.sem (Instr.alloc 24 true (.tuple #[])) shBlk fun l2 =>
     (.stop k_prefix_Parse_1 (t_prefix_Parse_1 a0 ((l1 0).n) ((l2 0).n) a0 0 (ByteArray.mk #[46]) (jl [(3, .int .i64 0), (5, .int .u32 0), (9, .bool false), (10, .string a0), (11, undef), (12, undef), (13, undef), (14, undef), (15, undef), (16, undef), (17, undef), (18, undef), (19, undef), (20, undef), (21, undef), (22, undef), (23, undef), (24, undef), (25, undef), (26, undef), (27, undef), (28, undef), (29, undef), (30, undef), (31, undef), (32, undef), (33, undef), (34, undef), (35, undef), (36, undef), (37, undef), (38, undef)]))))) h) : Fn Tryd.prog 12 #[.string a0] I h Q :=
  Wp.fn (args := [.string a0]) Tryd.func12 rfl (by kernel_rfl) (of_tree (cfg := g_prefix_Parse) 1000 (by kernel_rfl) Tryd.func12 rfl Tryd.checked.mixed hh)
theorem ca_prefix_Parse : callable Tryd.prog 12 := ⟨_, Tryd.func12, by kernel_rfl, by kernel_rfl⟩
set_option maxRecDepth 100000 in
set_option maxHeartbeats 4000000 in
theorem r_prefix_Parse_1 (a0 : ByteArray) (y2 : Nat) (y4 : Nat) (x6 : ByteArray) (x7 : Int) (x8 : ByteArray) (u : Nat → Value) {I : Ctx} {h : Mem} {Q : Value → Mem → Prop}
  (hh : holds Tryd.prog 12 I Q
   (.ite ((x7 : Int) == 3)
    (.call 30 [.string x6, .string (ByteArray.mk #[47])] (.tup [(.sc (.int .u32)), (.sc (.str)), (.sc (.bool))]) fun l3 => -- prefix_number
     (.ite (!((l3 2).b))
      (.unit (Instr.storeAt 24 (.pointer (some ⟨y2, 0, none⟩)) (.agg #[.int .u32 0, .int .i64 0]))
       (.rd (loadVar 24 ⟨y2, 0, none⟩) (.one (.agg [.int .u32, .int .i64])) fun l4 =>
        (.done (.tuple #[.agg #[.int .u32 ((l4 0).i), .int .i64 ((l4 1).i)], .int .i64 2]))))
      (.rd (Instr.loadAt 22 (.pointer (some ⟨y4, 0, none⟩))) (.one (.sc (.int .u32))) fun l5 =>
       (.unit (Instr.storeAt 22 (.pointer (some ⟨y4, 0, none⟩)) (.int .u32 (bitop .or .u32 (IntKind.wrap .u32 (((l5 0).i) * 2 ^ 8)) ((l3 0).i))))
        (.ite (decide ((IntKind.wrap .i64 (x7 + 1) : Int) < 4))
         (.stop k_prefix_Parse_2 (t_prefix_Parse_2 a0 y2 y4 ((l3 1).s) (IntKind.wrap .i64 (x7 + 1)) (ByteArray.mk #[47]) (jl [(3, (u 3)), (5, .int .u32 ((l3 0).i)), (9, .bool ((l3 2).b)), (10, (u 10)), (11, .int .i64 x7), (12, .bool ((x7 : Int) == 3)), (13, .tuple #[.int .u32 ((l3 0).i), .string ((l3 1).s), .bool ((l3 2).b)]), (14, .string x6), (15, .string (ByteArray.mk #[47])), (16, .tuple #[.int .u32 ((l3 0).i), .string ((l3 1).s), .bool ((l3 2).b)]), (17, .int .u32 ((l3 0).i)), (18, .string ((l3 1).s)), (19, .bool ((l3 2).b)), (20, .bool ((l3 2).b)), (21, .bool (!((l3 2).b))), (22, (u 22)), (23, .pointer (some ⟨y4, 0, none⟩)), (24, .int .u32 ((l5 0).i)), (25, .int .u32 (IntKind.wrap .u32 (((l5 0).i) * 2 ^ 8))), (26, .int .u32 ((l3 0).i)), (27, .int .u32 (bitop .or .u32 (IntKind.wrap .u32 (((l5 0).i) * 2 ^ 8)) ((l3 0).i))), (28, .pointer (some ⟨y4, 0, none⟩)), (29, .int .i64 x7), (30, .int .i64 (IntKind.wrap .i64 (x7 + 1))), (31, .int .i64 (IntKind.wrap .i64 (x7 + 1))), (32, .bool (decide ((IntKind.wrap .i64 (x7 + 1) : Int) < 4))), (33, (u 33)), (34, (u 34)), (35, (u 35)), (36, (u 36)), (37, (u 37)), (38, (u 38))])))
         (.rd (Instr.loadAt 24 (.pointer (some ⟨y4, 0, none⟩))) (.one (.agg [.int .u32, .int .i64])) fun l6 =>
          (.call 31 [.agg #[.int .u32 ((l6 0).i), .int .i64 ((l6 1).i)], .string ((l3 1).s), .string a0] (.tup [.agg [.int .u32, .int .i64], (.sc (.int .i64))]) fun l7 => -- prefix_length
           (.unit (Instr.storeAt 24 (.pointer (some ⟨y2, 0, none⟩)) (.agg #[.int .u32 ((l7 0).i), .int .i64 ((l7 1).i)]))
            (.rd (loadVar 24 ⟨y2, 0, none⟩) (.one (.agg [.int .u32, .int .i64])) fun l8 =>
             (.done (.tuple #[.agg #[.int .u32 ((l8 0).i), .int .i64 ((l8 1).i)], .int .i64 ((l7 2).i)])))))))))))
    (.call 30 [.string x6, .string x8] (.tup [(.sc (.int .u32)), (.sc (.str)), (.sc (.bool))]) fun l9 => -- prefix_number
     (.ite (!((l9 2).b))
      (.unit (Instr.storeAt 24 (.pointer (some ⟨y2, 0, none⟩)) (.agg #[.int .u32 0, .int .i64 0]))
       (.rd (loadVar 24 ⟨y2, 0, none⟩) (.one (.agg [.int .u32, .int .i64])) fun l10 =>
        (.done (.tuple #[.agg #[.int .u32 ((l10 0).i), .int .i64 ((l10 1).i)], .int .i64 2]))))
      (.rd (Instr.loadAt 22 (.pointer (some ⟨y4, 0, none⟩))) (.one (.sc (.int .u32))) fun l11 =>
       (.unit (Instr.storeAt 22 (.pointer (some ⟨y4, 0, none⟩)) (.int .u32 (bitop .or .u32 (IntKind.wrap .u32 (((l11 0).i) * 2 ^ 8)) ((l9 0).i))))
        (.ite (decide ((IntKind.wrap .i64 (x7 + 1) : Int) < 4))
         (.stop k_prefix_Parse_2 (t_prefix_Parse_2 a0 y2 y4 ((l9 1).s) (IntKind.wrap .i64 (x7 + 1)) x8 (jl [(3, (u 3)), (5, .int .u32 ((l9 0).i)), (9, .bool ((l9 2).b)), (10, (u 10)), (11, .int .i64 x7), (12, .bool ((x7 : Int) == 3)), (13, .tuple #[.int .u32 ((l9 0).i), .string ((l9 1).s), .bool ((l9 2).b)]), (14, .string x6), (15, .string x8), (16, .tuple #[.int .u32 ((l9 0).i), .string ((l9 1).s), .bool ((l9 2).b)]), (17, .int .u32 ((l9 0).i)), (18, .string ((l9 1).s)), (19, .bool ((l9 2).b)), (20, .bool ((l9 2).b)), (21, .bool (!((l9 2).b))), (22, (u 22)), (23, .pointer (some ⟨y4, 0, none⟩)), (24, .int .u32 ((l11 0).i)), (25, .int .u32 (IntKind.wrap .u32 (((l11 0).i) * 2 ^ 8))), (26, .int .u32 ((l9 0).i)), (27, .int .u32 (bitop .or .u32 (IntKind.wrap .u32 (((l11 0).i) * 2 ^ 8)) ((l9 0).i))), (28, .pointer (some ⟨y4, 0, none⟩)), (29, .int .i64 x7), (30, .int .i64 (IntKind.wrap .i64 (x7 + 1))), (31, .int .i64 (IntKind.wrap .i64 (x7 + 1))), (32, .bool (decide ((IntKind.wrap .i64 (x7 + 1) : Int) < 4))), (33, (u 33)), (34, (u 34)), (35, (u 35)), (36, (u 36)), (37, (u 37)), (38, (u 38))])))
         (.rd (Instr.loadAt 24 (.pointer (some ⟨y4, 0, none⟩))) (.one (.agg [.int .u32, .int .i64])) fun l12 =>
          (.call 31 [.agg #[.int .u32 ((l12 0).i), .int .i64 ((l12 1).i)], .string ((l9 1).s), .string a0] (.tup [.agg [.int .u32, .int .i64], (.sc (.int .i64))]) fun l13 => -- prefix_length
           (.unit (Instr.storeAt 24 (.pointer (some ⟨y2, 0, none⟩)) (.agg #[.int .u32 ((l13 0).i), .int .i64 ((l13 1).i)]))
            (.rd (loadVar 24 ⟨y2, 0, none⟩) (.one (.agg [.int .u32, .int .i64])) fun l14 =>
             (.done (.tuple #[.agg #[.int .u32 ((l14 0).i), .int .i64 ((l14 1).i)], .int .i64 ((l13 2).i)])))))))))))) h) : Wp Tryd.prog 12 k_prefix_Parse_1 (t_prefix_Parse_1 a0 y2 y4 x6 x7 x8 u) I h Q :=
  of_tree (cfg := g_prefix_Parse) 1000 (by kernel_rfl) Tryd.func12 rfl Tryd.checked.mixed hh
set_option maxRecDepth 100000 in
set_option maxHeartbeats 4000000 in
theorem r_prefix_Parse_2 (a0 : ByteArray) (y2 : Nat) (y4 : Nat) (x6 : ByteArray) (x7 : Int) (x8 : ByteArray) (u : Nat → Value) {I : Ctx} {h : Mem} {Q : Value → Mem → Prop}
  (hh : holds Tryd.prog 12 I Q
   (.ite ((x7 : Int) == 3)
    (.call 30 [.string x6, .string (ByteArray.mk #[47])] (.tup [(.sc (.int .u32)), (.sc (.str)), (.sc (.bool))]) fun l15 => -- prefix_number
     (.ite (!((l15 2).b))
      (.unit (Instr.storeAt 24 (.pointer (some ⟨y2, 0, none⟩)) (.agg #[.int .u32 0, .int .i64 0]))
       (.rd (loadVar 24 ⟨y2, 0, none⟩) (.one (.agg [.int .u32, .int .i64])) fun l16 =>
        (.done (.tuple #[.agg #[.int .u32 ((l16 0).i), .int .i64 ((l16 1).i)], .int .i64 2]))))
      (.rd (Instr.loadAt 22 (.pointer (some ⟨y4, 0, none⟩))) (.one (.sc (.int .u32))) fun l17 =>
       (.unit (Instr.storeAt 22 (.pointer (some ⟨y4, 0, none⟩)) (.int .u32 (bitop .or .u32 (IntKind.wrap .u32 (((l17 0).i) * 2 ^ 8)) ((l15 0).i))))
        (.ite (decide ((IntKind.wrap .i64 (x7 + 1) : Int) < 4))
         (.stop k_prefix_Parse_2 (t_prefix_Parse_2 a0 y2 y4 ((l15 1).s) (IntKind.wrap .i64 (x7 + 1)) (ByteArray.mk #[47]) (jl [(3, (u 3)), (5, .int .u32 ((l15 0).i)), (9, .bool ((l15 2).b)), (10, (u 10)), (11, .int .i64 x7), (12, .bool ((x7 : Int) == 3)), (13, .tuple #[.int .u32 ((l15 0).i), .string ((l15 1).s), .bool ((l15 2).b)]), (14, .string x6), (15, .string (ByteArray.mk #[47])), (16, .tuple #[.int .u32 ((l15 0).i), .string ((l15 1).s), .bool ((l15 2).b)]), (17, .int .u32 ((l15 0).i)), (18, .string ((l15 1).s)), (19, .bool ((l15 2).b)), (20, .bool ((l15 2).b)), (21, .bool (!((l15 2).b))), (22, (u 22)), (23, .pointer (some ⟨y4, 0, none⟩)), (24, .int .u32 ((l17 0).i)), (25, .int .u32 (IntKind.wrap .u32 (((l17 0).i) * 2 ^ 8))), (26, .int .u32 ((l15 0).i)), (27, .int .u32 (bitop .or .u32 (IntKind.wrap .u32 (((l17 0).i) * 2 ^ 8)) ((l15 0).i))), (28, .pointer (some ⟨y4, 0, none⟩)), (29, .int .i64 x7), (30, .int .i64 (IntKind.wrap .i64 (x7 + 1))), (31, .int .i64 (IntKind.wrap .i64 (x7 + 1))), (32, .bool (decide ((IntKind.wrap .i64 (x7 + 1) : Int) < 4))), (33, (u 33)), (34, (u 34)), (35, (u 35)), (36, (u 36)), (37, (u 37)), (38, (u 38))])))
         (.rd (Instr.loadAt 24 (.pointer (some ⟨y4, 0, none⟩))) (.one (.agg [.int .u32, .int .i64])) fun l18 =>
          (.call 31 [.agg #[.int .u32 ((l18 0).i), .int .i64 ((l18 1).i)], .string ((l15 1).s), .string a0] (.tup [.agg [.int .u32, .int .i64], (.sc (.int .i64))]) fun l19 => -- prefix_length
           (.unit (Instr.storeAt 24 (.pointer (some ⟨y2, 0, none⟩)) (.agg #[.int .u32 ((l19 0).i), .int .i64 ((l19 1).i)]))
            (.rd (loadVar 24 ⟨y2, 0, none⟩) (.one (.agg [.int .u32, .int .i64])) fun l20 =>
             (.done (.tuple #[.agg #[.int .u32 ((l20 0).i), .int .i64 ((l20 1).i)], .int .i64 ((l19 2).i)])))))))))))
    (.call 30 [.string x6, .string x8] (.tup [(.sc (.int .u32)), (.sc (.str)), (.sc (.bool))]) fun l21 => -- prefix_number
     (.ite (!((l21 2).b))
      (.unit (Instr.storeAt 24 (.pointer (some ⟨y2, 0, none⟩)) (.agg #[.int .u32 0, .int .i64 0]))
       (.rd (loadVar 24 ⟨y2, 0, none⟩) (.one (.agg [.int .u32, .int .i64])) fun l22 =>
        (.done (.tuple #[.agg #[.int .u32 ((l22 0).i), .int .i64 ((l22 1).i)], .int .i64 2]))))
      (.rd (Instr.loadAt 22 (.pointer (some ⟨y4, 0, none⟩))) (.one (.sc (.int .u32))) fun l23 =>
       (.unit (Instr.storeAt 22 (.pointer (some ⟨y4, 0, none⟩)) (.int .u32 (bitop .or .u32 (IntKind.wrap .u32 (((l23 0).i) * 2 ^ 8)) ((l21 0).i))))
        (.ite (decide ((IntKind.wrap .i64 (x7 + 1) : Int) < 4))
         (.stop k_prefix_Parse_2 (t_prefix_Parse_2 a0 y2 y4 ((l21 1).s) (IntKind.wrap .i64 (x7 + 1)) x8 (jl [(3, (u 3)), (5, .int .u32 ((l21 0).i)), (9, .bool ((l21 2).b)), (10, (u 10)), (11, .int .i64 x7), (12, .bool ((x7 : Int) == 3)), (13, .tuple #[.int .u32 ((l21 0).i), .string ((l21 1).s), .bool ((l21 2).b)]), (14, .string x6), (15, .string x8), (16, .tuple #[.int .u32 ((l21 0).i), .string ((l21 1).s), .bool ((l21 2).b)]), (17, .int .u32 ((l21 0).i)), (18, .string ((l21 1).s)), (19, .bool ((l21 2).b)), (20, .bool ((l21 2).b)), (21, .bool (!((l21 2).b))), (22, (u 22)), (23, .pointer (some ⟨y4, 0, none⟩)), (24, .int .u32 ((l23 0).i)), (25, .int .u32 (IntKind.wrap .u32 (((l23 0).i) * 2 ^ 8))), (26, .int .u32 ((l21 0).i)), (27, .int .u32 (bitop .or .u32 (IntKind.wrap .u32 (((l23 0).i) * 2 ^ 8)) ((l21 0).i))), (28, .pointer (some ⟨y4, 0, none⟩)), (29, .int .i64 x7), (30, .int .i64 (IntKind.wrap .i64 (x7 + 1))), (31, .int .i64 (IntKind.wrap .i64 (x7 + 1))), (32, .bool (decide ((IntKind.wrap .i64 (x7 + 1) : Int) < 4))), (33, (u 33)), (34, (u 34)), (35, (u 35)), (36, (u 36)), (37, (u 37)), (38, (u 38))])))
         (.rd (Instr.loadAt 24 (.pointer (some ⟨y4, 0, none⟩))) (.one (.agg [.int .u32, .int .i64])) fun l24 =>
          (.call 31 [.agg #[.int .u32 ((l24 0).i), .int .i64 ((l24 1).i)], .string ((l21 1).s), .string a0] (.tup [.agg [.int .u32, .int .i64], (.sc (.int .i64))]) fun l25 => -- prefix_length
           (.unit (Instr.storeAt 24 (.pointer (some ⟨y2, 0, none⟩)) (.agg #[.int .u32 ((l25 0).i), .int .i64 ((l25 1).i)]))
            (.rd (loadVar 24 ⟨y2, 0, none⟩) (.one (.agg [.int .u32, .int .i64])) fun l26 =>
             (.done (.tuple #[.agg #[.int .u32 ((l26 0).i), .int .i64 ((l26 1).i)], .int .i64 ((l25 2).i)])))))))))))) h) : Wp Tryd.prog 12 k_prefix_Parse_2 (t_prefix_Parse_2 a0 y2 y4 x6 x7 x8 u) I h Q :=
  of_tree (cfg := g_prefix_Parse) 1000 (by kernel_rfl) Tryd.func12 rfl Tryd.checked.mixed hh
/-! ### octroiref02_Parse: function 13 of Go -/
abbrev F_octroiref02_Parse : FuncId := 13
noncomputable def c_octroiref02_Parse : Code := (Tryd.f13.body).getD .skip
def p_octroiref02_Parse : Nat → List (List Nat) := fun r => match r with | 15 => [[], [0], [0, 1], [0, 1, 2], [], [4], [4, 5], [4, 5, 6], [0, 1, 2, 3, 4, 5, 6, 7], [], [9], [9, 10], [9, 10, 11], [0, 1, 2, 3, 4, 5, 6, 7, 8, 9, 10, 11, 12], [], [14], [14, 15], [0, 1, 2, 3, 4, 5, 6, 7, 8, 9, 10, 11, 12, 13, 14, 15, 16], [0, 1, 2, 3, 4, 5, 6, 7, 8, 9, 10, 11, 12, 13, 14, 15, 16, 17], [], [19], [19, 20], [0, 1, 2, 3, 4, 5, 6, 7, 8, 9, 10, 11, 12, 13, 14, 15, 16, 17, 18, 19, 20, 21], [], [0, 1, 2, 3, 4, 5, 6, 7, 8, 9, 10, 11, 12, 13, 14, 15, 16, 17, 18, 19, 20, 21, 22, 23]] | _ => []
noncomputable def g_octroiref02_Parse : Cfg := { sh := shs, fsh := fshs, results := [.cell 2 24, .tmp 3], hint := fun _ _ => none, ord := fun r => match r with | 15 => some [0, 1, 2, 3, 4, 5, 6, 7, 8, 9, 10, 11, 12, 13, 14, 15, 16, 17, 18, 19, 20, 21, 22, 23, 24] | _ => none, pre := p_octroiref02_Parse, un := unOf p_octroiref02_Parse }
noncomputable def k_octroiref02_Parse_1 : List Item := [.code (bd (bd (sr (sl (sr (sr (sr (sr c_octroiref02_Parse)))))))), .inLoop (bd (bd (sr (sl (sr (sr (sr (sr c_octroiref02_Parse)))))))), .inBlock 0, .code (sr (sr (sr (sr (sr c_octroiref02_Parse)))))]
noncomputable def t_octroiref02_Parse_1 (a0 : ByteArray) (y2 : Nat) (A4 : Option Addr) (n4 : Nat) (c4 : Nat) (x5 : Int) (x6 : Int) (u : Nat → Value) : List Value := [.string a0, undef, .pointer (some ⟨y2, 0, none⟩), (u 3), .slice A4 n4 c4, .int .i64 x5, .int .i64 x6, (u 7), (u 8), (u 9), (u 10), (u 11), (u 12), (u 13), (u 14), (u 15), (u 16), (u 17), (u 18), (u 19), (u 20), (u 21), (u 22), (u 23), (u 24), (u 25), (u 26), (u 27), (u 28), (u 29), (u 30), (u 31), (u 32), (u 33), (u 34), (u 35), (u 36), (u 37), (u 38), (u 39), (u 40), (u 41), (u 42), (u 43), (u 44), (u 45), (u 46), (u 47), (u 48), (u 49), (u 50), (u 51), (u 52), (u 53), (u 54), (u 55), (u 56), (u 57), (u 58), (u 59), (u 60), (u 61), (u 62), (u 63), (u 64), (u 65), (u 66), (u 67), (u 68), (u 69), (u 70), (u 71), (u 72), (u 73), (u 74), (u 75), (u 76), (u 77), (u 78), (u 79), (u 80), (u 81), (u 82), (u 83), (u 84), (u 85), (u 86), (u 87), (u 88), (u 89), (u 90), (u 91), (u 92), (u 93), (u 94), (u 95), (u 96), (u 97), (u 98), (u 99), (u 100), (u 101), (u 102), (u 103), (u 104), (u 105), (u 106), (u 107)]
set_option maxRecDepth 100000 in
set_option maxHeartbeats 4000000 in
theorem r_octroiref02_Parse (a0 : ByteArray) {I : Ctx} {h : Mem} {Q : Value → Mem → Prop}
  (hh : holds Tryd.prog 13 I (cl_ Q)
   (.sem (Instr.alloc 24 true (.tuple #[])) shBlk fun l1 =>
    (.ite (decide ((((a0.size : Nat) : Int) : Int) > 18))
     (.unit (Instr.storeAt 24 (.pointer (some ⟨(l1 0).n, 0, none⟩)) (.agg #[.int .u32 0, .int .i64 0]))
      (.rd (loadVar 24 ⟨(l1 0).n, 0, none⟩) (.one (.agg [.int .u32, .int .i64])) fun l2 =>
       (.done (.tuple #[.agg #[.int .u32 ((l2 0).i), .int .i64 ((l2 1).i)], .int .i64 2]))))
     (.stop k_octroiref02_Parse_1 (t_octroiref02_Parse_1 a0 ((l1 0).n) none 0 0 0 0 (jl [(3, .int .i64 0), (7, undef), (8, undef), (9, .string a0), (10, .int .i64 ((a0.size : Nat) : Int)), (11, .bool (decide ((((a0.size : Nat) : Int) : Int) > 18))), (12, undef), (13, undef), (14, undef), (15, undef), (16, undef), (17, undef), (18, undef), (19, undef), (20, undef), (21, undef), (22, undef), (23, undef), (24, undef), (25, undef), (26, undef), (27, undef), (28, undef), (29, undef), (30, undef), (31, undef), (32, undef), (33, undef), (34, undef), (35, undef), (36, undef), (37, undef), (38, undef), (39, undef), (40, undef), (41, undef), (42, undef), (43, undef), (44, undef), (45, undef), (46, undef), (47, undef), (48, undef), (49, undef), (50, undef), (51, undef), (52, undef), (53, undef), (54, undef), (55, undef), (56, undef), (57, undef), (58, undef), (59, undef), (60, undef), (61, undef), (62, undef), (63, undef), (64, undef), (65, undef), (66, undef), (67, undef), (68, undef), (69, undef), (70, undef), (71, undef), (72, undef), (73, undef), (74, undef), (75, undef), (76, undef), (77, undef), (78, undef), (79, undef), (80, undef), (81, undef), (82, undef), (83, undef), (84, undef), (85, undef), (86, undef), (87, undef), (88, undef), (89, undef), (90, undef), (91, undef), (92, undef), (93, undef), (94, undef), (95, undef), (96, undef), (97, undef), (98, undef), (99, undef), (100, undef), (101, undef), (102, undef), (103, undef), (104, undef), (105, undef), (106, undef), (107, undef)]))))) h) : Fn Tryd.prog 13 #[.string a0] I h Q :=
  Wp.fn (args := [.string a0]) Tryd.func13 rfl (by kernel_rfl) (of_tree (cfg := g_octroiref02_Parse) 1000 (by kernel_rfl) Tryd.func13 rfl Tryd.checked.mixed hh)
theorem ca_octroiref02_Parse : callable Tryd.prog 13 := ⟨_, Tryd.func13, by kernel_rfl, by kernel_rfl⟩
set_option maxRecDepth 100000 in
set_option maxHeartbeats 4000000 in
theorem r_octroiref02_Parse_1 (a0 : ByteArray) (y2 : Nat) (A4 : Option Addr) (n4 : Nat) (c4 : Nat) (x5 : Int) (x6 : Int) (u : Nat → Value) {I : Ctx} {h : Mem} {Q : Value → Mem → Prop}
  (hh : holds Tryd.prog 13 I Q
   (.ite (decide ((x6 : Int) < ((a0.size : Nat) : Int)))
    (.rd (Instr.index 9 (.string a0) (.int .i64 x6)) (.one (.sc (.int .u8))) fun l3 =>
     (.ite (decide (((l3 0).i : Int) ≥ 48))
      (.rd (Instr.index 9 (.string a0) (.int .i64 x6)) (.one (.sc (.int .u8))) fun l4 =>
       (.ite (decide (((l4 0).i : Int) ≤ 57))
        (.rd (Instr.index 9 (.string a0) (.int .i64 x6)) (.one (.sc (.int .u8))) fun l5 =>
         (.stop k_octroiref02_Parse_1 (t_octroiref02_Parse_1 a0 y2 A4 n4 c4 (IntKind.wrap .i64 ((IntKind.wrap .i64 (10 * x5)) + (IntKind.wrap .i64 (IntKind.wrap .u8 (((l5 0).i) - 48))))) (IntKind.wrap .i64 (x6 + 1)) (jl [(3, (u 3)), (7, (u 7)), (8, (u 8)), (9, (u 9)), (10, (u 10)), (11, (u 11)), (12, (u 12)), (13, .int .i64 x6), (14, .string a0), (15, .int .i64 ((a0.size : Nat) : Int)), (16, .bool (decide ((x6 : Int) < ((a0.size : Nat) : Int)))), (17, .int .i64 x6), (18, .int .i64 (IntKind.wrap .i64 (x6 + 1))), (19, .string a0), (20, .int .i64 x6), (21, .int .u8 ((l3 0).i)), (22, .bool (decide (((l3 0).i : Int) ≥ 48))), (23, .bool true), (24, .string a0), (25, .int .i64 x6), (26, .int .u8 ((l4 0).i)), (27, .bool (decide (((l4 0).i : Int) ≤ 57))), (28, .bool (decide (((l4 0).i : Int) ≤ 57))), (29, .int .i64 x5), (30, .int .i64 (IntKind.wrap .i64 (10 * x5))), (31, .string a0), (32, .int .i64 x6), (33, .int .u8 ((l5 0).i)), (34, .int .u8 (IntKind.wrap .u8 (((l5 0).i) - 48))), (35, .int .i64 (IntKind.wrap .i64 (IntKind.wrap .u8 (((l5 0).i) - 48)))), (36, .int .i64 (IntKind.wrap .i64 ((IntKind.wrap .i64 (10 * x5)) + (IntKind.wrap .i64 (IntKind.wrap .u8 (((l5 0).i) - 48)))))), (37, (u 37)), (38, (u 38)), (39, (u 39)), (40, (u 40)), (41, (u 41)), (42, (u 42)), (43, (u 43)), (44, (u 44)), (45, (u 45)), (46, (u 46)), (47, (u 47)), (48, (u 48)), (49, (u 49)), (50, (u 50)), (51, (u 51)), (52, (u 52)), (53, (u 53)), (54, (u 54)), (55, (u 55)), (56, (u 56)), (57, (u 57)), (58, (u 58)), (59, (u 59)), (60, (u 60)), (61, (u 61)), (62, (u 62)), (63, (u 63)), (64, (u 64)), (65, (u 65)), (66, (u 66)), (67, (u 67)), (68, (u 68)), (69, (u 69)), (70, (u 70)), (71, (u 71)), (72, (u 72)), (73, (u 73)), (74, (u 74)), (75, (u 75)), (76, (u 76)), (77, (u 77)), (78, (u 78)), (79, (u 79)), (80, (u 80)), (81, (u 81)), (82, (u 82)), (83, (u 83)), (84, (u 84)), (85, (u 85)), (86, (u 86)), (87, (u 87)), (88, (u 88)), (89, (u 89)), (90, (u 90)), (91, (u 91)), (92, (u 92)), (93, (u 93)), (94, (u 94)), (95, (u 95)), (96, (u 96)), (97, (u 97)), (98, (u 98)), (99, (u 99)), (100, (u 100)), (101, (u 101)), (102, (u 102)), (103, (u 103)), (104, (u 104)), (105, (u 105)), (106, (u 106)), (107, (u 107))]))))
        (.sem (Instr.buildSlice 46 1 #[(0, .int .i64 x5)]) (.one (.sc (.row 1))) fun l6 =>
         (.nx (builtin .append #[46, 46] 46 #[false, false] #[.slice A4 n4 c4, .slice (some ⟨(l6 0).n, 0, none⟩) 1 1]) (.one (.sc (.sl))) fun l7 =>
          (.stop k_octroiref02_Parse_1 (t_octroiref02_Parse_1 a0 y2 ((l7 0).A) ((l7 0).n) ((l7 0).c) 0 (IntKind.wrap .i64 (x6 + 1)) (jl [(3, (u 3)), (7, (u 7)), (8, (u 8)), (9, (u 9)), (10, (u 10)), (11, (u 11)), (12, (u 12)), (13, .int .i64 x6), (14, .string a0), (15, .int .i64 ((a0.size : Nat) : Int)), (16, .bool (decide ((x6 : Int) < ((a0.size : Nat) : Int)))), (17, .int .i64 x6), (18, .int .i64 (IntKind.wrap .i64 (x6 + 1))), (19, .string a0), (20, .int .i64 x6), (21, .int .u8 ((l3 0).i)), (22, .bool (decide (((l3 0).i : Int) ≥ 48))), (23, .bool true), (24, .string a0), (25, .int .i64 x6), (26, .int .u8 ((l4 0).i)), (27, .bool (decide (((l4 0).i : Int) ≤ 57))), (28, .bool (decide (((l4 0).i : Int) ≤ 57))), (29, (u 29)), (30, (u 30)), (31, (u 31)), (32, (u 32)), (33, (u 33)), (34, (u 34)), (35, (u 35)), (36, (u 36)), (37, .slice A4 n4 c4), (38, .int .i64 x5), (39, .slice (some ⟨(l6 0).n, 0, none⟩) 1 1), (40, .slice ((l7 0).A) ((l7 0).n) ((l7 0).c)), (41, (u 41)), (42, (u 42)), (43, (u 43)), (44, (u 44)), (45, (u 45)), (46, (u 46)), (47, (u 47)), (48, (u 48)), (49, (u 49)), (50, (u 50)), (51, (u 51)), (52, (u 52)), (53, (u 53)), (54, (u 54)), (55, (u 55)), (56, (u 56)), (57, (u 57)), (58, (u 58)), (59, (u 59)), (60, (u 60)), (61, (u 61)), (62, (u 62)), (63, (u 63)), (64, (u 64)), (65, (u 65)), (66, (u 66)), (67, (u 67)), (68, (u 68)), (69, (u 69)), (70, (u 70)), (71, (u 71)), (72, (u 72)), (73, (u 73)), (74, (u 74)), (75, (u 75)), (76, (u 76)), (77, (u 77)), (78, (u 78)), (79, (u 79)), (80, (u 80)), (81, (u 81)), (82, (u 82)), (83, (u 83)), (84, (u 84)), (85, (u 85)), (86, (u 86)), (87, (u 87)), (88, (u 88)), (89, (u 89)), (90, (u 90)), (91, (u 91)), (92, (u 92)), (93, (u 93)), (94, (u 94)), (95, (u 95)), (96, (u 96)), (97, (u 97)), (98, (u 98)), (99, (u 99)), (100, (u 100)), (101, (u 101)), (102, (u 102)), (103, (u 103)), (104, (u 104)), (105, (u 105)), (106, (u 106)), (107, (u 107))])))))))
      (.sem (Instr.buildSlice 46 1 #[(0, .int .i64 x5)]) (.one (.sc (.row 1))) fun l8 =>
       (.nx (builtin .append #[46, 46] 46 #[false, false] #[.slice A4 n4 c4, .slice (some ⟨(l8 0).n, 0, none⟩) 1 1]) (.one (.sc (.sl))) fun l9 =>
        (.stop k_octroiref02_Parse_1 (t_octroiref02_Parse_1 a0 y2 ((l9 0).A) ((l9 0).n) ((l9 0).c) 0 (IntKind.wrap .i64 (x6 + 1)) (jl [(3, (u 3)), (7, (u 7)), (8, (u 8)), (9, (u 9)), (10, (u 10)), (11, (u 11)), (12, (u 12)), (13, .int .i64 x6), (14, .string a0), (15, .int .i64 ((a0.size : Nat) : Int)), (16, .bool (decide ((x6 : Int) < ((a0.size : Nat) : Int)))), (17, .int .i64 x6), (18, .int .i64 (IntKind.wrap .i64 (x6 + 1))), (19, .string a0), (20, .int .i64 x6), (21, .int .u8 ((l3 0).i)), (22, .bool (decide (((l3 0).i : Int) ≥ 48))), (23, .bool false), (24, undef), (25, undef), (26, undef), (27, undef), (28, .bool false), (29, (u 29)), (30, (u 30)), (31, (u 31)), (32, (u 32)), (33, (u 33)), (34, (u 34)), (35, (u 35)), (36, (u 36)), (37, .slice A4 n4 c4), (38, .int .i64 x5), (39, .slice (some ⟨(l8 0).n, 0, none⟩) 1 1), (40, .slice ((l9 0).A) ((l9 0).n) ((l9 0).c)), (41, (u 41)), (42, (u 42)), (43, (u 43)), (44, (u 44)), (45, (u 45)), (46, (u 46)), (47, (u 47)), (48, (u 48)), (49, (u 49)), (50, (u 50)), (51, (u 51)), (52, (u 52)), (53, (u 53)), (54, (u 54)), (55, (u 55)), (56, (u 56)), (57, (u 57)), (58, (u 58)), (59, (u 59)), (60, (u 60)), (61, (u 61)), (62, (u 62)), (63, (u 63)), (64, (u 64)), (65, (u 65)), (66, (u 66)), (67, (u 67)), (68, (u 68)), (69, (u 69)), (70, (u 70)), (71, (u 71)), (72, (u 72)), (73, (u 73)), (74, (u 74)), (75, (u 75)), (76, (u 76)), (77, (u 77)), (78, (u 78)), (79, (u 79)), (80, (u 80)), (81, (u 81)), (82, (u 82)), (83, (u 83)), (84, (u 84)), (85, (u 85)), (86, (u 86)), (87, (u 87)), (88, (u 88)), (89, (u 89)), (90, (u 90)), (91, (u 91)), (92, (u 92)), (93, (u 93)), (94, (u 94)), (95, (u 95)), (96, (u 96)), (97, (u 97)), (98, (u 98)), (99, (u 99)), (100, (u 100)), (101, (u 101)), (102, (u 102)), (103, (u 103)), (104, (u 104)), (105, (u 105)), (106, (u 106)), (107, (u 107))])))))))
    (.sem (Instr.buildSlice 46 1 #[(0, .int .i64 x5)]) (.one (.sc (.row 1))) fun l10 =>
     (.nx (builtin .append #[46, 46] 46 #[false, false] #[.slice A4 n4 c4, .slice (some ⟨(l10 0).n, 0, none⟩) 1 1]) (.one (.sc (.sl))) fun l11 =>
      (.ite (((((l11 0).n : Nat) : Int) : Int) != 5)
       (.unit (Instr.storeAt 24 (.pointer (some ⟨y2, 0, none⟩)) (.agg #[.int .u32 0, .int .i64 0]))
        (.rd (loadVar 24 ⟨y2, 0, none⟩) (.one (.agg [.int .u32, .int .i64])) fun l12 =>
         (.done (.tuple #[.agg #[.int .u32 ((l12 0).i), .int .i64 ((l12 1).i)], .int .i64 2]))))
       (.rd (Instr.indexAt 46 (.slice ((l11 0).A) ((l11 0).n) ((l11 0).c)) (.int .i64 0)) (.one (.sc (.padr))) fun l13 =>
        (.rd (Instr.loadAt 3 (.pointer (some ((l13 0).a)))) (.one (.sc (.int .i64))) fun l14 =>
         (.ite (decide (((l14 0).i : Int) > 255))
          (.unit (Instr.storeAt 24 (.pointer (some ⟨y2, 0, none⟩)) (.agg #[.int .u32 0, .int .i64 0]))
           (.rd (loadVar 24 ⟨y2, 0, none⟩) (.one (.agg [.int .u32, .int .i64])) fun l15 =>
            (.done (.tuple #[.agg #[.int .u32 ((l15 0).i), .int .i64 ((l15 1).i)], .int .i64 2]))))
          (.rd (Instr.indexAt 46 (.slice ((l11 0).A) ((l11 0).n) ((l11 0).c)) (.int .i64 1)) (.one (.sc (.padr))) fun l16 =>
           (.rd (Instr.loadAt 3 (.pointer (some ((l16 0).a)))) (.one (.sc (.int .i64))) fun l17 =>
            (.ite (decide (((l17 0).i : Int) > 255))
             (.unit (Instr.storeAt 24 (.pointer (some ⟨y2, 0, none⟩)) (.agg #[.int .u32 0, .int .i64 0]))
              (.rd (loadVar 24 ⟨y2, 0, none⟩) (.one (.agg [.int .u32, .int .i64])) fun l18 =>
               (.done (.tuple #[.agg #[.int .u32 ((l18 0).i), .int .i64 ((l18 1).i)], .int .i64 2]))))
             (.rd (Instr.indexAt 46 (.slice ((l11 0).A) ((l11 0).n) ((l11 0).c)) (.int .i64 2)) (.one (.sc (.padr))) fun l19 =>
              (.rd (Instr.loadAt 3 (.pointer (some ((l19 0).a)))) (.one (.sc (.int .i64))) fun l20 =>
               (.ite (decide (((l20 0).i : Int) > 255))
                (.unit (Instr.storeAt 24 (.pointer (some ⟨y2, 0, none⟩)) (.agg #[.int .u32 0, .int .i64 0]))
                 (.rd (loadVar 24 ⟨y2, 0, none⟩) (.one (.agg [.int .u32, .int .i64])) fun l21 =>
                  (.done (.tuple #[.agg #[.int .u32 ((l21 0).i), .int .i64 ((l21 1).i)], .int .i64 2]))))
                (.rd (Instr.indexAt 46 (.slice ((l11 0).A) ((l11 0).n) ((l11 0).c)) (.int .i64 3)) (.one (.sc (.padr))) fun l22 =>
                 (.rd (Instr.loadAt 3 (.pointer (some ((l22 0).a)))) (.one (.sc (.int .i64))) fun l23 =>
                  (.ite (decide (((l23 0).i : Int) > 255))
                   (.unit (Instr.storeAt 24 (.pointer (some ⟨y2, 0, none⟩)) (.agg #[.int .u32 0, .int .i64 0]))
                    (.rd (loadVar 24 ⟨y2, 0, none⟩) (.one (.agg [.int .u32, .int .i64])) fun l24 =>
                     (.done (.tuple #[.agg #[.int .u32 ((l24 0).i), .int .i64 ((l24 1).i)], .int .i64 2]))))
                   (.rd (Instr.indexAt 46 (.slice ((l11 0).A) ((l11 0).n) ((l11 0).c)) (.int .i64 0)) (.one (.sc (.padr))) fun l25 =>
                    (.rd (Instr.loadAt 3 (.pointer (some ((l25 0).a)))) (.one (.sc (.int .i64))) fun l26 =>
                     (.rd (Instr.indexAt 46 (.slice ((l11 0).A) ((l11 0).n) ((l11 0).c)) (.int .i64 1)) (.one (.sc (.padr))) fun l27 =>
                      (.rd (Instr.loadAt 3 (.pointer (some ((l27 0).a)))) (.one (.sc (.int .i64))) fun l28 =>
                       (.rd (Instr.indexAt 46 (.slice ((l11 0).A) ((l11 0).n) ((l11 0).c)) (.int .i64 2)) (.one (.sc (.padr))) fun l29 =>
                        (.rd (Instr.loadAt 3 (.pointer (some ((l29 0).a)))) (.one (.sc (.int .i64))) fun l30 =>
                         (.rd (Instr.indexAt 46 (.slice ((l11 0).A) ((l11 0).n) ((l11 0).c)) (.int .i64 3)) (.one (.sc (.padr))) fun l31 =>
                          (.rd (Instr.loadAt 3 (.pointer (some ((l31 0).a)))) (.one (.sc (.int .i64))) fun l32 =>
                           (.rd (Instr.indexAt 46 (.slice ((l11 0).A) ((l11 0).n) ((l11 0).c)) (.int .i64 4)) (.one (.sc (.padr))) fun l33 =>
                            (.rd (Instr.loadAt 3 (.pointer (some ((l33 0).a)))) (.one (.sc (.int .i64))) fun l34 =>
                             (.sem (Instr.alloc 24 true (.tuple #[])) shBlk fun l35 =>
                              (.unit (Instr.storeAt 24 (.pointer (some ⟨(l35 0).n, 0, none⟩)) (.agg #[.int .u32 (IntKind.wrap .u32 (IntKind.wrap .i64 ((IntKind.wrap .i64 ((IntKind.wrap .i64 ((IntKind.wrap .i64 (((l26 0).i) * 16777216)) + (IntKind.wrap .i64 (((l28 0).i) * 65536)))) + (IntKind.wrap .i64 (((l30 0).i) * 256)))) + ((l32 0).i)))), .int .i64 ((l34 0).i)]))
                               (.rd (Instr.loadAt 24 (.pointer (some ⟨(l35 0).n, 0, none⟩))) (.one (.agg [.int .u32, .int .i64])) fun l36 =>
                                (.call 29 [.agg #[.int .u32 ((l36 0).i), .int .i64 ((l36 1).i)]] (.one (.sc (.bool))) fun l37 => -- octroiref02_May
                                 (.ite (!((l37 0).b))
                                  (.unit (Instr.storeAt 24 (.pointer (some ⟨y2, 0, none⟩)) (.agg #[.int .u32 0, .int .i64 0]))
                                   (.rd (loadVar 24 ⟨y2, 0, none⟩) (.one (.agg [.int .u32, .int .i64])) fun l38 =>
                                    (.done (.tuple #[.agg #[.int .u32 ((l38 0).i), .int .i64 ((l38 1).i)], .int .i64 2]))))
                                  (.rd (Instr.loadAt 24 (.pointer (some ⟨(l35 0).n, 0, none⟩))) (.one (.agg [.int .u32, .int .i64])) fun l39 =>
                                   (.call 15 [.agg #[.int .u32 ((l39 0).i), .int .i64 ((l39 1).i)]] (.one (.sc (.str))) fun l40 => -- octroiref02_Show
                                    (.ite (!(((l40 0).s).toList == a0.toList))
                                     (.unit (Instr.storeAt 24 (.pointer (some ⟨y2, 0, none⟩)) (.agg #[.int .u32 0, .int .i64 0]))
                                      (.rd (loadVar 24 ⟨y2, 0, none⟩) (.one (.agg [.int .u32, .int .i64])) fun l41 =>
                                       (.done (.tuple #[.agg #[.int .u32 ((l41 0).i), .int .i64 ((l41 1).i)], .int .i64 2]))))
                                     (.rd (Instr.loadAt 24 (.pointer (some ⟨(l35 0).n, 0, none⟩))) (.one (.agg [.int .u32, .int .i64])) fun l42 =>
                                      (.unit (Instr.storeAt 24 (.pointer (some ⟨y2, 0, none⟩)) (.agg #[.int .u32 ((l42 0).i), .int .i64 ((l42 1).i)]))
                                       (.rd (loadVar 24 ⟨y2, 0, none⟩) (.one (.agg [.int .u32, .int .i64])) fun l43 =>
                                        (.done (.tuple #[.agg #[.int .u32 ((l43 0).i), .int .i64 ((l43 1).i)], .int .i64 0]))))))))))))))))))))))))))))))))))))))) h) : Wp Tryd.prog 13 k_octroiref02_Parse_1 (t_octroiref02_Parse_1 a0 y2 A4 n4 c4 x5 x6 u) I h Q :=
  of_tree (cfg := g_octroiref02_Parse) 1000 (by kernel_rfl) Tryd.func13 rfl Tryd.checked.mixed hh
/-! ### prefix_Show: function 14 of Go -/
abbrev F_prefix_Show : FuncId := 14
noncomputable def c_prefix_Show : Code := (Tryd.f14.body).getD .skip
def p_prefix_Show : Nat → List (List Nat) := fun r => match r with | 7 => [[], [0], [0, 1], [], [3], [0, 1, 3, 4], [0, 1, 2, 3, 4, 5], [0, 1, 2, 3, 4, 5, 6]] | _ => []
noncomputable def g_prefix_Show : Cfg := { sh := shs, fsh := fshs, results := [.tmp 2], hint := fun r i => match r, i with | 5, 6 => some (true, .one (.sc (.int .u32))) | 7, 2 => some (true, .one (.sc (.str))) | 7, 6 => some (true, .one (.sc (.str))) | _, _ => none, ord := fun r => match r with | 7 => some [0, 3, 4, 1, 2, 5, 6, 7] | _ => none, pre := p_prefix_Show, un := unOf p_prefix_Show }
noncomputable def k_prefix_Show_1 : List Item := [.code (bd (bd (sr (sl (sr (sr c_prefix_Show)))))), .inLoop (bd (bd (sr (sl (sr (sr c_prefix_Show)))))), .inBlock 0, .code (sr (sr (sr c_prefix_Show)))]
noncomputable def t_prefix_Show_1 (y1 : Nat) (A3 : Option Addr) (n3 : Nat) (c3 : Nat) (x5 : Int) (u : Nat → Value) : List Value := [(u 0), .pointer (some ⟨y1, 0, none⟩), (u 2), .slice A3 n3 c3, (u 4), .int .i64 x5, (u 6), (u 7), (u 8), (u 9), (u 10), (u 11), (u 12), (u 13), (u 14), (u 15), (u 16), (u 17), (u 18), (u 19), (u 20), (u 21), (u 22), (u 23), (u 24), (u 25), (u 26), (u 27)]
set_option maxRecDepth 100000 in
set_option maxHeartbeats 4000000 in
theorem r_prefix_Show (a0_0 : Int) (a0_1 : Int) {I : Ctx} {h : Mem} {Q : Value → Mem → Prop}
  (hh : holds Tryd.prog 14 I (cl_ Q)
   (.sem (Instr.box 24 (.agg #[.int .u32 a0_0, .int .i64 a0_1])) shBlk fun l1 =>
    (.stop k_prefix_Show_1 (t_prefix_Show_1 ((l1 0).n) none 0 0 0 (jl [(0, .agg #[.int .u32 a0_0, .int .i64 a0_1]), (2, .string (ByteArray.mk #[])), (4, undef), (6, undef), (7, undef), (8, undef), (9, undef), (10, undef), (11, undef), (12, undef), (13, undef), (14, undef), (15, undef), (16, undef), (17, undef), (18, undef), (19, undef), (20, undef), (21, undef), (22, undef), (23, undef), (24, undef), (25, undef), (26, undef), (27, undef)])))) h) : Fn Tryd.prog 14 #[.agg #[.int .u32 a0_0, .int .i64 a0_1]] I h Q :=
  Wp.fn (args := [.agg #[.int .u32 a0_0, .int .i64 a0_1]]) Tryd.func14 rfl (by kernel_rfl) (of_tree (cfg := g_prefix_Show) 1000 (by kernel_rfl) Tryd.func14 rfl Tryd.checked.mixed hh)
theorem ca_prefix_Show : callable Tryd.prog 14 := ⟨_, Tryd.func14, by kernel_rfl, by kernel_rfl⟩
set_option maxRecDepth 100000 in
set_option maxHeartbeats 4000000 in
theorem r_prefix_Show_1 (y1 : Nat) (A3 : Option Addr) (n3 : Nat) (c3 : Nat) (x5 : Int) (u : Nat → Value) {I : Ctx} {h : Mem} {Q : Value → Mem → Prop}
  (hh : holds Tryd.prog 14 I Q
   (.ite (decide ((x5 : Int) < 4))
    (.rd (Instr.loadAt 22 (.pointer (some ⟨y1, 0, none⟩))) (.one (.sc (.int .u32))) fun l2 =>
     (.rdn (binN .shr 22 (.int .u32 ((l2 0).i)) (.int .i64 (IntKind.wrap .i64 (8 * (IntKind.wrap .i64 (3 - x5)))))) (.one (.sc (.int .u32))) fun l3 =>
      (.call 32 [.int .i64 (IntKind.wrap .i64 (bitop .and .u32 ((l3 0).i) 255))] (.one (.sc (.str))) fun l4 => -- strconv_Itoa
       (.sem (Instr.buildSlice 47 1 #[(0, .string ((l4 0).s))]) (.one (.sc (.row 1))) fun l5 =>
        (.nx (builtin .append #[47, 47] 47 #[false, false] #[.slice A3 n3 c3, .slice (some ⟨(l5 0).n, 0, none⟩) 1 1]) (.one (.sc (.sl))) fun l6 =>
         (.stop k_prefix_Show_1 (t_prefix_Show_1 y1 ((l6 0).A) ((l6 0).n) ((l6 0).c) (IntKind.wrap .i64 (x5 + 1)) (jl [(0, (u 0)), (2, (u 2)), (4, .int .i64 x5), (6, .bool (decide ((x5 : Int) < 4))), (7, .int .i64 x5), (8, .slice A3 n3 c3), (9, .pointer (some ⟨y1, 0, none⟩)), (10, .int .u32 ((l2 0).i)), (11, .int .i64 x5), (12, .int .i64 (IntKind.wrap .i64 (3 - x5))), (13, .int .i64 (IntKind.wrap .i64 (8 * (IntKind.wrap .i64 (3 - x5))))), (14, .int .u32 ((l3 0).i)), (15, .int .u32 (bitop .and .u32 ((l3 0).i) 255)), (16, .int .i64 (IntKind.wrap .i64 (bitop .and .u32 ((l3 0).i) 255))), (17, .string ((l4 0).s)), (18, .slice (some ⟨(l5 0).n, 0, none⟩) 1 1), (19, .slice ((l6 0).A) ((l6 0).n) ((l6 0).c)), (20, .int .i64 (IntKind.wrap .i64 (x5 + 1))), (21, (u 21)), (22, (u 22)), (23, (u 23)), (24, (u 24)), (25, (u 25)), (26, (u 26)), (27, (u 27))]))))))))
    (.rd (Instr.loadAt 3 (.pointer (some ⟨y1, 1, none⟩))) (.one (.sc (.int .i64))) fun l7 =>
     (.call 33 [.slice A3 n3 c3, .string (ByteArray.mk #[46])] (.one (.sc (.str))) fun l8 => -- strings_Join
      (.pin (vN (Instr.loadAt 3 (.pointer (some ⟨y1, 1, none⟩)))) (.int .i64 ((l7 0).i))
       (.rdn (binN .add 9 (.string ((l8 0).s)) (.string (ByteArray.mk #[47]))) (.one (.sc (.str))) fun l9 =>
        (.call 32 [.int .i64 ((l7 0).i)] (.one (.sc (.str))) fun l10 => -- strconv_Itoa
         (.pin (binN .add 9 (.string ((l8 0).s)) (.string (ByteArray.mk #[47]))) (.string ((l9 0).s))
          (.rdn (binN .add 9 (.string ((l9 0).s)) (.string ((l10 0).s))) (.one (.sc (.str))) fun l11 =>
           (.done (.string ((l11 0).s))))))))))) h) : Wp Tryd.prog 14 k_prefix_Show_1 (t_prefix_Show_1 y1 A3 n3 c3 x5 u) I h Q :=
  of_tree (cfg := g_prefix_Show) 1000 (by kernel_rfl) Tryd.func14 rfl Tryd.checked.mixed hh
/-! ### octroiref02_Show: function 15 of Go -/
abbrev F_octroiref02_Show : FuncId := 15
noncomputable def c_octroiref02_Show : Code := (Tryd.f15.body).getD .skip
noncomputable def g_octroiref02_Show : Cfg := { sh := shs, fsh := fshs, results := [.tmp 2], hint := fun r i => match r, i with | 5, 5 => some (true, .one (.sc (.int .u32))) | 5, 9 => some (true, .one (.sc (.str))) | 7, 1 => some (true, .one (.sc (.str))) | 8, 1 => some (true, .one (.sc (.str))) | 8, 5 => some (true, .one (.sc (.str))) | _, _ => none, ord := fun _ => none, pre := fun _ => [], un := fun _ _ _ => false }
noncomputable def k_octroiref02_Show_1 : List Item := [.code (bd (bd (sr (sl (sr (sr c_octroiref02_Show)))))), .inLoop (bd (bd (sr (sl (sr (sr c_octroiref02_Show)))))), .inBlock 0, .code (sr (sr (sr c_octroiref02_Show)))]
noncomputable def t_octroiref02_Show_1 (y1 : Nat) (x3 : ByteArray) (x4 : Int) (u : Nat → Value) : List Value := [(u 0), .pointer (some ⟨y1, 0, none⟩), (u 2), .string x3, .int .i64 x4, (u 5), (u 6), (u 7), (u 8), (u 9), (u 10), (u 11), (u 12), (u 13), (u 14), (u 15), (u 16), (u 17), (u 18), (u 19), (u 20), (u 21), (u 22), (u 23), (u 24), (u 25), (u 26), (u 27), (u 28)]
set_option maxRecDepth 100000 in
set_option maxHeartbeats 4000000 in
theorem r_octroiref02_Show (a0_0 : Int) (a0_1 : Int) {I : Ctx} {h : Mem} {Q : Value → Mem → Prop}
  (hh : holds Tryd.prog 15 I (cl_ Q)
   (.sem (Instr.box 24 (.agg #[.int .u32 a0_0, .int .i64 a0_1])) shBlk fun l1 =>
    (.stop k_octroiref02_Show_1 (t_octroiref02_Show_1 ((l1 0).n) (ByteArray.mk #[]) 24 (jl [(0, .agg #[.int .u32 a0_0, .int .i64 a0_1]), (2, .string (ByteArray.mk #[])), (5, undef), (6, undef), (7, undef), (8, undef), (9, undef), (10, undef), (11, undef), (12, undef), (13, undef), (14, undef), (15, undef), (16, undef), (17, undef), (18, undef), (19, undef), (20, undef), (21, undef), (22, undef), (23, undef), (24, undef), (25, undef), (26, undef), (27, undef), (28, undef)])))) h) : Fn Tryd.prog 15 #[.agg #[.int .u32 a0_0, .int .i64 a0_1]] I h Q :=
  Wp.fn (args := [.agg #[.int .u32 a0_0, .int .i64 a0_1]]) Tryd.func15 rfl (by kernel_rfl) (of_tree (cfg := g_octroiref02_Show) 1000 (by kernel_rfl) Tryd.func15 rfl Tryd.checked.mixed hh)
theorem ca_octroiref02_Show : callable Tryd.prog 15 := ⟨_, Tryd.func15, by kernel_rfl, by kernel_rfl⟩
set_option maxRecDepth 100000 in
set_option maxHeartbeats 4000000 in
theorem r_octroiref02_Show_1 (y1 : Nat) (x3 : ByteArray) (x4 : Int) (u : Nat → Value) {I : Ctx} {h : Mem} {Q : Value → Mem → Prop}
  (hh : holds Tryd.prog 15 I Q
   (.ite (decide ((x4 : Int) ≥ 0))
    (.rd (Instr.loadAt 22 (.pointer (some ⟨y1, 0, none⟩))) (.one (.sc (.int .u32))) fun l2 =>
     (.rdn (binN .shr 22 (.int .u32 ((l2 0).i)) (.int .u64 (IntKind.wrap .u64 x4))) (.one (.sc (.int .u32))) fun l3 =>
      (.call 34 [.int .i64 (IntKind.wrap .i64 (Int.tmod ((l3 0).i) 256))] (.one (.sc (.str))) fun l4 => -- octroiref02_digits
       (.rdn (binN .add 9 (.string x3) (.string ((l4 0).s))) (.one (.sc (.str))) fun l5 =>
        (.ite (decide ((x4 : Int) > 0))
         (.rdn (binN .add 9 (.string ((l5 0).s)) (.string (ByteArray.mk #[46]))) (.one (.sc (.str))) fun l6 =>
          (.stop k_octroiref02_Show_1 (t_octroiref02_Show_1 y1 ((l6 0).s) (IntKind.wrap .i64 (x4 - 8)) (jl [(0, (u 0)), (2, (u 2)), (5, .int .i64 x4), (6, .bool (decide ((x4 : Int) ≥ 0))), (7, .int .i64 x4), (8, .int .i64 (IntKind.wrap .i64 (x4 - 8))), (9, .string x3), (10, .pointer (some ⟨y1, 0, none⟩)), (11, .int .u32 ((l2 0).i)), (12, .int .i64 x4), (13, .int .u64 (IntKind.wrap .u64 x4)), (14, .int .u32 ((l3 0).i)), (15, .int .u32 (Int.tmod ((l3 0).i) 256)), (16, .int .i64 (IntKind.wrap .i64 (Int.tmod ((l3 0).i) 256))), (17, .string ((l4 0).s)), (18, .string ((l5 0).s)), (19, .int .i64 x4), (20, .bool (decide ((x4 : Int) > 0))), (21, .string ((l5 0).s)), (22, .string ((l6 0).s)), (23, (u 23)), (24, (u 24)), (25, (u 25)), (26, (u 26)), (27, (u 27)), (28, (u 28))]))))
         (.stop k_octroiref02_Show_1 (t_octroiref02_Show_1 y1 ((l5 0).s) (IntKind.wrap .i64 (x4 - 8)) (jl [(0, (u 0)), (2, (u 2)), (5, .int .i64 x4), (6, .bool (decide ((x4 : Int) ≥ 0))), (7, .int .i64 x4), (8, .int .i64 (IntKind.wrap .i64 (x4 - 8))), (9, .string x3), (10, .pointer (some ⟨y1, 0, none⟩)), (11, .int .u32 ((l2 0).i)), (12, .int .i64 x4), (13, .int .u64 (IntKind.wrap .u64 x4)), (14, .int .u32 ((l3 0).i)), (15, .int .u32 (Int.tmod ((l3 0).i) 256)), (16, .int .i64 (IntKind.wrap .i64 (Int.tmod ((l3 0).i) 256))), (17, .string ((l4 0).s)), (18, .string ((l5 0).s)), (19, .int .i64 x4), (20, .bool (decide ((x4 : Int) > 0))), (21, (u 21)), (22, (u 22)), (23, (u 23)), (24, (u 24)), (25, (u 25)), (26, (u 26)), (27, (u 27)), (28, (u 28))]))))))))
    (.rdn (binN .add 9 (.string x3) (.string (ByteArray.mk #[47]))) (.one (.sc (.str))) fun l7 =>
     (.rd (Instr.loadAt 3 (.pointer (some ⟨y1, 1, none⟩))) (.one (.sc (.int .i64))) fun l8 =>
      (.call 34 [.int .i64 ((l8 0).i)] (.one (.sc (.str))) fun l9 => -- octroiref02_digits
       (.rdn (binN .add 9 (.string ((l7 0).s)) (.string ((l9 0).s))) (.one (.sc (.str))) fun l10 =>
        (.done (.string ((l10 0).s)))))))) h) : Wp Tryd.prog 15 k_octroiref02_Show_1 (t_octroiref02_Show_1 y1 x3 x4 u) I h Q :=
  of_tree (cfg := g_octroiref02_Show) 1000 (by kernel_rfl) Tryd.func15 rfl Tryd.checked.mixed hh
/-! ### prefix_May: function 16 of Go -/
abbrev F_prefix_May : FuncId := 16
noncomputable def c_prefix_May : Code := (Tryd.f16.body).getD .skip
def p_prefix_May : Nat → List (List Nat) := fun r => match r with | 1 => [[], [0], [0, 1], [0, 1, 2], [0, 1, 2, 3], [0, 1, 2, 3, 4], [0, 1, 2, 3, 4, 5], [0, 1, 2, 3, 4, 5, 6], [0, 1, 2, 3, 4, 5, 6, 7], [0, 1, 2, 3, 4, 5, 6, 7, 8], [0, 1, 2, 3, 4, 5, 6, 7, 8, 9], [0, 1, 2, 3, 4, 5, 6, 7, 8], [0, 1, 2, 3, 4, 5, 6, 7, 8, 11], [0, 1, 2, 3, 4, 5, 6, 7, 8, 11, 12], [0, 1, 2, 3, 4, 5, 6, 7, 8, 9, 10, 11, 12, 13], [0, 1, 2, 3, 4, 5, 6, 7, 8, 9, 10, 11, 12, 13, 14], [0, 1, 2, 3, 4, 5, 6, 7, 8, 9, 10, 11, 12, 13, 14, 15], [0, 1, 2, 3, 4, 5, 6, 7, 8, 9, 10, 11, 12, 13, 14, 15, 16]] | _ => []
noncomputable def g_prefix_May : Cfg := { sh := shs, fsh := fshs, results := [.tmp 2], hint := fun _ _ => none, ord := fun r => match r with | 1 => some [0, 1, 2, 3, 4, 5, 6, 7, 8, 9, 10, 11, 12, 13, 14, 15, 16, 17] | _ => none, pre := p_prefix_May, un := unOf p_prefix_May }
set_option maxRecDepth 100000 in
set_option maxHeartbeats 4000000 in
theorem r_prefix_May (a0_0 : Int) (a0_1 : Int) {I : Ctx} {h : Mem} {Q : Value → Mem → Prop}
  (hh : holds Tryd.prog 16 I (cl_ Q)
   (.sem (Instr.box 24 (.agg #[.int .u32 a0_0, .int .i64 a0_1])) shBlk fun l1 =>
    (.rd (Instr.loadAt 3 (.pointer (some ⟨(l1 0).n, 1, none⟩))) (.one (.sc (.int .i64))) fun l2 =>
     (.ite (decide (((l2 0).i : Int) ≥ 0))
      (.rd (Instr.loadAt 3 (.pointer (some ⟨(l1 0).n, 1, none⟩))) (.one (.sc (.int .i64))) fun l3 =>
       (.ite (decide (((l3 0).i : Int) ≤ 32))
        (.rd (Instr.loadAt 22 (.pointer (some ⟨(l1 0).n, 0, none⟩))) (.one (.sc (.int .u32))) fun l4 =>
         (.rd (Instr.loadAt 3 (.pointer (some ⟨(l1 0).n, 1, none⟩))) (.one (.sc (.int .i64))) fun l5 =>
          (.call 27 [.int .i64 ((l5 0).i)] (.one (.sc (.int .u32))) fun l6 => -- prefix_Mask
           (.pin (vN (Instr.loadAt 22 (.pointer (some ⟨(l1 0).n, 0, none⟩)))) (.int .u32 ((l4 0).i))
            (.done (.bool ((bitop .andNot .u32 ((l4 0).i) ((l6 0).i) : Int) == 0)))))))
        (.done (.bool false))))
      (.done (.bool false))))) h) : Fn Tryd.prog 16 #[.agg #[.int .u32 a0_0, .int .i64 a0_1]] I h Q :=
  Wp.fn (args := [.agg #[.int .u32 a0_0, .int .i64 a0_1]]) Tryd.func16 rfl (by kernel_rfl) (of_tree (cfg := g_prefix_May) 1000 (by kernel_rfl) Tryd.func16 rfl Tryd.checked.mixed hh)
theorem ca_prefix_May : callable Tryd.prog 16 := ⟨_, Tryd.func16, by kernel_rfl, by kernel_rfl⟩
/-! ### prefix_Covers: function 17 of Go -/
abbrev F_prefix_Covers : FuncId := 17
noncomputable def c_prefix_Covers : Code := (Tryd.f17.body).getD .skip
noncomputable def g_prefix_Covers : Cfg := { sh := shs, fsh := fshs, results := [.tmp 4], hint := fun _ _ => none, ord := fun _ => none, pre := fun _ => [], un := fun _ _ _ => false }
set_option maxRecDepth 100000 in
set_option maxHeartbeats 4000000 in
theorem r_prefix_Covers (a0_0 : Int) (a0_1 : Int) (a1_0 : Int) (a1_1 : Int) {I : Ctx} {h : Mem} {Q : Value → Mem → Prop}
  (hh : holds Tryd.prog 17 I (cl_ Q)
   (.sem (Instr.box 24 (.agg #[.int .u32 a0_0, .int .i64 a0_1])) shBlk fun l1 =>
    (.sem (Instr.box 24 (.agg #[.int .u32 a1_0, .int .i64 a1_1])) shBlk fun l2 =>
     (.rd (Instr.loadAt 24 (.pointer (some ⟨(l2 0).n, 0, none⟩))) (.one (.agg [.int .u32, .int .i64])) fun l3 =>
      (.call 16 [.agg #[.int .u32 ((l3 0).i), .int .i64 ((l3 1).i)]] (.one (.sc (.bool))) fun l4 => -- prefix_May
       (.ite ((l4 0).b)
        (.rd (Instr.loadAt 3 (.pointer (some ⟨(l1 0).n, 1, none⟩))) (.one (.sc (.int .i64))) fun l5 =>
         (.rd (Instr.loadAt 3 (.pointer (some ⟨(l2 0).n, 1, none⟩))) (.one (.sc (.int .i64))) fun l6 =>
          (.ite (decide (((l5 0).i : Int) ≤ ((l6 0).i)))
           (.rd (Instr.loadAt 24 (.pointer (some ⟨(l1 0).n, 0, none⟩))) (.one (.agg [.int .u32, .int .i64])) fun l7 =>
            (.rd (Instr.loadAt 22 (.pointer (some ⟨(l2 0).n, 0, none⟩))) (.one (.sc (.int .u32))) fun l8 =>
             (.call 18 [.agg #[.int .u32 ((l7 0).i), .int .i64 ((l7 1).i)], .int .u32 ((l8 0).i)] (.one (.sc (.bool))) fun l9 => -- prefix_Has
              (.done (.bool ((l9 0).b))))))
           (.done (.bool false)))))
        (.done (.bool false))))))) h) : Fn Tryd.prog 17 #[.agg #[.int .u32 a0_0, .int .i64 a0_1], .agg #[.int .u32 a1_0, .int .i64 a1_1]] I h Q :=
  Wp.fn (args := [.agg #[.int .u32 a0_0, .int .i64 a0_1], .agg #[.int .u32 a1_0, .int .i64 a1_1]]) Tryd.func17 rfl (by kernel_rfl) (of_tree (cfg := g_prefix_Covers) 1000 (by kernel_rfl) Tryd.func17 rfl Tryd.checked.mixed hh)
theorem ca_prefix_Covers : callable Tryd.prog 17 := ⟨_, Tryd.func17, by kernel_rfl, by kernel_rfl⟩
/-! ### prefix_Has: function 18 of Go -/
abbrev F_prefix_Has : FuncId := 18
noncomputable def c_prefix_Has : Code := (Tryd.f18.body).getD .skip
def p_prefix_Has : Nat → List (List Nat) := fun r => match r with | 1 => [[], [0], [0, 1], [0, 1, 2], [0, 1, 2], [0, 1, 2, 4], [0, 1, 2, 3, 4, 5], [0, 1, 2], [0, 1, 2, 7], [0, 1, 2, 7, 8], [0, 1, 2, 3, 4, 5, 6, 7, 8, 9], [0, 1, 2, 3, 4, 5, 6, 7, 8, 9, 10], [0, 1, 2, 3, 4, 5, 6, 7, 8, 9, 10, 11], [0, 1, 2, 3, 4, 5, 6, 7, 8, 9, 10, 11, 12]] | _ => []
noncomputable def g_prefix_Has : Cfg := { sh := shs, fsh := fshs, results := [.tmp 4], hint := fun _ _ => none, ord := fun r => match r with | 1 => some [0, 1, 2, 3, 4, 5, 6, 7, 8, 9, 10, 11, 12, 13] | _ => none, pre := p_prefix_Has, un := unOf p_prefix_Has }
set_option maxRecDepth 100000 in
set_option maxHeartbeats 4000000 in
theorem r_prefix_Has (a0_0 : Int) (a0_1 : Int) (a1 : Int) {I : Ctx} {h : Mem} {Q : Value → Mem → Prop}
  (hh : holds Tryd.prog 18 I (cl_ Q)
   (.sem (Instr.box 24 (.agg #[.int .u32 a0_0, .int .i64 a0_1])) shBlk fun l1 =>
    (.rd (Instr.loadAt 24 (.pointer (some ⟨(l1 0).n, 0, none⟩))) (.one (.agg [.int .u32, .int .i64])) fun l2 =>
     (.call 16 [.agg #[.int .u32 ((l2 0).i), .int .i64 ((l2 1).i)]] (.one (.sc (.bool))) fun l3 => -- prefix_May
      (.ite ((l3 0).b)
       (.rd (Instr.loadAt 22 (.pointer (some ⟨(l1 0).n, 0, none⟩))) (.one (.sc (.int .u32))) fun l4 =>
        (.rd (Instr.loadAt 3 (.pointer (some ⟨(l1 0).n, 1, none⟩))) (.one (.sc (.int .i64))) fun l5 =>
         (.call 27 [.int .i64 ((l5 0).i)] (.one (.sc (.int .u32))) fun l6 => -- prefix_Mask
          (.pin (vN (Instr.loadAt 22 (.pointer (some ⟨(l1 0).n, 0, none⟩)))) (.int .u32 ((l4 0).i))
           (.done (.bool ((bitop .and .u32 (bitop .xor .u32 a1 ((l4 0).i)) ((l6 0).i) : Int) == 0)))))))
       (.done (.bool false)))))) h) : Fn Tryd.prog 18 #[.agg #[.int .u32 a0_0, .int .i64 a0_1], .int .u32 a1] I h Q :=
  Wp.fn (args := [.agg #[.int .u32 a0_0, .int .i64 a0_1], .int .u32 a1]) Tryd.func18 rfl (by kernel_rfl) (of_tree (cfg := g_prefix_Has) 1000 (by kernel_rfl) Tryd.func18 rfl Tryd.checked.mixed hh)
theorem ca_prefix_Has : callable Tryd.prog 18 := ⟨_, Tryd.func18, by kernel_rfl, by kernel_rfl⟩
/-! ### prefix_Make: function 19 of Go -/
abbrev F_prefix_Make : FuncId := 19
noncomputable def c_prefix_Make : Code := (Tryd.f19.body).getD .skip
noncomputable def g_prefix_Make : Cfg := { sh := shs, fsh := fshs, results := [.cell 4 24, .tmp 5], hint := fun _ _ => none, ord := fun _ => none, pre := fun _ => [], un := fun _ _ _ => false }
set_option maxRecDepth 100000 in
set_option maxHeartbeats 4000000 in
theorem r_prefix_Make (a0 : Int) (a1 : Int) {I : Ctx} {h : Mem} {Q : Value → Mem → Prop}
  (hh : holds Tryd.prog 19 I (cl_ Q)
   (.sem (Instr.alloc 24 true (.tuple #[])) shBlk fun l1 =>
    (.ite (decide ((a1 : Int) < 0))
     (.unit (Instr.storeAt 24 (.pointer (some ⟨(l1 0).n, 0, none⟩)) (.agg #[.int .u32 0, .int .i64 0]))
      (.rd (loadVar 24 ⟨(l1 0).n, 0, none⟩) (.one (.agg [.int .u32, .int .i64])) fun l2 =>
       (.done (.tuple #[.agg #[.int .u32 ((l2 0).i), .int .i64 ((l2 1).i)], .int .i64 1]))))
     (.ite (decide ((a1 : Int) > 32))
      (.unit (Instr.storeAt 24 (.pointer (some ⟨(l1 0).n, 0, none⟩)) (.agg #[.int .u32 0, .int .i64 0]))
       (.rd (loadVar 24 ⟨(l1 0).n, 0, none⟩) (.one (.agg [.int .u32, .int .i64])) fun l3 =>
        (.done (.tuple #[.agg #[.int .u32 ((l3 0).i), .int .i64 ((l3 1).i)], .int .i64 1]))))
      (.call 27 [.int .i64 a1] (.one (.sc (.int .u32))) fun l4 => -- prefix_Mask
       (.unit (Instr.storeAt 24 (.pointer (some ⟨(l1 0).n, 0, none⟩)) (.agg #[.int .u32 (bitop .and .u32 a0 ((l4 0).i)), .int .i64 a1]))
        (.rd (loadVar 24 ⟨(l1 0).n, 0, none⟩) (.one (.agg [.int .u32, .int .i64])) fun l5 =>
         (.done (.tuple #[.agg #[.int .u32 ((l5 0).i), .int .i64 ((l5 1).i)], .int .i64 0])))))))) h) : Fn Tryd.prog 19 #[.int .u32 a0, .int .i64 a1] I h Q :=
  Wp.fn (args := [.int .u32 a0, .int .i64 a1]) Tryd.func19 rfl (by kernel_rfl) (of_tree (cfg := g_prefix_Make) 1000 (by kernel_rfl) Tryd.func19 rfl Tryd.checked.mixed hh)
theorem ca_prefix_Make : callable Tryd.prog 19 := ⟨_, Tryd.func19, by kernel_rfl, by kernel_rfl⟩
/-! ### octroiref02_Has: function 20 of Go -/
abbrev F_octroiref02_Has : FuncId := 20
noncomputable def c_octroiref02_Has : Code := (Tryd.f20.body).getD .skip
def p_octroiref02_Has : Nat → List (List Nat) := fun r => match r with | 2 => [[], [0], [0, 1], [0, 1], [0, 1, 3], [0, 1, 3, 4], [0, 1, 2, 3, 4, 5], [0, 1], [0, 1, 7], [0, 1, 2, 3, 4, 5, 6, 7, 8], [0, 1, 2, 3, 4, 5, 6, 7, 8, 9], [0, 1, 2, 3, 4, 5, 6, 7, 8, 9, 10]] | _ => []
noncomputable def g_octroiref02_Has : Cfg := { sh := shs, fsh := fshs, results := [.tmp 4], hint := fun _ _ => none, ord := fun r => match r with | 2 => some [0, 1, 2, 3, 4, 7, 8, 5, 6, 9, 10, 11] | _ => none, pre := p_octroiref02_Has, un := unOf p_octroiref02_Has }
set_option maxRecDepth 100000 in
set_option maxHeartbeats 4000000 in
theorem r_octroiref02_Has (a0_0 : Int) (a0_1 : Int) (a1 : Int) {I : Ctx} {h : Mem} {Q : Value → Mem → Prop}
  (hh : holds Tryd.prog 20 I (cl_ Q)
   (.sem (Instr.box 24 (.agg #[.int .u32 a0_0, .int .i64 a0_1])) shBlk fun l1 =>
    (.rd (Instr.loadAt 24 (.pointer (some ⟨(l1 0).n, 0, none⟩))) (.one (.agg [.int .u32, .int .i64])) fun l2 =>
     (.call 29 [.agg #[.int .u32 ((l2 0).i), .int .i64 ((l2 1).i)]] (.one (.sc (.bool))) fun l3 => -- octroiref02_May
      (.ite ((l3 0).b)
       (.rd (Instr.loadAt 3 (.pointer (some ⟨(l1 0).n, 1, none⟩))) (.one (.sc (.int .i64))) fun l4 =>
        (.rd (Instr.loadAt 22 (.pointer (some ⟨(l1 0).n, 0, none⟩))) (.one (.sc (.int .u32))) fun l5 =>
         (.call 28 [.int .i64 ((l4 0).i)] (.one (.sc (.int .u32))) fun l6 => -- octroiref02_Mask
          (.pin (vN (Instr.loadAt 22 (.pointer (some ⟨(l1 0).n, 0, none⟩)))) (.int .u32 ((l5 0).i))
           (.done (.bool ((bitop .and .u32 a1 ((l6 0).i) : Int) == ((l5 0).i))))))))
       (.done (.bool false)))))) h) : Fn Tryd.prog 20 #[.agg #[.int .u32 a0_0, .int .i64 a0_1], .int .u32 a1] I h Q :=
  Wp.fn (args := [.agg #[.int .u32 a0_0, .int .i64 a0_1], .int .u32 a1]) Tryd.func20 rfl (by kernel_rfl) (of_tree (cfg := g_octroiref02_Has) 1000 (by kernel_rfl) Tryd.func20 rfl Tryd.checked.mixed hh)
theorem ca_octroiref02_Has : callable Tryd.prog 20 := ⟨_, Tryd.func20, by kernel_rfl, by kernel_rfl⟩
/-! ### octroiref02_Covers: function 21 of Go -/
abbrev F_octroiref02_Covers : FuncId := 21
noncomputable def c_octroiref02_Covers : Code := (Tryd.f21.body).getD .skip
noncomputable def g_octroiref02_Covers : Cfg := { sh := shs, fsh := fshs, results := [.tmp 4], hint := fun _ _ => none, ord := fun _ => none, pre := fun _ => [], un := fun _ _ _ => false }
set_option maxRecDepth 100000 in
set_option maxHeartbeats 4000000 in
theorem r_octroiref02_Covers (a0_0 : Int) (a0_1 : Int) (a1_0 : Int) (a1_1 : Int) {I : Ctx} {h : Mem} {Q : Value → Mem → Prop}
  (hh : holds Tryd.prog 21 I (cl_ Q)
   (.sem (Instr.box 24 (.agg #[.int .u32 a0_0, .int .i64 a0_1])) shBlk fun l1 =>
    (.sem (Instr.box 24 (.agg #[.int .u32 a1_0, .int .i64 a1_1])) shBlk fun l2 =>
     (.rd (Instr.loadAt 24 (.pointer (some ⟨(l2 0).n, 0, none⟩))) (.one (.agg [.int .u32, .int .i64])) fun l3 =>
      (.call 29 [.agg #[.int .u32 ((l3 0).i), .int .i64 ((l3 1).i)]] (.one (.sc (.bool))) fun l4 => -- octroiref02_May
       (.rd (Instr.loadAt 24 (.pointer (some ⟨(l1 0).n, 0, none⟩))) (.one (.agg [.int .u32, .int .i64])) fun l5 =>
        (.rd (Instr.loadAt 22 (.pointer (some ⟨(l2 0).n, 0, none⟩))) (.one (.sc (.int .u32))) fun l6 =>
         (.call 20 [.agg #[.int .u32 ((l5 0).i), .int .i64 ((l5 1).i)], .int .u32 ((l6 0).i)] (.one (.sc (.bool))) fun l7 => -- octroiref02_Has
          (.ite ((l4 0).b)
           (.ite ((l7 0).b)
            (.rd (Instr.loadAt 3 (.pointer (some ⟨(l2 0).n, 1, none⟩))) (.one (.sc (.int .i64))) fun l8 =>
             (.rd (Instr.loadAt 3 (.pointer (some ⟨(l1 0).n, 1, none⟩))) (.one (.sc (.int .i64))) fun l9 =>
              (.done (.bool (decide (((l8 0).i : Int) ≥ ((l9 0).i)))))))
            (.done (.bool false)))
           (.done (.bool false)))))))))) h) : Fn Tryd.prog 21 #[.agg #[.int .u32 a0_0, .int .i64 a0_1], .agg #[.int .u32 a1_0, .int .i64 a1_1]] I h Q :=
  Wp.fn (args := [.agg #[.int .u32 a0_0, .int .i64 a0_1], .agg #[.int .u32 a1_0, .int .i64 a1_1]]) Tryd.func21 rfl (by kernel_rfl) (of_tree (cfg := g_octroiref02_Covers) 1000 (by kernel_rfl) Tryd.func21 rfl Tryd.checked.mixed hh)
theorem ca_octroiref02_Covers : callable Tryd.prog 21 := ⟨_, Tryd.func21, by kernel_rfl, by kernel_rfl⟩
/-! ### prefix_Less: function 22 of Go -/
abbrev F_prefix_Less : FuncId := 22
noncomputable def c_prefix_Less : Code := (Tryd.f22.body).getD .skip
noncomputable def g_prefix_Less : Cfg := { sh := shs, fsh := fshs, results := [.tmp 4], hint := fun _ _ => none, ord := fun _ => none, pre := fun _ => [], un := fun _ _ _ => false }
set_option maxRecDepth 100000 in
set_option maxHeartbeats 4000000 in
theorem r_prefix_Less (a0_0 : Int) (a0_1 : Int) (a1_0 : Int) (a1_1 : Int) {I : Ctx} {h : Mem} {Q : Value → Mem → Prop}
  (hh : holds Tryd.prog 22 I (cl_ Q)
   (.sem (Instr.box 24 (.agg #[.int .u32 a0_0, .int .i64 a0_1])) shBlk fun l1 =>
    (.sem (Instr.box 24 (.agg #[.int .u32 a1_0, .int .i64 a1_1])) shBlk fun l2 =>
     (.rd (Instr.loadAt 22 (.pointer (some ⟨(l1 0).n, 0, none⟩))) (.one (.sc (.int .u32))) fun l3 =>
      (.rd (Instr.loadAt 22 (.pointer (some ⟨(l2 0).n, 0, none⟩))) (.one (.sc (.int .u32))) fun l4 =>
       (.ite (((l3 0).i : Int) != ((l4 0).i))
        (.rd (Instr.loadAt 22 (.pointer (some ⟨(l1 0).n, 0, none⟩))) (.one (.sc (.int .u32))) fun l5 =>
         (.rd (Instr.loadAt 22 (.pointer (some ⟨(l2 0).n, 0, none⟩))) (.one (.sc (.int .u32))) fun l6 =>
          (.done (.bool (decide (((l5 0).i : Int) < ((l6 0).i)))))))
        (.rd (Instr.loadAt 3 (.pointer (some ⟨(l1 0).n, 1, none⟩))) (.one (.sc (.int .i64))) fun l7 =>
         (.rd (Instr.loadAt 3 (.pointer (some ⟨(l2 0).n, 1, none⟩))) (.one (.sc (.int .i64))) fun l8 =>
          (.done (.bool (decide (((l7 0).i : Int) < ((l8 0).i)))))))))))) h) : Fn Tryd.prog 22 #[.agg #[.int .u32 a0_0, .int .i64 a0_1], .agg #[.int .u32 a1_0, .int .i64 a1_1]] I h Q :=
  Wp.fn (args := [.agg #[.int .u32 a0_0, .int .i64 a0_1], .agg #[.int .u32 a1_0, .int .i64 a1_1]]) Tryd.func22 rfl (by kernel_rfl) (of_tree (cfg := g_prefix_Less) 1000 (by kernel_rfl) Tryd.func22 rfl Tryd.checked.mixed hh)
theorem ca_prefix_Less : callable Tryd.prog 22 := ⟨_, Tryd.func22, by kernel_rfl, by kernel_rfl⟩
/-! ### octroiref02_Less: function 23 of Go -/
abbrev F_octroiref02_Less : FuncId := 23
noncomputable def c_octroiref02_Less : Code := (Tryd.f23.body).getD .skip
noncomputable def g_octroiref02_Less : Cfg := { sh := shs, fsh := fshs, results := [.tmp 4], hint := fun _ _ => none, ord := fun _ => none, pre := fun _ => [], un := fun _ _ _ => false }
set_option maxRecDepth 100000 in
set_option maxHeartbeats 4000000 in
theorem r_octroiref02_Less (a0_0 : Int) (a0_1 : Int) (a1_0 : Int) (a1_1 : Int) {I : Ctx} {h : Mem} {Q : Value → Mem → Prop}
  (hh : holds Tryd.prog 23 I (cl_ Q)
   (.sem (Instr.box 24 (.agg #[.int .u32 a0_0, .int .i64 a0_1])) shBlk fun l1 =>
    (.sem (Instr.box 24 (.agg #[.int .u32 a1_0, .int .i64 a1_1])) shBlk fun l2 =>
     (.rd (Instr.loadAt 22 (.pointer (some ⟨(l1 0).n, 0, none⟩))) (.one (.sc (.int .u32))) fun l3 =>
      (.rd (Instr.loadAt 22 (.pointer (some ⟨(l2 0).n, 0, none⟩))) (.one (.sc (.int .u32))) fun l4 =>
       (.ite (decide (((l3 0).i : Int) < ((l4 0).i)))
        (.done (.bool true))
        (.rd (Instr.loadAt 22 (.pointer (some ⟨(l1 0).n, 0, none⟩))) (.one (.sc (.int .u32))) fun l5 =>
         (.rd (Instr.loadAt 22 (.pointer (some ⟨(l2 0).n, 0, none⟩))) (.one (.sc (.int .u32))) fun l6 =>
          (.ite (((l5 0).i : Int) == ((l6 0).i))
           (.rd (Instr.loadAt 3 (.pointer (some ⟨(l1 0).n, 1, none⟩))) (.one (.sc (.int .i64))) fun l7 =>
            (.rd (Instr.loadAt 3 (.pointer (some ⟨(l2 0).n, 1, none⟩))) (.one (.sc (.int .i64))) fun l8 =>
             (.done (.bool (decide (((l7 0).i : Int) < ((l8 0).i)))))))
           (.done (.bool false)))))))))) h) : Fn Tryd.prog 23 #[.agg #[.int .u32 a0_0, .int .i64 a0_1], .agg #[.int .u32 a1_0, .int .i64 a1_1]] I h Q :=
  Wp.fn (args := [.agg #[.int .u32 a0_0, .int .i64 a0_1], .agg #[.int .u32 a1_0, .int .i64 a1_1]]) Tryd.func23 rfl (by kernel_rfl) (of_tree (cfg := g_octroiref02_Less) 1000 (by kernel_rfl) Tryd.func23 rfl Tryd.checked.mixed hh)
theorem ca_octroiref02_Less : callable Tryd.prog 23 := ⟨_, Tryd.func23, by kernel_rfl, by kernel_rfl⟩
/-! ### octroiref02_Make: function 24 of Go -/
abbrev F_octroiref02_Make : FuncId := 24
noncomputable def c_octroiref02_Make : Code := (Tryd.f24.body).getD .skip
noncomputable def g_octroiref02_Make : Cfg := { sh := shs, fsh := fshs, results := [.cell 4 24, .tmp 5], hint := fun _ _ => none, ord := fun _ => none, pre := fun _ => [], un := fun _ _ _ => false }
set_option maxRecDepth 100000 in
set_option maxHeartbeats 4000000 in
theorem r_octroiref02_Make (a0 : Int) (a1 : Int) {I : Ctx} {h : Mem} {Q : Value → Mem → Prop}
  (hh : holds Tryd.prog 24 I (cl_ Q)
   (.sem (Instr.alloc 24 true (.tuple #[])) shBlk fun l1 =>
    (.ite (decide ((a1 : Int) < 0))
     (.unit (Instr.storeAt 24 (.pointer (some ⟨(l1 0).n, 0, none⟩)) (.agg #[.int .u32 0, .int .i64 0]))
      (.rd (loadVar 24 ⟨(l1 0).n, 0, none⟩) (.one (.agg [.int .u32, .int .i64])) fun l2 =>
       (.done (.tuple #[.agg #[.int .u32 ((l2 0).i), .int .i64 ((l2 1).i)], .int .i64 1]))))
     (.ite (decide ((a1 : Int) > 32))
      (.unit (Instr.storeAt 24 (.pointer (some ⟨(l1 0).n, 0, none⟩)) (.agg #[.int .u32 0, .int .i64 0]))
       (.rd (loadVar 24 ⟨(l1 0).n, 0, none⟩) (.one (.agg [.int .u32, .int .i64])) fun l3 =>
        (.done (.tuple #[.agg #[.int .u32 ((l3 0).i), .int .i64 ((l3 1).i)], .int .i64 1]))))
      (.call 28 [.int .i64 a1] (.one (.sc (.int .u32))) fun l4 => -- octroiref02_Mask
       (.unit (Instr.storeAt 24 (.pointer (some ⟨(l1 0).n, 0, none⟩)) (.agg #[.int .u32 (bitop .and .u32 a0 ((l4 0).i)), .int .i64 a1]))
        (.rd (loadVar 24 ⟨(l1 0).n, 0, none⟩) (.one (.agg [.int .u32, .int .i64])) fun l5 =>
         (.done (.tuple #[.agg #[.int .u32 ((l5 0).i), .int .i64 ((l5 1).i)], .int .i64 0])))))))) h) : Fn Tryd.prog 24 #[.int .u32 a0, .int .i64 a1] I h Q :=
  Wp.fn (args := [.int .u32 a0, .int .i64 a1]) Tryd.func24 rfl (by kernel_rfl) (of_tree (cfg := g_octroiref02_Make) 1000 (by kernel_rfl) Tryd.func24 rfl Tryd.checked.mixed hh)
theorem ca_octroiref02_Make : callable Tryd.prog 24 := ⟨_, Tryd.func24, by kernel_rfl, by kernel_rfl⟩
/-! ### prefix_Bits: function 25 of Go -/
abbrev F_prefix_Bits : FuncId := 25
noncomputable def c_prefix_Bits : Code := (Tryd.f25.body).getD .skip
noncomputable def g_prefix_Bits : Cfg := { sh := shs, fsh := fshs, results := [.tmp 2, .tmp 3], hint := fun _ _ => none, ord := fun _ => none, pre := fun _ => [], un := fun _ _ _ => false }
set_option maxRecDepth 100000 in
set_option maxHeartbeats 4000000 in
theorem r_prefix_Bits (a0 : Int) {I : Ctx} {h : Mem} {Q : Value → Mem → Prop}
  (hh : holds Tryd.prog 25 I (cl_ Q)
   (.call 35 [.int .u32 (bitop .xor .u32 (IntKind.max .u32) a0)] (.one (.sc (.int .i64))) fun l1 => -- math_bits_LeadingZeros32
    (.call 27 [.int .i64 ((l1 0).i)] (.one (.sc (.int .u32))) fun l2 => -- prefix_Mask
     (.ite (((l2 0).i : Int) != a0)
      (.done (.tuple #[.int .i64 0, .bool false]))
      (.done (.tuple #[.int .i64 ((l1 0).i), .bool true]))))) h) : Fn Tryd.prog 25 #[.int .u32 a0] I h Q :=
  Wp.fn (args := [.int .u32 a0]) Tryd.func25 rfl (by kernel_rfl) (of_tree (cfg := g_prefix_Bits) 1000 (by kernel_rfl) Tryd.func25 rfl Tryd.checked.mixed hh)
theorem ca_prefix_Bits : callable Tryd.prog 25 := ⟨_, Tryd.func25, by kernel_rfl, by kernel_rfl⟩
/-! ### octroiref02_Bits: function 26 of Go -/
abbrev F_octroiref02_Bits : FuncId := 26
noncomputable def c_octroiref02_Bits : Code := (Tryd.f26.body).getD .skip
noncomputable def g_octroiref02_Bits : Cfg := { sh := shs, fsh := fshs, results := [.tmp 2, .tmp 3], hint := fun _ _ => none, ord := fun _ => none, pre := fun _ => [], un := fun _ _ _ => false }
noncomputable def k_octroiref02_Bits_1 : List Item := [.code (bd (bd (sr (sl (sr c_octroiref02_Bits))))), .inLoop (bd (bd (sr (sl (sr c_octroiref02_Bits))))), .inBlock 0, .code (sr (sr c_octroiref02_Bits))]
noncomputable def t_octroiref02_Bits_1 (a0 : Int) (x4 : Int) (u : Nat → Value) : List Value := [.int .u32 a0, undef, (u 2), (u 3), .int .i64 x4, (u 5), (u 6), (u 7), (u 8), (u 9), (u 10), (u 11), (u 12), (u 13)]
set_option maxRecDepth 100000 in
set_option maxHeartbeats 4000000 in
theorem r_octroiref02_Bits (a0 : Int) {I : Ctx} {h : Mem} {Q : Value → Mem → Prop}
  (hh : holds Tryd.prog 26 I (cl_ Q)
   (.stop k_octroiref02_Bits_1 (t_octroiref02_Bits_1 a0 0 (jl [(2, .int .i64 0), (3, .bool false), (5, undef), (6, undef), (7, undef), (8, undef), (9, undef), (10, undef), (11, undef), (12, undef), (13, undef)]))) h) : Fn Tryd.prog 26 #[.int .u32 a0] I h Q :=
  Wp.fn (args := [.int .u32 a0]) Tryd.func26 rfl (by kernel_rfl) (of_tree (cfg := g_octroiref02_Bits) 1000 (by kernel_rfl) Tryd.func26 rfl Tryd.checked.mixed hh)
theorem ca_octroiref02_Bits : callable Tryd.prog 26 := ⟨_, Tryd.func26, by kernel_rfl, by kernel_rfl⟩
set_option maxRecDepth 100000 in
set_option maxHeartbeats 4000000 in
theorem r_octroiref02_Bits_1 (a0 : Int) (x4 : Int) (u : Nat → Value) {I : Ctx} {h : Mem} {Q : Value → Mem → Prop}
  (hh : holds Tryd.prog 26 I Q
   (.ite (decide ((x4 : Int) ≤ 32))
    (.call 28 [.int .i64 x4] (.one (.sc (.int .u32))) fun l1 => -- octroiref02_Mask
     (.ite (((l1 0).i : Int) == a0)
      (.done (.tuple #[.int .i64 x4, .bool true]))
      (.stop k_octroiref02_Bits_1 (t_octroiref02_Bits_1 a0 (IntKind.wrap .i64 (x4 + 1)) (jl [(2, (u 2)), (3, (u 3)), (5, .int .i64 x4), (6, .bool (decide ((x4 : Int) ≤ 32))), (7, .int .i64 x4), (8, .int .i64 (IntKind.wrap .i64 (x4 + 1))), (9, .int .i64 x4), (10, .int .u32 ((l1 0).i)), (11, .int .u32 a0), (12, .bool (((l1 0).i : Int) == a0)), (13, (u 13))])))))
    (.done (.tuple #[.int .i64 0, .bool false]))) h) : Wp Tryd.prog 26 k_octroiref02_Bits_1 (t_octroiref02_Bits_1 a0 x4 u) I h Q :=
  of_tree (cfg := g_octroiref02_Bits) 1000 (by kernel_rfl) Tryd.func26 rfl Tryd.checked.mixed hh
/-! ### prefix_Mask: function 27 of Go -/
abbrev F_prefix_Mask : FuncId := 27
noncomputable def c_prefix_Mask : Code := (Tryd.f27.body).getD .skip
noncomputable def g_prefix_Mask : Cfg := { sh := shs, fsh := fshs, results := [.tmp 2], hint := fun r i => match r, i with | 1, 4 => some (true, .one (.sc (.int .u32))) | _, _ => none, ord := fun _ => none, pre := fun _ => [], un := fun _ _ _ => false }
set_option maxRecDepth 100000 in
set_option maxHeartbeats 4000000 in
theorem r_prefix_Mask (a0 : Int) {I : Ctx} {h : Mem} {Q : Value → Mem → Prop}
  (hh : holds Tryd.prog 27 I (cl_ Q)
   (.rdn (binN .shl 22 (.int .u32 4294967295) (.int .i64 (IntKind.wrap .i64 (32 - (if (if (32 : Int) < a0 then 32 else a0 : Int) > 0 then if (32 : Int) < a0 then 32 else a0 else 0))))) (.one (.sc (.int .u32))) fun l1 =>
    (.done (.int .u32 ((l1 0).i)))) h) : Fn Tryd.prog 27 #[.int .i64 a0] I h Q :=
  Wp.fn (args := [.int .i64 a0]) Tryd.func27 rfl (by kernel_rfl) (of_tree (cfg := g_prefix_Mask) 1000 (by kernel_rfl) Tryd.func27 rfl Tryd.checked.mixed hh)
theorem ca_prefix_Mask : callable Tryd.prog 27 := ⟨_, Tryd.func27, by kernel_rfl, by kernel_rfl⟩
/-! ### octroiref02_Mask: function 28 of Go -/
abbrev F_octroiref02_Mask : FuncId := 28
noncomputable def c_octroiref02_Mask : Code := (Tryd.f28.body).getD .skip
noncomputable def g_octroiref02_Mask : Cfg := { sh := shs, fsh := fshs, results := [.tmp 2], hint := fun _ _ => none, ord := fun _ => none, pre := fun _ => [], un := fun _ _ _ => false }
noncomputable def k_octroiref02_Mask_1 : List Item := [.code (bd (bd (sr (sl (sr (sr (sr c_octroiref02_Mask))))))), .inLoop (bd (bd (sr (sl (sr (sr (sr c_octroiref02_Mask))))))), .inBlock 0, .code (sr (sr (sr (sr c_octroiref02_Mask))))]
noncomputable def t_octroiref02_Mask_1 (a0 : Int) (x3 : Int) (x4 : Int) (x5 : Int) (u : Nat → Value) : List Value := [.int .i64 a0, undef, (u 2), .int .u32 x3, .int .u32 x4, .int .i64 x5, (u 6), (u 7), (u 8), (u 9), (u 10), (u 11), (u 12), (u 13), (u 14), (u 15), (u 16), (u 17), (u 18), (u 19), (u 20)]
set_option maxRecDepth 100000 in
set_option maxHeartbeats 4000000 in
theorem r_octroiref02_Mask (a0 : Int) {I : Ctx} {h : Mem} {Q : Value → Mem → Prop}
  (hh : holds Tryd.prog 28 I (cl_ Q)
   (.stop k_octroiref02_Mask_1 (t_octroiref02_Mask_1 a0 0 2147483648 0 (jl [(2, .int .u32 0), (6, undef), (7, undef), (8, undef), (9, undef), (10, undef), (11, undef), (12, undef), (13, undef), (14, undef), (15, undef), (16, undef), (17, undef), (18, undef), (19, undef), (20, undef)]))) h) : Fn Tryd.prog 28 #[.int .i64 a0] I h Q :=
  Wp.fn (args := [.int .i64 a0]) Tryd.func28 rfl (by kernel_rfl) (of_tree (cfg := g_octroiref02_Mask) 1000 (by kernel_rfl) Tryd.func28 rfl Tryd.checked.mixed hh)
theorem ca_octroiref02_Mask : callable Tryd.prog 28 := ⟨_, Tryd.func28, by kernel_rfl, by kernel_rfl⟩
set_option maxRecDepth 100000 in
set_option maxHeartbeats 4000000 in
theorem r_octroiref02_Mask_1 (a0 : Int) (x3 : Int) (x4 : Int) (x5 : Int) (u : Nat → Value) {I : Ctx} {h : Mem} {Q : Value → Mem → Prop}
  (hh : holds Tryd.prog 28 I Q
   (.ite (decide ((x5 : Int) < a0))
    (.ite (decide ((x5 : Int) < 32))
     (.stop k_octroiref02_Mask_1 (t_octroiref02_Mask_1 a0 (IntKind.wrap .u32 (x3 + x4)) (IntKind.wrap .u32 (Int.tdiv x4 2)) (IntKind.wrap .i64 (x5 + 1)) (jl [(2, (u 2)), (6, .int .i64 x5), (7, .int .i64 a0), (8, .bool (decide ((x5 : Int) < a0))), (9, .bool true), (10, .int .i64 x5), (11, .bool (decide ((x5 : Int) < 32))), (12, .bool (decide ((x5 : Int) < 32))), (13, .int .i64 x5), (14, .int .i64 (IntKind.wrap .i64 (x5 + 1))), (15, .int .u32 x3), (16, .int .u32 x4), (17, .int .u32 (IntKind.wrap .u32 (x3 + x4))), (18, .int .u32 x4), (19, .int .u32 (IntKind.wrap .u32 (Int.tdiv x4 2))), (20, (u 20))])))
     (.done (.int .u32 x3)))
    (.done (.int .u32 x3))) h) : Wp Tryd.prog 28 k_octroiref02_Mask_1 (t_octroiref02_Mask_1 a0 x3 x4 x5 u) I h Q :=
  of_tree (cfg := g_octroiref02_Mask) 1000 (by kernel_rfl) Tryd.func28 rfl Tryd.checked.mixed hh
/-! ### octroiref02_May: function 29 of Go -/
abbrev F_octroiref02_May : FuncId := 29
noncomputable def c_octroiref02_May : Code := (Tryd.f29.body).getD .skip
def p_octroiref02_May : Nat → List (List Nat) := fun r => match r with | 1 => [[], [0], [0, 1], [0, 1, 2], [0, 1, 2, 3], [0, 1, 2, 3, 4], [0, 1, 2, 3, 4, 5], [0, 1, 2, 3, 4, 5, 6], [0, 1, 2, 3, 4, 5, 6, 7], [0, 1, 2, 3, 4, 5, 6, 7, 8], [0, 1, 2, 3, 4, 5, 6, 7, 8, 9], [0, 1, 2, 3, 4, 5, 6, 7, 8], [0, 1, 2, 3, 4, 5, 6, 7, 8, 11], [0, 1, 2, 3, 4, 5, 6, 7, 8, 11, 12], [0, 1, 2, 3, 4, 5, 6, 7, 8, 9, 10, 11, 12, 13], [0, 1, 2, 3, 4, 5, 6, 7, 8], [0, 1, 2, 3, 4, 5, 6, 7, 8, 15], [0, 1, 2, 3, 4, 5, 6, 7, 8, 9, 10, 11, 12, 13, 14, 15, 16], [0, 1, 2, 3, 4, 5, 6, 7, 8, 9, 10, 11, 12, 13, 14, 15, 16, 17], [0, 1, 2, 3, 4, 5, 6, 7, 8, 9, 10, 11, 12, 13, 14, 15, 16, 17, 18]] | _ => []
noncomputable def g_octroiref02_May : Cfg := { sh := shs, fsh := fshs, results := [.tmp 2], hint := fun _ _ => none, ord := fun r => match r with | 1 => some [0, 1, 2, 3, 4, 5, 6, 7, 8, 9, 10, 11, 12, 15, 16, 13, 14, 17, 18, 19] | _ => none, pre := p_octroiref02_May, un := unOf p_octroiref02_May }
set_option maxRecDepth 100000 in
set_option maxHeartbeats 4000000 in
theorem r_octroiref02_May (a0_0 : Int) (a0_1 : Int) {I : Ctx} {h : Mem} {Q : Value → Mem → Prop}
  (hh : holds Tryd.prog 29 I (cl_ Q)
   (.sem (Instr.box 24 (.agg #[.int .u32 a0_0, .int .i64 a0_1])) shBlk fun l1 =>
    (.rd (Instr.loadAt 3 (.pointer (some ⟨(l1 0).n, 1, none⟩))) (.one (.sc (.int .i64))) fun l2 =>
     (.ite (decide (((l2 0).i : Int) ≥ 0))
      (.rd (Instr.loadAt 3 (.pointer (some ⟨(l1 0).n, 1, none⟩))) (.one (.sc (.int .i64))) fun l3 =>
       (.ite (decide (((l3 0).i : Int) ≤ 32))
        (.rd (Instr.loadAt 22 (.pointer (some ⟨(l1 0).n, 0, none⟩))) (.one (.sc (.int .u32))) fun l4 =>
         (.rd (Instr.loadAt 3 (.pointer (some ⟨(l1 0).n, 1, none⟩))) (.one (.sc (.int .i64))) fun l5 =>
          (.rd (Instr.loadAt 22 (.pointer (some ⟨(l1 0).n, 0, none⟩))) (.one (.sc (.int .u32))) fun l6 =>
           (.call 28 [.int .i64 ((l5 0).i)] (.one (.sc (.int .u32))) fun l7 => -- octroiref02_Mask
            (.pin (vN (Instr.loadAt 22 (.pointer (some ⟨(l1 0).n, 0, none⟩)))) (.int .u32 ((l6 0).i))
             (.pin (vN (Instr.loadAt 22 (.pointer (some ⟨(l1 0).n, 0, none⟩)))) (.int .u32 ((l4 0).i))
              (.done (.bool ((bitop .and .u32 ((l4 0).i) ((l7 0).i) : Int) == ((l6 0).i))))))))))
        (.done (.bool false))))
      (.done (.bool false))))) h) : Fn Tryd.prog 29 #[.agg #[.int .u32 a0_0, .int .i64 a0_1]] I h Q :=
  Wp.fn (args := [.agg #[.int .u32 a0_0, .int .i64 a0_1]]) Tryd.func29 rfl (by kernel_rfl) (of_tree (cfg := g_octroiref02_May) 1000 (by kernel_rfl) Tryd.func29 rfl Tryd.checked.mixed hh)
theorem ca_octroiref02_May : callable Tryd.prog 29 := ⟨_, Tryd.func29, by kernel_rfl, by kernel_rfl⟩
/-! ### prefix_number: function 30 of Go -/
abbrev F_prefix_number : FuncId := 30
noncomputable def c_prefix_number : Code := (Tryd.f30.body).getD .skip
def p_prefix_number : Nat → List (List Nat) := fun r => match r with | 5 => [[], [0], [], [], [3], [0, 1], [0, 1, 2, 5], [0, 1, 2, 3, 4, 5, 6]] | _ => []
noncomputable def g_prefix_number : Cfg := { sh := shs, fsh := fshs, results := [.tmp 4, .tmp 5, .tmp 6], hint := fun r i => match r, i with | 5, 4 => some (true, .one (.sc (.bool))) | _, _ => none, ord := fun r => match r with | 5 => some [0, 1, 2, 3, 4, 5, 6, 7] | _ => none, pre := p_prefix_number, un := unOf p_prefix_number }
set_option maxRecDepth 100000 in
set_option maxHeartbeats 4000000 in
theorem r_prefix_number (a0 : ByteArray) (a1 : ByteArray) {I : Ctx} {h : Mem} {Q : Value → Mem → Prop}
  (hh : holds Tryd.prog 30 I (cl_ Q)
   (.call 36 [.string a0, .string a1] (.tup [(.sc (.str)), (.sc (.str)), (.sc (.bool))]) fun l1 => -- strings_Cut
    (.ite (!((l1 2).b))
     (.done (.tuple #[.int .u32 0, .string (ByteArray.mk #[]), .bool false]))
     (.ite (decide ((((((l1 0).s).size : Nat) : Int) : Int) > 3))
      (.done (.tuple #[.int .u32 0, .string (ByteArray.mk #[]), .bool false]))
      (.call 37 [.string ((l1 0).s), .int .i64 10, .int .i64 8] (.tup [(.sc (.int .u64)), (.sc (.v))]) fun l2 => -- strconv_ParseUint
       (.rdn (eqN .eql 55 (.tmp 0) (.const (.nilIface)) ((l2 1).v) .nilIface) (.one (.sc (.bool))) fun l3 =>
        (.done (.tuple #[.int .u32 (IntKind.wrap .u32 ((l2 0).i)), .string ((l1 1).s), .bool ((l3 0).b)]))))))) h) : Fn Tryd.prog 30 #[.string a0, .string a1] I h Q :=
  Wp.fn (args := [.string a0, .string a1]) Tryd.func30 rfl (by kernel_rfl) (of_tree (cfg := g_prefix_number) 1000 (by kernel_rfl) Tryd.func30 rfl Tryd.checked.mixed hh)
theorem ca_prefix_number : callable Tryd.prog 30 := ⟨_, Tryd.func30, by kernel_rfl, by kernel_rfl⟩
/-! ### prefix_length: function 31 of Go -/
abbrev F_prefix_length : FuncId := 31
noncomputable def c_prefix_length : Code := (Tryd.f31.body).getD .skip
noncomputable def g_prefix_length : Cfg := { sh := shs, fsh := fshs, results := [.cell 6 24, .tmp 7], hint := fun r i => match r, i with | 3, 1 => some (true, .one (.sc (.bool))) | _, _ => none, ord := fun _ => none, pre := fun _ => [], un := fun _ _ _ => false }
set_option maxRecDepth 100000 in
set_option maxHeartbeats 4000000 in
theorem r_prefix_length (a0_0 : Int) (a0_1 : Int) (a1 : ByteArray) (a2 : ByteArray) {I : Ctx} {h : Mem} {Q : Value → Mem → Prop}
  (hh : holds Tryd.prog 31 I (cl_ Q)
   (.sem (Instr.box 24 (.agg #[.int .u32 a0_0, .int .i64 a0_1])) shBlk fun l1 =>
    (.sem (Instr.alloc 24 true (.tuple #[])) shBlk fun l2 =>
     (.call 37 [.string a1, .int .i64 10, .int .i64 8] (.tup [(.sc (.int .u64)), (.sc (.v))]) fun l3 => -- strconv_ParseUint
      (.unit (Instr.storeAt 3 (.pointer (some ⟨(l1 0).n, 1, none⟩)) (.int .i64 (IntKind.wrap .i64 ((l3 0).i))))
       (.rdn (eqN .neq 55 (.tmp 0) (.const (.nilIface)) ((l3 1).v) .nilIface) (.one (.sc (.bool))) fun l4 =>
        (.ite ((l4 0).b)
         (.unit (Instr.storeAt 24 (.pointer (some ⟨(l2 0).n, 0, none⟩)) (.agg #[.int .u32 0, .int .i64 0]))
          (.rd (loadVar 24 ⟨(l2 0).n, 0, none⟩) (.one (.agg [.int .u32, .int .i64])) fun l5 =>
           (.done (.tuple #[.agg #[.int .u32 ((l5 0).i), .int .i64 ((l5 1).i)], .int .i64 2]))))
         (.rd (Instr.loadAt 24 (.pointer (some ⟨(l1 0).n, 0, none⟩))) (.one (.agg [.int .u32, .int .i64])) fun l6 =>
          (.call 16 [.agg #[.int .u32 ((l6 0).i), .int .i64 ((l6 1).i)]] (.one (.sc (.bool))) fun l7 => -- prefix_May
           (.ite (!((l7 0).b))
            (.unit (Instr.storeAt 24 (.pointer (some ⟨(l2 0).n, 0, none⟩)) (.agg #[.int .u32 0, .int .i64 0]))
             (.rd (loadVar 24 ⟨(l2 0).n, 0, none⟩) (.one (.agg [.int .u32, .int .i64])) fun l8 =>
              (.done (.tuple #[.agg #[.int .u32 ((l8 0).i), .int .i64 ((l8 1).i)], .int .i64 2]))))
            (.rd (Instr.loadAt 24 (.pointer (some ⟨(l1 0).n, 0, none⟩))) (.one (.agg [.int .u32, .int .i64])) fun l9 =>
             (.call 14 [.agg #[.int .u32 ((l9 0).i), .int .i64 ((l9 1).i)]] (.one (.sc (.str))) fun l10 => -- prefix_Show
              (.ite (!(((l10 0).s).toList == a2.toList))
               (.unit (Instr.storeAt 24 (.pointer (some ⟨(l2 0).n, 0, none⟩)) (.agg #[.int .u32 0, .int .i64 0]))
                (.rd (loadVar 24 ⟨(l2 0).n, 0, none⟩) (.one (.agg [.int .u32, .int .i64])) fun l11 =>
                 (.done (.tuple #[.agg #[.int .u32 ((l11 0).i), .int .i64 ((l11 1).i)], .int .i64 2]))))
               (.rd (Instr.loadAt 24 (.pointer (some ⟨(l1 0).n, 0, none⟩))) (.one (.agg [.int .u32, .int .i64])) fun l12 =>
                (.unit (Instr.storeAt 24 (.pointer (some ⟨(l2 0).n, 0, none⟩)) (.agg #[.int .u32 ((l12 0).i), .int .i64 ((l12 1).i)]))
                 (.rd (loadVar 24 ⟨(l2 0).n, 0, none⟩) (.one (.agg [.int .u32, .int .i64])) fun l13 =>
                  (.done (.tuple #[.agg #[.int .u32 ((l13 0).i), .int .i64 ((l13 1).i)], .int .i64 0]))))))))))))))))) h) : Fn Tryd.prog 31 #[.agg #[.int .u32 a0_0, .int .i64 a0_1], .string a1, .string a2] I h Q :=
  Wp.fn (args := [.agg #[.int .u32 a0_0, .int .i64 a0_1], .string a1, .string a2]) Tryd.func31 rfl (by kernel_rfl) (of_tree (cfg := g_prefix_length) 1000 (by kernel_rfl) Tryd.func31 rfl Tryd.checked.mixed hh)
theorem ca_prefix_length : callable Tryd.prog 31 := ⟨_, Tryd.func31, by kernel_rfl, by kernel_rfl⟩
/-! ### strconv_Itoa: function 32 of Go -/
abbrev F_strconv_Itoa : FuncId := 32
noncomputable def c_strconv_Itoa : Code := (Tryd.f32.body).getD .skip
noncomputable def g_strconv_Itoa : Cfg := { sh := shs, fsh := fshs, results := [.tmp 2], hint := fun _ _ => none, ord := fun _ => none, pre := fun _ => [], un := fun _ _ _ => false }
set_option maxRecDepth 100000 in
set_option maxHeartbeats 4000000 in
theorem r_strconv_Itoa (a0 : Int) {I : Ctx} {h : Mem} {Q : Value → Mem → Prop}
  (hh : holds Tryd.prog 32 I (cl_ Q)
   (.call 38 [.int .i64 a0] (.one (.sc (.str))) fun l1 => -- internal_strconv_Itoa
    (.done (.string ((l1 0).s)))) h) : Fn Tryd.prog 32 #[.int .i64 a0] I h Q :=
  Wp.fn (args := [.int .i64 a0]) Tryd.func32 rfl (by kernel_rfl) (of_tree (cfg := g_strconv_Itoa) 1000 (by kernel_rfl) Tryd.func32 rfl Tryd.checked.mixed hh)
theorem ca_strconv_Itoa : callable Tryd.prog 32 := ⟨_, Tryd.func32, by kernel_rfl, by kernel_rfl⟩
/-! ### strings_Join: function 33 of Go -/
abbrev F_strings_Join : FuncId := 33
noncomputable def c_strings_Join : Code := (Tryd.f33.body).getD .skip
noncomputable def g_strings_Join : Cfg := { sh := shs, fsh := fshs, results := [.tmp 4], hint := fun r i => match r, i with | 8, 5 => some (true, .one (.sc (.int .i64))) | _, _ => none, ord := fun _ => none, pre := fun _ => [], un := fun _ _ _ => false }
noncomputable def k_strings_Join_1 : List Item := [.code (bd (bd (sr (sl (sr (sr (sr (sr c_strings_Join)))))))), .inLoop (bd (bd (sr (sl (sr (sr (sr (sr c_strings_Join)))))))), .inBlock 1, .code (sr (sr (sr (sr (sr c_strings_Join)))))]
noncomputable def t_strings_Join_1 (Aa0 : Option Addr) (na0 : Nat) (ca0 : Nat) (a1 : ByteArray) (x5 : Int) (x41 : Int) (u : Nat → Value) : List Value := [.slice Aa0 na0 ca0, .string a1, undef, undef, (u 4), .int .i64 x5, undef, (u 7), (u 8), undef, (u 10), (u 11), (u 12), (u 13), (u 14), (u 15), (u 16), (u 17), (u 18), (u 19), (u 20), (u 21), (u 22), (u 23), (u 24), (u 25), (u 26), (u 27), (u 28), (u 29), (u 30), (u 31), (u 32), (u 33), (u 34), (u 35), (u 36), (u 37), (u 38), .slice Aa0 na0 ca0, .int .i64 ((na0 : Nat) : Int), .int .i64 x41, (u 42), (u 43), (u 44), (u 45), (u 46), (u 47), (u 48), (u 49), (u 50), (u 51), (u 52), (u 53), (u 54), (u 55), (u 56), (u 57), (u 58), (u 59), (u 60), (u 61), (u 62), (u 63), (u 64), (u 65), (u 66), (u 67), (u 68), (u 69), (u 70), (u 71), (u 72), (u 73), (u 74)]
noncomputable def k_strings_Join_2 : List Item := [.code (bd (bd (sr (sl (sr (sr (sr (sr (sr (sr (sr (sr c_strings_Join)))))))))))), .inLoop (bd (bd (sr (sl (sr (sr (sr (sr (sr (sr (sr (sr c_strings_Join)))))))))))), .inBlock 3, .code (sr (sr (sr (sr (sr (sr (sr (sr (sr c_strings_Join)))))))))]
noncomputable def t_strings_Join_2 (a1 : ByteArray) (y8 : Nat) (Ay63 : Option Addr) (ny63 : Nat) (cy63 : Nat) (y64 : Int) (x65 : Int) (u : Nat → Value) : List Value := [(u 0), .string a1, undef, undef, (u 4), (u 5), undef, (u 7), .pointer (some ⟨y8, 0, none⟩), undef, (u 10), (u 11), (u 12), (u 13), (u 14), (u 15), (u 16), (u 17), (u 18), (u 19), (u 20), (u 21), (u 22), (u 23), (u 24), (u 25), (u 26), (u 27), (u 28), (u 29), (u 30), (u 31), (u 32), (u 33), (u 34), (u 35), (u 36), (u 37), (u 38), (u 39), (u 40), (u 41), (u 42), (u 43), (u 44), (u 45), (u 46), (u 47), (u 48), (u 49), (u 50), (u 51), (u 52), (u 53), (u 54), (u 55), (u 56), (u 57), (u 58), (u 59), (u 60), (u 61), (u 62), .slice Ay63 ny63 cy63, .int .i64 y64, .int .i64 x65, (u 66), (u 67), (u 68), (u 69), (u 70), (u 71), (u 72), (u 73), (u 74)]
set_option maxRecDepth 100000 in
set_option maxHeartbeats 4000000 in
theorem r_strings_Join (Aa0 : Option Addr) (na0 : Nat) (ca0 : Nat) (a1 : ByteArray) {I : Ctx} {h : Mem} {Q : Value → Mem → Prop}
  (hh : holds Tryd.prog 33 I (cl_ Q)
   (.ite ((((na0 : Nat) : Int) : Int) == 0)
    (.done (.string (ByteArray.mk #[])))
    (.ite ((((na0 : Nat) : Int) : Int) == 1)
     (.rd (Instr.indexAt 47 (.slice Aa0 na0 ca0) (.int .i64 0)) (.one (.sc (.padr))) fun l1 =>
      (.rd (Instr.loadAt 9 (.pointer (some ((l1 0).a)))) (.one (.sc (.str))) fun l2 =>
       (.done (.string ((l2 0).s)))))
     (.ite (decide ((((a1.size : Nat) : Int) : Int) > 0))
      (.rdn (binN .quo 3 (.int .i64 9223372036854775807) (.int .i64 (IntKind.wrap .i64 (((na0 : Nat) : Int) - 1)))) (.one (.sc (.int .i64))) fun l3 =>
       (.ite (decide ((((a1.size : Nat) : Int) : Int) ≥ ((l3 0).i)))
        (.stuck)
        (.stop k_strings_Join_1 (t_strings_Join_1 Aa0 na0 ca0 a1 (IntKind.wrap .i64 (0 + (IntKind.wrap .i64 (((a1.size : Nat) : Int) * (IntKind.wrap .i64 (((na0 : Nat) : Int) - 1)))))) 0 (jl [(4, .string (ByteArray.mk #[])), (7, undef), (8, undef), (10, undef), (11, .slice Aa0 na0 ca0), (12, .int .i64 ((na0 : Nat) : Int)), (13, .bool ((((na0 : Nat) : Int) : Int) == 0)), (14, .bool ((((na0 : Nat) : Int) : Int) == 0)), (15, .bool ((((na0 : Nat) : Int) : Int) == 1)), (16, .bool ((((na0 : Nat) : Int) : Int) == 1)), (17, undef), (18, undef), (19, undef), (20, .string a1), (21, .int .i64 ((a1.size : Nat) : Int)), (22, .bool (decide ((((a1.size : Nat) : Int) : Int) > 0))), (23, .string a1), (24, .int .i64 ((a1.size : Nat) : Int)), (25, .slice Aa0 na0 ca0), (26, .int .i64 ((na0 : Nat) : Int)), (27, .int .i64 (IntKind.wrap .i64 (((na0 : Nat) : Int) - 1))), (28, .int .i64 ((l3 0).i)), (29, .bool (decide ((((a1.size : Nat) : Int) : Int) ≥ ((l3 0).i)))), (30, undef), (31, .int .i64 0), (32, .string a1), (33, .int .i64 ((a1.size : Nat) : Int)), (34, .slice Aa0 na0 ca0), (35, .int .i64 ((na0 : Nat) : Int)), (36, .int .i64 (IntKind.wrap .i64 (((na0 : Nat) : Int) - 1))), (37, .int .i64 (IntKind.wrap .i64 (((a1.size : Nat) : Int) * (IntKind.wrap .i64 (((na0 : Nat) : Int) - 1))))), (38, .int .i64 (IntKind.wrap .i64 (0 + (IntKind.wrap .i64 (((a1.size : Nat) : Int) * (IntKind.wrap .i64 (((na0 : Nat) : Int) - 1))))))), (42, undef), (43, undef), (44, undef), (45, undef), (46, undef), (47, undef), (48, undef), (49, undef), (50, undef), (51, undef), (52, undef), (53, undef), (54, undef), (55, undef), (56, undef), (57, undef), (58, undef), (59, undef), (60, undef), (61, undef), (62, undef), (63, undef), (64, undef), (65, undef), (66, undef), (67, undef), (68, undef), (69, undef), (70, undef), (71, undef), (72, undef), (73, undef), (74, undef)])))))
      (.stop k_strings_Join_1 (t_strings_Join_1 Aa0 na0 ca0 a1 0 0 (jl [(4, .string (ByteArray.mk #[])), (7, undef), (8, undef), (10, undef), (11, .slice Aa0 na0 ca0), (12, .int .i64 ((na0 : Nat) : Int)), (13, .bool ((((na0 : Nat) : Int) : Int) == 0)), (14, .bool ((((na0 : Nat) : Int) : Int) == 0)), (15, .bool ((((na0 : Nat) : Int) : Int) == 1)), (16, .bool ((((na0 : Nat) : Int) : Int) == 1)), (17, undef), (18, undef), (19, undef), (20, .string a1), (21, .int .i64 ((a1.size : Nat) : Int)), (22, .bool (decide ((((a1.size : Nat) : Int) : Int) > 0))), (23, undef), (24, undef), (25, undef), (26, undef), (27, undef), (28, undef), (29, undef), (30, undef), (31, undef), (32, undef), (33, undef), (34, undef), (35, undef), (36, undef), (37, undef), (38, undef), (42, undef), (43, undef), (44, undef), (45, undef), (46, undef), (47, undef), (48, undef), (49, undef), (50, undef), (51, undef), (52, undef), (53, undef), (54, undef), (55, undef), (56, undef), (57, undef), (58, undef), (59, undef), (60, undef), (61, undef), (62, undef), (63, undef), (64, undef), (65, undef), (66, undef), (67, undef), (68, undef), (69, undef), (70, undef), (71, undef), (72, undef), (73, undef), (74, undef)])))))) h) : Fn Tryd.prog 33 #[.slice Aa0 na0 ca0, .string a1] I h Q :=
  Wp.fn (args := [.slice Aa0 na0 ca0, .string a1]) Tryd.func33 rfl (by kernel_rfl) (of_tree (cfg := g_strings_Join) 1000 (by kernel_rfl) Tryd.func33 rfl Tryd.checked.mixed hh)
theorem ca_strings_Join : callable Tryd.prog 33 := ⟨_, Tryd.func33, by kernel_rfl, by kernel_rfl⟩
set_option maxRecDepth 100000 in
set_option maxHeartbeats 4000000 in
theorem r_strings_Join_1 (Aa0 : Option Addr) (na0 : Nat) (ca0 : Nat) (a1 : ByteArray) (x5 : Int) (x41 : Int) (u : Nat → Value) {I : Ctx} {h : Mem} {Q : Value → Mem → Prop}
  (hh : holds Tryd.prog 33 I Q
   (.ite (decide ((x41 : Int) < ((na0 : Nat) : Int)))
    (.rd (Instr.indexAt 47 (.slice Aa0 na0 ca0) (.int .i64 x41)) (.one (.sc (.padr))) fun l4 =>
     (.rd (Instr.loadAt 9 (.pointer (some ((l4 0).a)))) (.one (.sc (.str))) fun l5 =>
      (.ite (decide ((((((l5 0).s).size : Nat) : Int) : Int) > (IntKind.wrap .i64 (9223372036854775807 - x5))))
       (.stuck)
       (.stop k_strings_Join_1 (t_strings_Join_1 Aa0 na0 ca0 a1 (IntKind.wrap .i64 (x5 + ((((l5 0).s).size : Nat) : Int))) (IntKind.wrap .i64 (x41 + 1)) (jl [(4, (u 4)), (7, .string ((l5 0).s)), (8, (u 8)), (10, (u 10)), (11, (u 11)), (12, (u 12)), (13, (u 13)), (14, (u 14)), (15, (u 15)), (16, (u 16)), (17, (u 17)), (18, (u 18)), (19, (u 19)), (20, (u 20)), (21, (u 21)), (22, (u 22)), (23, (u 23)), (24, (u 24)), (25, (u 25)), (26, (u 26)), (27, (u 27)), (28, (u 28)), (29, (u 29)), (30, (u 30)), (31, (u 31)), (32, (u 32)), (33, (u 33)), (34, (u 34)), (35, (u 35)), (36, (u 36)), (37, (u 37)), (38, (u 38)), (42, .bool (decide ((x41 : Int) < ((na0 : Nat) : Int)))), (43, .pointer (some ((l4 0).a))), (44, .string ((l5 0).s)), (45, .string ((l5 0).s)), (46, .int .i64 ((((l5 0).s).size : Nat) : Int)), (47, .int .i64 x5), (48, .int .i64 (IntKind.wrap .i64 (9223372036854775807 - x5))), (49, .bool (decide ((((((l5 0).s).size : Nat) : Int) : Int) > (IntKind.wrap .i64 (9223372036854775807 - x5))))), (50, (u 50)), (51, .int .i64 x5), (52, .string ((l5 0).s)), (53, .int .i64 ((((l5 0).s).size : Nat) : Int)), (54, .int .i64 (IntKind.wrap .i64 (x5 + ((((l5 0).s).size : Nat) : Int)))), (55, .int .i64 (IntKind.wrap .i64 (x41 + 1))), (56, (u 56)), (57, (u 57)), (58, (u 58)), (59, (u 59)), (60, (u 60)), (61, (u 61)), (62, (u 62)), (63, (u 63)), (64, (u 64)), (65, (u 65)), (66, (u 66)), (67, (u 67)), (68, (u 68)), (69, (u 69)), (70, (u 70)), (71, (u 71)), (72, (u 72)), (73, (u 73)), (74, (u 74))]))))))
    (.sem (Instr.alloc 61 true (.tuple #[])) shBlk fun l6 =>
     (.call 39 [.pointer (some ⟨(l6 0).n, 0, none⟩), .int .i64 x5] (.tup []) fun l7 => -- strings_Builder_Grow
      (.rd (Instr.indexAt 47 (.slice Aa0 na0 ca0) (.int .i64 0)) (.one (.sc (.padr))) fun l8 =>
       (.rd (Instr.loadAt 9 (.pointer (some ((l8 0).a)))) (.one (.sc (.str))) fun l9 =>
        (.call 40 [.pointer (some ⟨(l6 0).n, 0, none⟩), .string ((l9 0).s)] (.tup [(.sc (.int .i64)), (.sc (.v))]) fun l10 => -- strings_Builder_WriteString
         (.rd (Instr.sliceAt 47 (.slice Aa0 na0 ca0) (some (.int .i64 1)) none none) (.one (.sc (.sl))) fun l11 =>
          (.stop k_strings_Join_2 (t_strings_Join_2 a1 ((l6 0).n) ((l11 0).A) ((l11 0).n) ((l11 0).c) (((l11 0).n : Nat) : Int) 0 (jl [(0, .slice Aa0 na0 ca0), (4, (u 4)), (5, .int .i64 x5), (7, (u 7)), (10, (u 10)), (11, (u 11)), (12, (u 12)), (13, (u 13)), (14, (u 14)), (15, (u 15)), (16, (u 16)), (17, (u 17)), (18, (u 18)), (19, (u 19)), (20, (u 20)), (21, (u 21)), (22, (u 22)), (23, (u 23)), (24, (u 24)), (25, (u 25)), (26, (u 26)), (27, (u 27)), (28, (u 28)), (29, (u 29)), (30, (u 30)), (31, (u 31)), (32, (u 32)), (33, (u 33)), (34, (u 34)), (35, (u 35)), (36, (u 36)), (37, (u 37)), (38, (u 38)), (39, .slice Aa0 na0 ca0), (40, .int .i64 ((na0 : Nat) : Int)), (41, .int .i64 x41), (42, .bool (decide ((x41 : Int) < ((na0 : Nat) : Int)))), (43, (u 43)), (44, (u 44)), (45, (u 45)), (46, (u 46)), (47, (u 47)), (48, (u 48)), (49, (u 49)), (50, (u 50)), (51, (u 51)), (52, (u 52)), (53, (u 53)), (54, (u 54)), (55, (u 55)), (56, .int .i64 x5), (57, undef), (58, .slice Aa0 na0 ca0), (59, .pointer (some ((l8 0).a))), (60, .string ((l9 0).s)), (61, .tuple #[.int .i64 ((l10 0).i), (l10 1).v]), (62, .slice Aa0 na0 ca0), (66, (u 66)), (67, (u 67)), (68, (u 68)), (69, (u 69)), (70, (u 70)), (71, (u 71)), (72, (u 72)), (73, (u 73)), (74, (u 74))])))))))))) h) : Wp Tryd.prog 33 k_strings_Join_1 (t_strings_Join_1 Aa0 na0 ca0 a1 x5 x41 u) I h Q :=
  of_tree (cfg := g_strings_Join) 1000 (by kernel_rfl) Tryd.func33 rfl Tryd.checked.mixed hh
set_option maxRecDepth 100000 in
set_option maxHeartbeats 4000000 in
theorem r_strings_Join_2 (a1 : ByteArray) (y8 : Nat) (Ay63 : Option Addr) (ny63 : Nat) (cy63 : Nat) (y64 : Int) (x65 : Int) (u : Nat → Value) {I : Ctx} {h : Mem} {Q : Value → Mem → Prop}
  (hh : holds Tryd.prog 33 I Q
   (.ite (decide ((x65 : Int) < y64))
    (.rd (Instr.indexAt 47 (.slice Ay63 ny63 cy63) (.int .i64 x65)) (.one (.sc (.padr))) fun l12 =>
     (.rd (Instr.loadAt 9 (.pointer (some ((l12 0).a)))) (.one (.sc (.str))) fun l13 =>
      (.call 40 [.pointer (some ⟨y8, 0, none⟩), .string a1] (.tup [(.sc (.int .i64)), (.sc (.v))]) fun l14 => -- strings_Builder_WriteString
       (.call 40 [.pointer (some ⟨y8, 0, none⟩), .string ((l13 0).s)] (.tup [(.sc (.int .i64)), (.sc (.v))]) fun l15 => -- strings_Builder_WriteString
        (.stop k_strings_Join_2 (t_strings_Join_2 a1 y8 Ay63 ny63 cy63 y64 (IntKind.wrap .i64 (x65 + 1)) (jl [(0, (u 0)), (4, (u 4)), (5, (u 5)), (7, (u 7)), (10, .string ((l13 0).s)), (11, (u 11)), (12, (u 12)), (13, (u 13)), (14, (u 14)), (15, (u 15)), (16, (u 16)), (17, (u 17)), (18, (u 18)), (19, (u 19)), (20, (u 20)), (21, (u 21)), (22, (u 22)), (23, (u 23)), (24, (u 24)), (25, (u 25)), (26, (u 26)), (27, (u 27)), (28, (u 28)), (29, (u 29)), (30, (u 30)), (31, (u 31)), (32, (u 32)), (33, (u 33)), (34, (u 34)), (35, (u 35)), (36, (u 36)), (37, (u 37)), (38, (u 38)), (39, (u 39)), (40, (u 40)), (41, (u 41)), (42, (u 42)), (43, (u 43)), (44, (u 44)), (45, (u 45)), (46, (u 46)), (47, (u 47)), (48, (u 48)), (49, (u 49)), (50, (u 50)), (51, (u 51)), (52, (u 52)), (53, (u 53)), (54, (u 54)), (55, (u 55)), (56, (u 56)), (57, (u 57)), (58, (u 58)), (59, (u 59)), (60, (u 60)), (61, (u 61)), (62, (u 62)), (66, .bool (decide ((x65 : Int) < y64))), (67, .pointer (some ((l12 0).a))), (68, .string ((l13 0).s)), (69, .string a1), (70, .tuple #[.int .i64 ((l14 0).i), (l14 1).v]), (71, .string ((l13 0).s)), (72, .tuple #[.int .i64 ((l15 0).i), (l15 1).v]), (73, .int .i64 (IntKind.wrap .i64 (x65 + 1))), (74, (u 74))])))))))
    (.call 41 [.pointer (some ⟨y8, 0, none⟩)] (.one (.sc (.str))) fun l16 => -- strings_Builder_String
     (.done (.string ((l16 0).s))))) h) : Wp Tryd.prog 33 k_strings_Join_2 (t_strings_Join_2 a1 y8 Ay63 ny63 cy63 y64 x65 u) I h Q :=
  of_tree (cfg := g_strings_Join) 1000 (by kernel_rfl) Tryd.func33 rfl Tryd.checked.mixed hh
/-! ### octroiref02_digits: function 34 of Go -/
abbrev F_octroiref02_digits : FuncId := 34
noncomputable def c_octroiref02_digits : Code := (Tryd.f34.body).getD .skip
def p_octroiref02_digits : Nat → List (List Nat) := fun r => match r with | 5 => [[], [0], [0, 1], [], [3], [3, 4], [3, 4, 5], [3, 4, 5, 6], [3, 4, 5, 6, 7], [0, 1, 2, 3, 4, 5, 6, 7, 8], [0, 1, 2, 3, 4, 5, 6, 7, 8, 9]] | _ => []
noncomputable def g_octroiref02_digits : Cfg := { sh := shs, fsh := fshs, results := [.tmp 2], hint := fun r i => match r, i with | 2, 3 => some (true, .one (.sc (.str))) | 4, 4 => some (true, .one (.sc (.str))) | 5, 8 => some (true, .one (.sc (.str))) | 5, 9 => some (true, .one (.sc (.str))) | _, _ => none, ord := fun r => match r with | 5 => some [0, 1, 2, 3, 4, 5, 6, 7, 8, 9, 10] | _ => none, pre := p_octroiref02_digits, un := unOf p_octroiref02_digits, pcall := fun r i => (r == 5 && i == 2) }
set_option maxRecDepth 100000 in
set_option maxHeartbeats 4000000 in
theorem r_octroiref02_digits (a0 : Int) {I : Ctx} {h : Mem} {Q : Value → Mem → Prop}
  (hh : holds Tryd.prog 34 I (cl_ Q)
   (.ite (decide ((a0 : Int) < 0))
    (.call 34 [.int .i64 (IntKind.wrap .i64 (0 - a0))] (.one (.sc (.str))) fun l1 => -- octroiref02_digits
     (.rdn (binN .add 9 (.string (ByteArray.mk #[45])) (.string ((l1 0).s))) (.one (.sc (.str))) fun l2 =>
      (.done (.string ((l2 0).s)))))
    (.ite (decide ((a0 : Int) < 10))
     (.sem (Instr.buildSlice 59 1 #[(0, .int .u8 (IntKind.wrap .u8 (IntKind.wrap .i64 (48 + a0))))]) (.one (.sc (.row 1))) fun l3 =>
      (.rdn (convN 59 9 (.slice (some ⟨(l3 0).n, 0, none⟩) 1 1)) (.one (.sc (.str))) fun l4 =>
       (.done (.string ((l4 0).s)))))
     (.pcall 34 [.int .i64 (IntKind.wrap .i64 (Int.tdiv a0 10))] (.one (.sc (.str))) fun l5 => -- octroiref02_digits
      (.sem (Instr.buildSlice 59 1 #[(0, .int .u8 (IntKind.wrap .u8 (IntKind.wrap .i64 (48 + (Int.tmod a0 10)))))]) (.one (.sc (.row 1))) fun l6 =>
       (.rdn (convN 59 9 (.slice (some ⟨(l6 0).n, 0, none⟩) 1 1)) (.one (.sc (.str))) fun l7 =>
        (.rdn (binN .add 9 (.string ((l5 0).s)) (.string ((l7 0).s))) (.one (.sc (.str))) fun l8 =>
         (.done (.string ((l8 0).s))))))))) h) : Fn Tryd.prog 34 #[.int .i64 a0] I h Q :=
  Wp.fn (args := [.int .i64 a0]) Tryd.func34 rfl (by kernel_rfl) (of_tree (cfg := g_octroiref02_digits) 1000 (by kernel_rfl) Tryd.func34 rfl Tryd.checked.mixed hh)
theorem ca_octroiref02_digits : callable Tryd.prog 34 := ⟨_, Tryd.func34, by kernel_rfl, by kernel_rfl⟩
/-! ### math_bits_LeadingZeros32: function 35 of Go -/
abbrev F_math_bits_LeadingZeros32 : FuncId := 35
noncomputable def c_math_bits_LeadingZeros32 : Code := (Tryd.f35.body).getD .skip
noncomputable def g_math_bits_LeadingZeros32 : Cfg := { sh := shs, fsh := fshs, results := [.tmp 2], hint := fun _ _ => none, ord := fun _ => none, pre := fun _ => [], un := fun _ _ _ => false }
set_option maxRecDepth 100000 in
set_option maxHeartbeats 4000000 in
theorem r_math_bits_LeadingZeros32 (a0 : Int) {I : Ctx} {h : Mem} {Q : Value → Mem → Prop}
  (hh : holds Tryd.prog 35 I (cl_ Q)
   (.call 42 [.int .u32 a0] (.one (.sc (.int .i64))) fun l1 => -- math_bits_Len32
    (.done (.int .i64 (IntKind.wrap .i64 (32 - ((l1 0).i)))))) h) : Fn Tryd.prog 35 #[.int .u32 a0] I h Q :=
  Wp.fn (args := [.int .u32 a0]) Tryd.func35 rfl (by kernel_rfl) (of_tree (cfg := g_math_bits_LeadingZeros32) 1000 (by kernel_rfl) Tryd.func35 rfl Tryd.checked.mixed hh)
theorem ca_math_bits_LeadingZeros32 : callable Tryd.prog 35 := ⟨_, Tryd.func35, by kernel_rfl, by kernel_rfl⟩
/-! ### strings_Cut: function 36 of Go -/
abbrev F_strings_Cut : FuncId := 36
noncomputable def c_strings_Cut : Code := (Tryd.f36.body).getD .skip
noncomputable def g_strings_Cut : Cfg := { sh := shs, fsh := fshs, results := [.tmp 4, .tmp 5, .tmp 6], hint := fun _ _ => none, ord := fun _ => none, pre := fun _ => [], un := fun _ _ _ => false }
set_option maxRecDepth 100000 in
set_option maxHeartbeats 4000000 in
theorem r_strings_Cut (a0 : ByteArray) (a1 : ByteArray) {I : Ctx} {h : Mem} {Q : Value → Mem → Prop}
  (hh : holds Tryd.prog 36 I (cl_ Q)
   (.call 43 [.string a0, .string a1] (.tup [(.sc (.str)), (.sc (.str)), (.sc (.bool))]) fun l1 => -- internal_stringslite_Cut
    (.done (.tuple #[.string ((l1 0).s), .string ((l1 1).s), .bool ((l1 2).b)]))) h) : Fn Tryd.prog 36 #[.string a0, .string a1] I h Q :=
  Wp.fn (args := [.string a0, .string a1]) Tryd.func36 rfl (by kernel_rfl) (of_tree (cfg := g_strings_Cut) 1000 (by kernel_rfl) Tryd.func36 rfl Tryd.checked.mixed hh)
theorem ca_strings_Cut : callable Tryd.prog 36 := ⟨_, Tryd.func36, by kernel_rfl, by kernel_rfl⟩
/-! ### strconv_ParseUint: function 37 of Go -/
abbrev F_strconv_ParseUint : FuncId := 37
noncomputable def c_strconv_ParseUint : Code := (Tryd.f37.body).getD .skip
noncomputable def g_strconv_ParseUint : Cfg := { sh := shs, fsh := fshs, results := [.tmp 6, .tmp 7], hint := fun r i => match r, i with | 2, 1 => some (true, .one (.sc (.bool))) | _, _ => none, ord := fun _ => none, pre := fun _ => [], un := fun _ _ _ => false }
set_option maxRecDepth 100000 in
set_option maxHeartbeats 4000000 in
theorem r_strconv_ParseUint (a0 : ByteArray) (a1 : Int) (a2 : Int) {I : Ctx} {h : Mem} {Q : Value → Mem → Prop}
  (hh : holds Tryd.prog 37 I (cl_ Q)
   (.call 44 [.string a0, .int .i64 a1, .int .i64 a2] (.tup [(.sc (.int .u64)), (.sc (.v))]) fun l1 => -- internal_strconv_ParseUint
    (.rdn (eqN .neq 55 (.tmp 0) (.const (.nilIface)) ((l1 1).v) .nilIface) (.one (.sc (.bool))) fun l2 =>
     (.ite ((l2 0).b)
      (.call 45 [.string (ByteArray.mk #[80, 97, 114, 115, 101, 85, 105, 110, 116]), .string a0, .int .i64 a1, .int .i64 a2, (l1 1).v] (.one (.sc (.v))) fun l3 => -- strconv_toError
       (.done (.tuple #[.int .u64 ((l1 0).i), (l3 0).v])))
      (.done (.tuple #[.int .u64 ((l1 0).i), .nilIface]))))) h) : Fn Tryd.prog 37 #[.string a0, .int .i64 a1, .int .i64 a2] I h Q :=
  Wp.fn (args := [.string a0, .int .i64 a1, .int .i64 a2]) Tryd.func37 rfl (by kernel_rfl) (of_tree (cfg := g_strconv_ParseUint) 1000 (by kernel_rfl) Tryd.func37 rfl Tryd.checked.mixed hh)
theorem ca_strconv_ParseUint : callable Tryd.prog 37 := ⟨_, Tryd.func37, by kernel_rfl, by kernel_rfl⟩
/-! ### internal_strconv_Itoa: function 38 of Go -/
abbrev F_internal_strconv_Itoa : FuncId := 38
noncomputable def c_internal_strconv_Itoa : Code := (Tryd.f38.body).getD .skip
noncomputable def g_internal_strconv_Itoa : Cfg := { sh := shs, fsh := fshs, results := [.tmp 2], hint := fun _ _ => none, ord := fun _ => none, pre := fun _ => [], un := fun _ _ _ => false }
set_option maxRecDepth 100000 in
set_option maxHeartbeats 4000000 in
theorem r_internal_strconv_Itoa (a0 : Int) {I : Ctx} {h : Mem} {Q : Value → Mem → Prop}
  (hh : holds Tryd.prog 38 I (cl_ Q)
   (.call 46 [.int .i64 a0, .int .i64 10] (.one (.sc (.str))) fun l1 => -- internal_strconv_FormatInt
    (.done (.string ((l1 0).s)))) h) : Fn Tryd.prog 38 #[.int .i64 a0] I h Q :=
  Wp.fn (args := [.int .i64 a0]) Tryd.func38 rfl (by kernel_rfl) (of_tree (cfg := g_internal_strconv_Itoa) 1000 (by kernel_rfl) Tryd.func38 rfl Tryd.checked.mixed hh)
theorem ca_internal_strconv_Itoa : callable Tryd.prog 38 := ⟨_, Tryd.func38, by kernel_rfl, by kernel_rfl⟩
/-! ### strings_Builder_Grow: function 39 of Go -/
abbrev F_strings_Builder_Grow : FuncId := 39
noncomputable def c_strings_Builder_Grow : Code := (Tryd.f39.body).getD .skip
def p_strings_Builder_Grow : Nat → List (List Nat) := fun r => match r with | 3 => [[], [0], [0, 1], [0, 1, 2], [0, 1, 2, 3], [], [5], [5, 6], [5, 6, 7], [5, 6, 7, 8], [0, 1, 2, 3, 4, 5, 6, 7, 8, 9], [], [0, 1, 2, 3, 4, 5, 6, 7, 8, 9, 10, 11]] | _ => []
noncomputable def g_strings_Builder_Grow : Cfg := { sh := shs, fsh := fshs, results := [], hint := fun _ _ => none, ord := fun r => match r with | 3 => some [0, 1, 2, 3, 4, 5, 6, 7, 8, 9, 10, 11, 12] | _ => none, pre := p_strings_Builder_Grow, un := unOf p_strings_Builder_Grow }
set_option maxRecDepth 100000 in
set_option maxHeartbeats 4000000 in
theorem r_strings_Builder_Grow (a0 : Addr) (a1 : Int) {I : Ctx} {h : Mem} {Q : Value → Mem → Prop}
  (hh : holds Tryd.prog 39 I (cl_ Q)
   (.call 47 [.pointer (some a0)] (.tup []) fun l1 => -- strings_Builder_copyCheck
    (.ite (decide ((a1 : Int) < 0))
     (.stuck)
     (.rd (Instr.loadAt 59 (.pointer (some (a0.add 1)))) (.one (.sc (.sl))) fun l2 =>
      (.rd (Instr.loadAt 59 (.pointer (some (a0.add 1)))) (.one (.sc (.sl))) fun l3 =>
       (.ite (decide ((IntKind.wrap .i64 ((((l2 0).c : Nat) : Int) - (((l3 0).n : Nat) : Int)) : Int) < a1))
        (.call 48 [.pointer (some a0), .int .i64 a1] (.tup []) fun l4 => -- strings_Builder_grow
         (.done (undef)))
        (.done (undef))))))) h) : Fn Tryd.prog 39 #[.pointer (some a0), .int .i64 a1] I h Q :=
  Wp.fn (args := [.pointer (some a0), .int .i64 a1]) Tryd.func39 rfl (by kernel_rfl) (of_tree (cfg := g_strings_Builder_Grow) 1000 (by kernel_rfl) Tryd.func39 rfl Tryd.checked.mixed hh)
theorem ca_strings_Builder_Grow : callable Tryd.prog 39 := ⟨_, Tryd.func39, by kernel_rfl, by kernel_rfl⟩
/-! ### strings_Builder_WriteString: function 40 of Go -/
abbrev F_strings_Builder_WriteString : FuncId := 40
noncomputable def c_strings_Builder_WriteString : Code := (Tryd.f40.body).getD .skip
noncomputable def g_strings_Builder_WriteString : Cfg := { sh := shs, fsh := fshs, results := [.tmp 4, .tmp 5], hint := fun _ _ => none, ord := fun _ => none, pre := fun _ => [], un := fun _ _ _ => false }
set_option maxRecDepth 100000 in
set_option maxHeartbeats 4000000 in
theorem r_strings_Builder_WriteString (a0 : Addr) (a1 : ByteArray) {I : Ctx} {h : Mem} {Q : Value → Mem → Prop}
  (hh : holds Tryd.prog 40 I (cl_ Q)
   (.call 47 [.pointer (some a0)] (.tup []) fun l1 => -- strings_Builder_copyCheck
    (.rd (Instr.loadAt 59 (.pointer (some (a0.add 1)))) (.one (.sc (.sl))) fun l2 =>
     (.nx (builtin .append #[59, 9] 59 #[false, false] #[.slice ((l2 0).A) ((l2 0).n) ((l2 0).c), .string a1]) (.one (.sc (.sl))) fun l3 =>
      (.unit (Instr.storeAt 59 (.pointer (some (a0.add 1))) (.slice ((l3 0).A) ((l3 0).n) ((l3 0).c)))
       (.done (.tuple #[.int .i64 ((a1.size : Nat) : Int), .nilIface])))))) h) : Fn Tryd.prog 40 #[.pointer (some a0), .string a1] I h Q :=
  Wp.fn (args := [.pointer (some a0), .string a1]) Tryd.func40 rfl (by kernel_rfl) (of_tree (cfg := g_strings_Builder_WriteString) 1000 (by kernel_rfl) Tryd.func40 rfl Tryd.checked.mixed hh)
theorem ca_strings_Builder_WriteString : callable Tryd.prog 40 := ⟨_, Tryd.func40, by kernel_rfl, by kernel_rfl⟩
/-! ### strings_Builder_String: function 41 of Go -/
abbrev F_strings_Builder_String : FuncId := 41
noncomputable def c_strings_Builder_String : Code := (Tryd.f41.body).getD .skip
def p_strings_Builder_String : Nat → List (List Nat) := fun r => match r with | 1 => [[], [0], [0, 1], [0, 1, 2], [0, 1, 2, 3], [], [5], [5, 6], [5, 6, 7], [5, 6, 7, 8], [0, 1, 2, 3, 4, 5, 6, 7, 8, 9], [0, 1, 2, 3, 4, 5, 6, 7, 8, 9, 10]] | _ => []
noncomputable def g_strings_Builder_String : Cfg := { sh := shs, fsh := fshs, results := [.tmp 2], hint := fun _ _ => none, ord := fun r => match r with | 1 => some [0, 1, 2, 3, 5, 6, 7, 8, 9, 4, 10, 11] | _ => none, pre := p_strings_Builder_String, un := unOf p_strings_Builder_String }
set_option maxRecDepth 100000 in
set_option maxHeartbeats 4000000 in
theorem r_strings_Builder_String (a0 : Addr) {I : Ctx} {h : Mem} {Q : Value → Mem → Prop}
  (hh : holds Tryd.prog 41 I (cl_ Q)
   (.rd (Instr.loadAt 59 (.pointer (some (a0.add 1)))) (.one (.sc (.sl))) fun l1 =>
    (.rd (Instr.loadAt 59 (.pointer (some (a0.add 1)))) (.one (.sc (.sl))) fun l2 =>
     (.nx (builtin .unsafeSliceData #[59] 68 #[false] #[.slice ((l1 0).A) ((l1 0).n) ((l1 0).c)]) (.one (.sc (.ptr))) fun l3 =>
      (.pin (vN (Instr.loadAt 59 (.pointer (some (a0.add 1))))) (.slice ((l2 0).A) ((l2 0).n) ((l2 0).c))
       (.nx (builtin .unsafeString #[68, 3] 9 #[false, false] #[.pointer ((l3 0).A), .int .i64 (((l2 0).n : Nat) : Int)]) (.one (.sc (.str))) fun l4 =>
        (.done (.string ((l4 0).s)))))))) h) : Fn Tryd.prog 41 #[.pointer (some a0)] I h Q :=
  Wp.fn (args := [.pointer (some a0)]) Tryd.func41 rfl (by kernel_rfl) (of_tree (cfg := g_strings_Builder_String) 1000 (by kernel_rfl) Tryd.func41 rfl Tryd.checked.mixed hh)
theorem ca_strings_Builder_String : callable Tryd.prog 41 := ⟨_, Tryd.func41, by kernel_rfl, by kernel_rfl⟩
/-! ### math_bits_Len32: function 42 of Go -/
abbrev F_math_bits_Len32 : FuncId := 42
noncomputable def c_math_bits_Len32 : Code := (Tryd.f42.body).getD .skip
noncomputable def g_math_bits_Len32 : Cfg := { sh := shs, fsh := fshs, results := [.tmp 2], hint := fun _ _ => none, ord := fun _ => none, pre := fun _ => [], un := fun _ _ _ => false }
set_option maxRecDepth 100000 in
set_option maxHeartbeats 4000000 in
theorem r_math_bits_Len32 (a0 : Int) {I : Ctx} {h : Mem} {Q : Value → Mem → Prop}
  (hh : holds Tryd.prog 42 I (cl_ Q)
   (.ite (decide ((a0 : Int) ≥ 65536))
    (.ite (decide ((Int.fdiv a0 (2 ^ 16) : Int) ≥ 256))
     (.rd (Instr.index 9 (.string (ByteArray.mk #[0, 1, 2, 2, 3, 3, 3, 3, 4, 4, 4, 4, 4, 4, 4, 4, 5, 5, 5, 5, 5, 5, 5, 5, 5, 5, 5, 5, 5, 5, 5, 5, 6, 6, 6, 6, 6, 6, 6, 6, 6, 6, 6, 6, 6, 6, 6, 6, 6, 6, 6, 6, 6, 6, 6, 6, 6, 6, 6, 6, 6, 6, 6, 6, 7, 7, 7, 7, 7, 7, 7, 7, 7, 7, 7, 7, 7, 7, 7, 7, 7, 7, 7, 7, 7, 7, 7, 7, 7, 7, 7, 7, 7, 7, 7, 7, 7, 7, 7, 7, 7, 7, 7, 7, 7, 7, 7, 7, 7, 7, 7, 7, 7, 7, 7, 7, 7, 7, 7, 7, 7, 7, 7, 7, 7, 7, 7, 7, 8, 8, 8, 8, 8, 8, 8, 8, 8, 8, 8, 8, 8, 8, 8, 8, 8, 8, 8, 8, 8, 8, 8, 8, 8, 8, 8, 8, 8, 8, 8, 8, 8, 8, 8, 8, 8, 8, 8, 8, 8, 8, 8, 8, 8, 8, 8, 8, 8, 8, 8, 8, 8, 8, 8, 8, 8, 8, 8, 8, 8, 8, 8, 8, 8, 8, 8, 8, 8, 8, 8, 8, 8, 8, 8, 8, 8, 8, 8, 8, 8, 8, 8, 8, 8, 8, 8, 8, 8, 8, 8, 8, 8, 8, 8, 8, 8, 8, 8, 8, 8, 8, 8, 8, 8, 8, 8, 8, 8, 8, 8, 8, 8, 8, 8, 8, 8, 8, 8, 8, 8, 8, 8, 8, 8, 8, 8, 8])) (.int .u8 (IntKind.wrap .u8 (Int.fdiv (Int.fdiv a0 (2 ^ 16)) (2 ^ 8))))) (.one (.sc (.int .u8))) fun l1 =>
      (.done (.int .i64 (IntKind.wrap .i64 ((IntKind.wrap .i64 (16 + 8)) + (IntKind.wrap .i64 ((l1 0).i)))))))
     (.rd (Instr.index 9 (.string (ByteArray.mk #[0, 1, 2, 2, 3, 3, 3, 3, 4, 4, 4, 4, 4, 4, 4, 4, 5, 5, 5, 5, 5, 5, 5, 5, 5, 5, 5, 5, 5, 5, 5, 5, 6, 6, 6, 6, 6, 6, 6, 6, 6, 6, 6, 6, 6, 6, 6, 6, 6, 6, 6, 6, 6, 6, 6, 6, 6, 6, 6, 6, 6, 6, 6, 6, 7, 7, 7, 7, 7, 7, 7, 7, 7, 7, 7, 7, 7, 7, 7, 7, 7, 7, 7, 7, 7, 7, 7, 7, 7, 7, 7, 7, 7, 7, 7, 7, 7, 7, 7, 7, 7, 7, 7, 7, 7, 7, 7, 7, 7, 7, 7, 7, 7, 7, 7, 7, 7, 7, 7, 7, 7, 7, 7, 7, 7, 7, 7, 7, 8, 8, 8, 8, 8, 8, 8, 8, 8, 8, 8, 8, 8, 8, 8, 8, 8, 8, 8, 8, 8, 8, 8, 8, 8, 8, 8, 8, 8, 8, 8, 8, 8, 8, 8, 8, 8, 8, 8, 8, 8, 8, 8, 8, 8, 8, 8, 8, 8, 8, 8, 8, 8, 8, 8, 8, 8, 8, 8, 8, 8, 8, 8, 8, 8, 8, 8, 8, 8, 8, 8, 8, 8, 8, 8, 8, 8, 8, 8, 8, 8, 8, 8, 8, 8, 8, 8, 8, 8, 8, 8, 8, 8, 8, 8, 8, 8, 8, 8, 8, 8, 8, 8, 8, 8, 8, 8, 8, 8, 8, 8, 8, 8, 8, 8, 8, 8, 8, 8, 8, 8, 8, 8, 8, 8, 8, 8, 8])) (.int .u8 (IntKind.wrap .u8 (Int.fdiv a0 (2 ^ 16))))) (.one (.sc (.int .u8))) fun l2 =>
      (.done (.int .i64 (IntKind.wrap .i64 (16 + (IntKind.wrap .i64 ((l2 0).i))))))))
    (.ite (decide ((a0 : Int) ≥ 256))
     (.rd (Instr.index 9 (.string (ByteArray.mk #[0, 1, 2, 2, 3, 3, 3, 3, 4, 4, 4, 4, 4, 4, 4, 4, 5, 5, 5, 5, 5, 5, 5, 5, 5, 5, 5, 5, 5, 5, 5, 5, 6, 6, 6, 6, 6, 6, 6, 6, 6, 6, 6, 6, 6, 6, 6, 6, 6, 6, 6, 6, 6, 6, 6, 6, 6, 6, 6, 6, 6, 6, 6, 6, 7, 7, 7, 7, 7, 7, 7, 7, 7, 7, 7, 7, 7, 7, 7, 7, 7, 7, 7, 7, 7, 7, 7, 7, 7, 7, 7, 7, 7, 7, 7, 7, 7, 7, 7, 7, 7, 7, 7, 7, 7, 7, 7, 7, 7, 7, 7, 7, 7, 7, 7, 7, 7, 7, 7, 7, 7, 7, 7, 7, 7, 7, 7, 7, 8, 8, 8, 8, 8, 8, 8, 8, 8, 8, 8, 8, 8, 8, 8, 8, 8, 8, 8, 8, 8, 8, 8, 8, 8, 8, 8, 8, 8, 8, 8, 8, 8, 8, 8, 8, 8, 8, 8, 8, 8, 8, 8, 8, 8, 8, 8, 8, 8, 8, 8, 8, 8, 8, 8, 8, 8, 8, 8, 8, 8, 8, 8, 8, 8, 8, 8, 8, 8, 8, 8, 8, 8, 8, 8, 8, 8, 8, 8, 8, 8, 8, 8, 8, 8, 8, 8, 8, 8, 8, 8, 8, 8, 8, 8, 8, 8, 8, 8, 8, 8, 8, 8, 8, 8, 8, 8, 8, 8, 8, 8, 8, 8, 8, 8, 8, 8, 8, 8, 8, 8, 8, 8, 8, 8, 8, 8, 8])) (.int .u8 (IntKind.wrap .u8 (Int.fdiv a0 (2 ^ 8))))) (.one (.sc (.int .u8))) fun l3 =>
      (.done (.int .i64 (IntKind.wrap .i64 ((IntKind.wrap .i64 (0 + 8)) + (IntKind.wrap .i64 ((l3 0).i)))))))
     (.rd (Instr.index 9 (.string (ByteArray.mk #[0, 1, 2, 2, 3, 3, 3, 3, 4, 4, 4, 4, 4, 4, 4, 4, 5, 5, 5, 5, 5, 5, 5, 5, 5, 5, 5, 5, 5, 5, 5, 5, 6, 6, 6, 6, 6, 6, 6, 6, 6, 6, 6, 6, 6, 6, 6, 6, 6, 6, 6, 6, 6, 6, 6, 6, 6, 6, 6, 6, 6, 6, 6, 6, 7, 7, 7, 7, 7, 7, 7, 7, 7, 7, 7, 7, 7, 7, 7, 7, 7, 7, 7, 7, 7, 7, 7, 7, 7, 7, 7, 7, 7, 7, 7, 7, 7, 7, 7, 7, 7, 7, 7, 7, 7, 7, 7, 7, 7, 7, 7, 7, 7, 7, 7, 7, 7, 7, 7, 7, 7, 7, 7, 7, 7, 7, 7, 7, 8, 8, 8, 8, 8, 8, 8, 8, 8, 8, 8, 8, 8, 8, 8, 8, 8, 8, 8, 8, 8, 8, 8, 8, 8, 8, 8, 8, 8, 8, 8, 8, 8, 8, 8, 8, 8, 8, 8, 8, 8, 8, 8, 8, 8, 8, 8, 8, 8, 8, 8, 8, 8, 8, 8, 8, 8, 8, 8, 8, 8, 8, 8, 8, 8, 8, 8, 8, 8, 8, 8, 8, 8, 8, 8, 8, 8, 8, 8, 8, 8, 8, 8, 8, 8, 8, 8, 8, 8, 8, 8, 8, 8, 8, 8, 8, 8, 8, 8, 8, 8, 8, 8, 8, 8, 8, 8, 8, 8, 8, 8, 8, 8, 8, 8, 8, 8, 8, 8, 8, 8, 8, 8, 8, 8, 8, 8, 8])) (.int .u8 (IntKind.wrap .u8 a0))) (.one (.sc (.int .u8))) fun l4 =>
      (.done (.int .i64 (IntKind.wrap .i64 (0 + (IntKind.wrap .i64 ((l4 0).i))))))))) h) : Fn Tryd.prog 42 #[.int .u32 a0] I h Q :=
  Wp.fn (args := [.int .u32 a0]) Tryd.func42 rfl (by kernel_rfl) (of_tree (cfg := g_math_bits_Len32) 1000 (by kernel_rfl) Tryd.func42 rfl Tryd.checked.mixed hh)
theorem ca_math_bits_Len32 : callable Tryd.prog 42 := ⟨_, Tryd.func42, by kernel_rfl, by kernel_rfl⟩
/-! ### internal_stringslite_Cut: function 43 of Go -/
abbrev F_internal_stringslite_Cut : FuncId := 43
noncomputable def c_internal_stringslite_Cut : Code := (Tryd.f43.body).getD .skip
def p_internal_stringslite_Cut : Nat → List (List Nat) := fun r => match r with | 3 => [[], [], [0, 1], [], [], [], [5], [4, 5, 6], [3, 4, 5, 6, 7], [0, 1, 2], [0, 1, 2, 3, 4, 5, 6, 7, 8, 9], [0, 1, 2, 3, 4, 5, 6, 7, 8, 9, 10]] | _ => []
noncomputable def g_internal_stringslite_Cut : Cfg := { sh := shs, fsh := fshs, results := [.tmp 4, .tmp 5, .tmp 6], hint := fun _ _ => none, ord := fun r => match r with | 3 => some [0, 1, 2, 3, 4, 5, 6, 7, 8, 9, 10, 11] | _ => none, pre := p_internal_stringslite_Cut, un := unOf p_internal_stringslite_Cut }
set_option maxRecDepth 100000 in
set_option maxHeartbeats 4000000 in
theorem r_internal_stringslite_Cut (a0 : ByteArray) (a1 : ByteArray) {I : Ctx} {h : Mem} {Q : Value → Mem → Prop}
  (hh : holds Tryd.prog 43 I (cl_ Q)
   (.call 49 [.string a0, .string a1] (.one (.sc (.int .i64))) fun l1 => -- internal_stringslite_Index
    (.ite (decide (((l1 0).i : Int) ≥ 0))
     (.rd (Instr.sliceAt 9 (.string a0) none (some (.int .i64 ((l1 0).i))) none) (.one (.sc (.str))) fun l2 =>
      (.rd (Instr.sliceAt 9 (.string a0) (some (.int .i64 (IntKind.wrap .i64 (((l1 0).i) + ((a1.size : Nat) : Int))))) none none) (.one (.sc (.str))) fun l3 =>
       (.done (.tuple #[.string ((l2 0).s), .string ((l3 0).s), .bool true]))))
     (.done (.tuple #[.string a0, .string (ByteArray.mk #[]), .bool false])))) h) : Fn Tryd.prog 43 #[.string a0, .string a1] I h Q :=
  Wp.fn (args := [.string a0, .string a1]) Tryd.func43 rfl (by kernel_rfl) (of_tree (cfg := g_internal_stringslite_Cut) 1000 (by kernel_rfl) Tryd.func43 rfl Tryd.checked.mixed hh)
theorem ca_internal_stringslite_Cut : callable Tryd.prog 43 := ⟨_, Tryd.func43, by kernel_rfl, by kernel_rfl⟩
end Go.Proofs.YtenlioajflbegaaDoorS
