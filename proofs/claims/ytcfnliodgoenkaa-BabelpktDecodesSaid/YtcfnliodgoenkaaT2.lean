import Derived.Test.YtcfnliodgoenkaaT0
set_option linter.unusedVariables false
namespace Go.Proofs.YtcfnliodgoenkaaS
/-! ### babelpkt_reader_update: function 52 of Go -/
abbrev F_babelpkt_reader_update : FuncId := 52
noncomputable def c_babelpkt_reader_update : Code := (Try.f52.body).getD .skip
def p_babelpkt_reader_update : Nat → List (List Nat) := fun r => match r with | 3 => [[], [0], [0, 1], [0, 1, 2], [], [4], [4, 5], [4, 5, 6], [0, 1, 2, 3], [0, 1, 2, 3, 4, 5, 6, 7, 8]] | 7 => [[], [], [1], [1, 2], [1, 2, 3], [1, 2, 3, 4], [1, 2, 3, 4, 5], [], [1, 2, 3, 4, 5, 6, 7], [], [], [10], [9, 10, 11], [1, 2, 3, 4, 5, 6, 7, 8, 9, 10, 11, 12], [1, 2, 3, 4, 5, 6, 7, 8, 9, 10, 11, 12, 13], [0, 1, 2, 3, 4, 5, 6, 7, 8, 9, 10, 11, 12, 13, 14], [0, 1, 2, 3, 4, 5, 6, 7, 8, 9, 10, 11, 12, 13, 14, 15], [0, 1, 2, 3, 4, 5, 6, 7, 8, 9, 10, 11, 12, 13, 14, 15, 16], [0, 1, 2, 3, 4, 5, 6, 7, 8, 9, 10, 11, 12, 13, 14, 15, 16], [], [0, 1, 2, 3, 4, 5, 6, 7, 8, 9, 10, 11, 12, 13, 14, 15, 16, 17, 19], [0, 1, 2, 3, 4, 5, 6, 7, 8, 9, 10, 11, 12, 13, 14, 15, 16, 17, 18, 19, 20]] | 8 => [[], [0], [], [0, 1, 2], [0, 1, 2, 3], [], [0, 1, 2, 3, 5], [], [], [8], [8, 9], [8, 9, 10], [8, 9, 10, 11], [0, 1, 2, 3, 4, 5, 6, 7, 8, 9, 10, 11, 12], [], [0, 1, 2, 3, 4, 5, 6, 7, 8, 9, 10, 11, 12, 13, 14]] | 15 => [[], [], [], [2], [], [4], [4, 5], [4, 5, 6], [], [8], [4, 5, 6, 7, 8, 9], [0, 2, 3, 4, 5, 6, 7, 8, 9, 10], [0, 2, 3, 4, 5, 6, 7, 8, 9, 10, 11], [0, 2, 3, 4, 5, 6, 7, 8, 9, 10, 11, 12], [0, 2, 3, 4, 5, 6, 7, 8, 9, 10, 11, 12, 13], [0, 1, 2, 3, 4, 5, 6, 7, 8, 9, 10, 11, 12, 13, 14], [0, 1, 2, 3, 4, 5, 6, 7, 8, 9, 10, 11, 12, 13, 14, 15], [0, 1, 2, 3, 4, 5, 6, 7, 8, 9, 10, 11, 12, 13, 14, 15, 16]] | _ => []
noncomputable def g_babelpkt_reader_update : Cfg := { sh := shs, fsh := fshs, results := [.tmp 4], hint := fun _ _ => none, ord := fun r => match r with | 3 => some [0, 1, 2, 3, 4, 5, 6, 7, 8, 9] | 7 => some [0, 1, 2, 3, 4, 5, 7, 9, 10, 11, 12, 6, 8, 13, 14, 15, 16, 17, 18, 19, 20, 21] | 8 => some [0, 2, 5, 7, 8, 9, 10, 11, 12, 1, 3, 4, 6, 13, 14, 15] | 15 => some [0, 1, 2, 3, 4, 5, 6, 7, 8, 9, 10, 11, 12, 13, 14, 15, 16, 17] | _ => none, pre := p_babelpkt_reader_update, un := unOf p_babelpkt_reader_update }
set_option maxRecDepth 100000 in
set_option maxHeartbeats 4000000 in
theorem r_babelpkt_reader_update (a0 : Addr) (Aa1 : Option Addr) (na1 : Nat) (ca1 : Nat) {I : Ctx} {h : Mem} {Q : Value → Mem → Prop}
  (hh : holds Try.prog 52 I (cl_ Q)
   (.rd (Instr.loadAt 4 (.pointer (some (a0.add 2)))) (.one (.sc (.bool))) fun l1 =>
    (.ite (!((l1 0).b))
     (.done (.bool false))
     (.ite (decide ((((na1 : Nat) : Int) : Int) < 10))
      (.done (.bool false))
      (.rd (Instr.indexAt 25 (.slice Aa1 na1 ca1) (.int .i64 0)) (.one (.sc (.padr))) fun l2 =>
       (.rd (Instr.loadAt 5 (.pointer (some ((l2 0).a)))) (.one (.sc (.int .u8))) fun l3 =>
        (.ite (((l3 0).i : Int) != 1)
         (.done (.bool false))
         (.rd (Instr.indexAt 25 (.slice Aa1 na1 ca1) (.int .i64 1)) (.one (.sc (.padr))) fun l4 =>
          (.rd (Instr.loadAt 5 (.pointer (some ((l4 0).a)))) (.one (.sc (.int .u8))) fun l5 =>
           (.ite (((l5 0).i : Int) != 128)
            (.done (.bool false))
            (.rd (Instr.indexAt 25 (.slice Aa1 na1 ca1) (.int .i64 2)) (.one (.sc (.padr))) fun l6 =>
             (.rd (Instr.loadAt 5 (.pointer (some ((l6 0).a)))) (.one (.sc (.int .u8))) fun l7 =>
              (.ite (decide (((l7 0).i : Int) > 32))
               (.done (.bool false))
               (.rd (Instr.indexAt 25 (.slice Aa1 na1 ca1) (.int .i64 2)) (.one (.sc (.padr))) fun l8 =>
                (.rd (Instr.loadAt 5 (.pointer (some ((l8 0).a)))) (.one (.sc (.int .u8))) fun l9 =>
                 (.rd (Instr.indexAt 25 (.slice Aa1 na1 ca1) (.int .i64 3)) (.one (.sc (.padr))) fun l10 =>
                  (.rd (Instr.loadAt 5 (.pointer (some ((l10 0).a)))) (.one (.sc (.int .u8))) fun l11 =>
                   (.call 59 [.int .i64 (IntKind.wrap .i64 ((l9 0).i))] (.one (.sc (.int .i64))) fun l12 => -- babelpkt_needs
                    (.ite (decide ((IntKind.wrap .i64 (((l12 0).i) - (IntKind.wrap .i64 ((l11 0).i))) : Int) < 0))
                     (.done (.bool false))
                     (.ite (decide ((((na1 : Nat) : Int) : Int) < (IntKind.wrap .i64 (10 + (IntKind.wrap .i64 (((l12 0).i) - (IntKind.wrap .i64 ((l11 0).i))))))))
                      (.done (.bool false))
                      (.rd (Instr.loadAt 23 (.pointer (some (a0.add 3)))) (.one (.sc (.int .u32))) fun l13 =>
                       (.rd (Instr.sliceAt 25 (.slice Aa1 na1 ca1) (some (.int .i64 10)) (some (.int .i64 (IntKind.wrap .i64 (10 + (IntKind.wrap .i64 (((l12 0).i) - (IntKind.wrap .i64 ((l11 0).i)))))))) none) (.one (.sc (.sl))) fun l14 =>
                        (.call 31 [.int .u32 ((l13 0).i)] (.one (.sc (.sl))) fun l15 => -- num_Put32
                         (.pin (vN (Instr.sliceAt 25 (.slice Aa1 na1 ca1) (some (.int .i64 10)) (some (.int .i64 (IntKind.wrap .i64 (10 + (IntKind.wrap .i64 (((l12 0).i) - (IntKind.wrap .i64 ((l11 0).i)))))))) none)) (.slice ((l14 0).A) ((l14 0).n) ((l14 0).c))
                          (.rd (Instr.sliceAt 25 (.slice ((l15 0).A) ((l15 0).n) ((l15 0).c)) none (some (.int .i64 (IntKind.wrap .i64 ((l11 0).i)))) none) (.one (.sc (.sl))) fun l16 =>
                           (.sem (Instr.buildSlice 73 2 #[(0, .slice ((l16 0).A) ((l16 0).n) ((l16 0).c)), (1, .slice ((l14 0).A) ((l14 0).n) ((l14 0).c))]) (.one (.sc (.row 2))) fun l17 =>
                            (.call 23 [.slice (some ⟨(l17 0).n, 0, none⟩) 2 2] (.one (.sc (.sl))) fun l18 => -- slices_Concat_byte
                             (.call 63 [.int .i64 (IntKind.wrap .i64 ((l9 0).i)), .slice ((l18 0).A) ((l18 0).n) ((l18 0).c)] (.tup [.agg [.int .u32, .int .i64], (.sc (.bool))]) fun l19 => -- babelpkt_prefixOf
                              (.sem (Instr.alloc 34 true (.tuple #[])) shBlk fun l20 =>
                               (.unit (Instr.storeAt 34 (.pointer (some ⟨(l20 0).n, 0, none⟩)) (.agg #[.int .u32 ((l19 0).i), .int .i64 ((l19 1).i)]))
                                (.rd (Instr.loadAt 34 (.pointer (some ⟨(l20 0).n, 0, none⟩))) (.one (.agg [.int .u32, .int .i64])) fun l21 =>
                                 (.rd (Instr.loadAt 35 (.pointer (some (a0.add 1)))) (.one (.sc (.int .u64))) fun l22 =>
                                  (.call 33 [.slice Aa1 na1 ca1, .int .i64 4] (.one (.sc (.int .i64))) fun l23 => -- babelpkt_at2
                                   (.pin (vN (Instr.loadAt 35 (.pointer (some (a0.add 1))))) (.int .u64 ((l22 0).i))
                                    (.pin (vN (Instr.loadAt 34 (.pointer (some ⟨(l20 0).n, 0, none⟩)))) (.agg #[.int .u32 ((l21 0).i), .int .i64 ((l21 1).i)])
                                     (.call 33 [.slice Aa1 na1 ca1, .int .i64 6] (.one (.sc (.int .i64))) fun l24 => -- babelpkt_at2
                                      (.pin (vN (Instr.loadAt 35 (.pointer (some (a0.add 1))))) (.int .u64 ((l22 0).i))
                                       (.pin (vN (Instr.loadAt 34 (.pointer (some ⟨(l20 0).n, 0, none⟩)))) (.agg #[.int .u32 ((l21 0).i), .int .i64 ((l21 1).i)])
                                        (.call 33 [.slice Aa1 na1 ca1, .int .i64 8] (.one (.sc (.int .i64))) fun l25 => -- babelpkt_at2
                                         (.pin (vN (Instr.loadAt 35 (.pointer (some (a0.add 1))))) (.int .u64 ((l22 0).i))
                                          (.pin (vN (Instr.loadAt 34 (.pointer (some ⟨(l20 0).n, 0, none⟩)))) (.agg #[.int .u32 ((l21 0).i), .int .i64 ((l21 1).i)])
                                           (.sem (Instr.alloc 37 true (.tuple #[])) shBlk fun l26 =>
                                            (.unit (Instr.storeAt 37 (.pointer (some ⟨(l26 0).n, 0, none⟩)) (.agg #[.int .i64 2, .int .u16 (IntKind.wrap .u16 ((l24 0).i)), .int .i64 ((l23 0).i), .int .i64 ((l25 0).i), .int .u32 ((l21 0).i), .int .i64 ((l21 1).i), .int .u64 ((l22 0).i), .int .u16 0, .int .i64 0]))
                                             (.rd (Instr.sliceAt 25 (.slice Aa1 na1 ca1) (some (.int .i64 (IntKind.wrap .i64 (10 + (IntKind.wrap .i64 (((l12 0).i) - (IntKind.wrap .i64 ((l11 0).i)))))))) none none) (.one (.sc (.sl))) fun l27 =>
                                              (.ite (decide (((((l27 0).n : Nat) : Int) : Int) > 0))
                                               (.ite (((((l27 0).n : Nat) : Int) : Int) != 4)
                                                (.done (.bool false))
                                                (.rd (Instr.indexAt 25 (.slice ((l27 0).A) ((l27 0).n) ((l27 0).c)) (.int .i64 0)) (.one (.sc (.padr))) fun l28 =>
                                                 (.rd (Instr.loadAt 5 (.pointer (some ((l28 0).a)))) (.one (.sc (.int .u8))) fun l29 =>
                                                  (.ite (((l29 0).i : Int) != 200)
                                                   (.done (.bool false))
                                                   (.rd (Instr.indexAt 25 (.slice ((l27 0).A) ((l27 0).n) ((l27 0).c)) (.int .i64 1)) (.one (.sc (.padr))) fun l30 =>
                                                    (.rd (Instr.loadAt 5 (.pointer (some ((l30 0).a)))) (.one (.sc (.int .u8))) fun l31 =>
                                                     (.ite (((l31 0).i : Int) != 2)
                                                      (.done (.bool false))
                                                      (.call 33 [.slice ((l27 0).A) ((l27 0).n) ((l27 0).c), .int .i64 2] (.one (.sc (.int .i64))) fun l32 => -- babelpkt_at2
                                                       (.unit (Instr.storeAt 32 (.pointer (some ⟨(l26 0).n, 7, none⟩)) (.int .u16 (IntKind.wrap .u16 ((l32 0).i))))
                                                        (.ite ((l19 2).b)
                                                         (.rd (Instr.loadAt 32 (.pointer (some ⟨(l26 0).n, 7, none⟩))) (.one (.sc (.int .u16))) fun l33 =>
                                                          (.rd (Instr.loadAt 23 (.pointer (some ⟨(l20 0).n, 0, none⟩))) (.one (.sc (.int .u32))) fun l34 =>
                                                           (.rd (Instr.loadAt 22 (.pointer (some (a0.add 4)))) (.one (.sc (.sl))) fun l35 =>
                                                            (.rd (Instr.loadAt 37 (.pointer (some ⟨(l26 0).n, 0, none⟩))) (.one (.agg [.int .i64, .int .u16, .int .i64, .int .i64, .int .u32, .int .i64, .int .u64, .int .u16, .int .i64])) fun l36 =>
                                                             (.sem (Instr.buildSlice 22 1 #[(0, .agg #[.int .i64 ((l36 0).i), .int .u16 ((l36 1).i), .int .i64 ((l36 2).i), .int .i64 ((l36 3).i), .int .u32 ((l36 4).i), .int .i64 ((l36 5).i), .int .u64 ((l36 6).i), .int .u16 ((l36 7).i), .int .i64 ((l36 8).i)])]) (.one (.sc (.row 1))) fun l37 =>
                                                              (.nx (builtin .append #[22, 22] 22 #[false, false] #[.slice ((l35 0).A) ((l35 0).n) ((l35 0).c), .slice (some ⟨(l37 0).n, 0, none⟩) 1 1]) (.one (.sc (.sl))) fun l38 =>
                                                               (.pin (vN (Instr.loadAt 23 (.pointer (some ⟨(l20 0).n, 0, none⟩)))) (.int .u32 ((l34 0).i))
                                                                (.unit (Instr.storeAt 23 (.pointer (some (a0.add 3))) (.int .u32 ((l34 0).i)))
                                                                 (.unit (Instr.storeAt 22 (.pointer (some (a0.add 4))) (.slice ((l38 0).A) ((l38 0).n) ((l38 0).c)))
                                                                  (.done (.bool (((l33 0).i : Int) != 0))))))))))))
                                                         (.rd (Instr.loadAt 23 (.pointer (some ⟨(l20 0).n, 0, none⟩))) (.one (.sc (.int .u32))) fun l39 =>
                                                          (.rd (Instr.loadAt 22 (.pointer (some (a0.add 4)))) (.one (.sc (.sl))) fun l40 =>
                                                           (.rd (Instr.loadAt 37 (.pointer (some ⟨(l26 0).n, 0, none⟩))) (.one (.agg [.int .i64, .int .u16, .int .i64, .int .i64, .int .u32, .int .i64, .int .u64, .int .u16, .int .i64])) fun l41 =>
                                                            (.sem (Instr.buildSlice 22 1 #[(0, .agg #[.int .i64 ((l41 0).i), .int .u16 ((l41 1).i), .int .i64 ((l41 2).i), .int .i64 ((l41 3).i), .int .u32 ((l41 4).i), .int .i64 ((l41 5).i), .int .u64 ((l41 6).i), .int .u16 ((l41 7).i), .int .i64 ((l41 8).i)])]) (.one (.sc (.row 1))) fun l42 =>
                                                             (.nx (builtin .append #[22, 22] 22 #[false, false] #[.slice ((l40 0).A) ((l40 0).n) ((l40 0).c), .slice (some ⟨(l42 0).n, 0, none⟩) 1 1]) (.one (.sc (.sl))) fun l43 =>
                                                              (.pin (vN (Instr.loadAt 23 (.pointer (some ⟨(l20 0).n, 0, none⟩)))) (.int .u32 ((l39 0).i))
                                                               (.unit (Instr.storeAt 23 (.pointer (some (a0.add 3))) (.int .u32 ((l39 0).i)))
                                                                (.unit (Instr.storeAt 22 (.pointer (some (a0.add 4))) (.slice ((l43 0).A) ((l43 0).n) ((l43 0).c)))
                                                                 (.done (.bool false))))))))))))))))))))
                                               (.rd (Instr.loadAt 23 (.pointer (some ⟨(l20 0).n, 0, none⟩))) (.one (.sc (.int .u32))) fun l44 =>
                                                (.rd (Instr.loadAt 22 (.pointer (some (a0.add 4)))) (.one (.sc (.sl))) fun l45 =>
                                                 (.rd (Instr.loadAt 37 (.pointer (some ⟨(l26 0).n, 0, none⟩))) (.one (.agg [.int .i64, .int .u16, .int .i64, .int .i64, .int .u32, .int .i64, .int .u64, .int .u16, .int .i64])) fun l46 =>
                                                  (.sem (Instr.buildSlice 22 1 #[(0, .agg #[.int .i64 ((l46 0).i), .int .u16 ((l46 1).i), .int .i64 ((l46 2).i), .int .i64 ((l46 3).i), .int .u32 ((l46 4).i), .int .i64 ((l46 5).i), .int .u64 ((l46 6).i), .int .u16 ((l46 7).i), .int .i64 ((l46 8).i)])]) (.one (.sc (.row 1))) fun l47 =>
                                                   (.nx (builtin .append #[22, 22] 22 #[false, false] #[.slice ((l45 0).A) ((l45 0).n) ((l45 0).c), .slice (some ⟨(l47 0).n, 0, none⟩) 1 1]) (.one (.sc (.sl))) fun l48 =>
                                                    (.pin (vN (Instr.loadAt 23 (.pointer (some ⟨(l20 0).n, 0, none⟩)))) (.int .u32 ((l44 0).i))
                                                     (.unit (Instr.storeAt 23 (.pointer (some (a0.add 3))) (.int .u32 ((l44 0).i)))
                                                      (.unit (Instr.storeAt 22 (.pointer (some (a0.add 4))) (.slice ((l48 0).A) ((l48 0).n) ((l48 0).c)))
                                                       (.done (.bool ((l19 2).b))))))))))))))))))))))))))))))))))))))))))))))))))))))) h) : Fn Try.prog 52 #[.pointer (some a0), .slice Aa1 na1 ca1] I h Q :=
  Wp.fn (args := [.pointer (some a0), .slice Aa1 na1 ca1]) Try.func52 rfl (by kernel_rfl) (of_tree (cfg := g_babelpkt_reader_update) 1000 (by kernel_rfl) Try.func52 rfl Try.checked.mixed hh)
theorem ca_babelpkt_reader_update : callable Try.prog 52 := ⟨_, Try.func52, by kernel_rfl, by kernel_rfl⟩
/-! ### babelpkt_reader_asks: function 53 of Go -/
abbrev F_babelpkt_reader_asks : FuncId := 53
noncomputable def c_babelpkt_reader_asks : Code := (Try.f53.body).getD .skip
def p_babelpkt_reader_asks : Nat → List (List Nat) := fun r => match r with | 7 => [[], [0], [0, 1], [], [3], [3, 4], [3, 4, 5], [], [0, 1, 7], [0, 1, 2, 3, 4, 5, 6, 7, 8], [0, 1, 2, 3, 4, 5, 6, 7, 8, 9], [0, 1, 2, 3, 4, 5, 6, 7, 8, 9, 10]] | 8 => [[], [0], [0, 1], [0, 1, 2], [], [], [4, 5], [0, 1, 2, 3, 4, 5, 6], [0, 1, 2, 3, 4, 5, 6, 7], [0, 1, 2, 3, 4, 5, 6, 7, 8], [0, 1, 2, 3, 4, 5, 6, 7, 8], [], [0, 1, 2, 3, 4, 5, 6, 7, 8, 9, 11], [0, 1, 2, 3, 4, 5, 6, 7, 8, 9, 10, 11, 12]] | 10 => [[], [], [1], [1, 2], [1, 2, 3], [], [5], [1, 2, 3, 4, 5, 6], [0, 1, 2, 3, 4, 5, 6, 7], [0, 1, 2, 3, 4, 5, 6, 7, 8], [0, 1, 2, 3, 4, 5, 6, 7, 8, 9]] | _ => []
noncomputable def g_babelpkt_reader_asks : Cfg := { sh := shs, fsh := fshs, results := [.tmp 6], hint := fun _ _ => none, ord := fun r => match r with | 7 => some [0, 3, 4, 5, 6, 7, 1, 2, 8, 9, 10, 11] | 8 => some [0, 1, 2, 3, 4, 5, 6, 7, 8, 9, 10, 11, 12, 13] | 10 => some [0, 1, 2, 3, 4, 5, 6, 7, 8, 9, 10] | _ => none, pre := p_babelpkt_reader_asks, un := unOf p_babelpkt_reader_asks }
set_option maxRecDepth 100000 in
set_option maxHeartbeats 4000000 in
theorem r_babelpkt_reader_asks (a0 : Addr) (a1 : Int) (Aa2 : Option Addr) (na2 : Nat) (ca2 : Nat) {I : Ctx} {h : Mem} {Q : Value → Mem → Prop}
  (hh : holds Try.prog 53 I (cl_ Q)
   (.sem (Instr.alloc 37 true (.tuple #[])) shBlk fun l1 =>
    (.unit (Instr.storeAt 37 (.pointer (some ⟨(l1 0).n, 0, none⟩)) (.agg #[.int .i64 3, .int .u16 0, .int .i64 0, .int .i64 0, .int .u32 0, .int .i64 0, .int .u64 0, .int .u16 0, .int .i64 0]))
     (.ite (decide ((((na2 : Nat) : Int) : Int) < 2))
      (.done (.bool false))
      (.rd (Instr.indexAt 25 (.slice Aa2 na2 ca2) (.int .i64 0)) (.one (.sc (.padr))) fun l2 =>
       (.rd (Instr.loadAt 5 (.pointer (some ((l2 0).a)))) (.one (.sc (.int .u8))) fun l3 =>
        (.ite (((l3 0).i : Int) != 1)
         (.done (.bool false))
         (.rd (Instr.indexAt 25 (.slice Aa2 na2 ca2) (.int .i64 1)) (.one (.sc (.padr))) fun l4 =>
          (.rd (Instr.loadAt 5 (.pointer (some ((l4 0).a)))) (.one (.sc (.int .u8))) fun l5 =>
           (.ite (decide (((l5 0).i : Int) > 32))
            (.done (.bool false))
            (.ite ((a1 : Int) == 10)
             (.ite (decide ((((na2 : Nat) : Int) : Int) < 14))
              (.done (.bool false))
              (.rd (Instr.indexAt 25 (.slice Aa2 na2 ca2) (.int .i64 5)) (.one (.sc (.padr))) fun l6 =>
               (.rd (Instr.loadAt 5 (.pointer (some ((l6 0).a)))) (.one (.sc (.int .u8))) fun l7 =>
                (.ite (((l7 0).i : Int) != 0)
                 (.done (.bool false))
                 (.ite ((a1 : Int) == 10)
                  (.rd (Instr.indexAt 25 (.slice Aa2 na2 ca2) (.int .i64 4)) (.one (.sc (.padr))) fun l8 =>
                   (.rd (Instr.loadAt 5 (.pointer (some ((l8 0).a)))) (.one (.sc (.int .u8))) fun l9 =>
                    (.call 33 [.slice Aa2 na2 ca2, .int .i64 2] (.one (.sc (.int .i64))) fun l10 => -- babelpkt_at2
                     (.pin (vN (Instr.loadAt 5 (.pointer (some ((l8 0).a))))) (.int .u8 ((l9 0).i))
                      (.pin (vN (Instr.indexAt 25 (.slice Aa2 na2 ca2) (.int .i64 4))) (.pointer (some ((l8 0).a)))
                       (.call 62 [.slice Aa2 na2 ca2, .int .i64 6] (.one (.sc (.int .u64))) fun l11 => -- babelpkt_at8
                        (.pin (vN (Instr.loadAt 5 (.pointer (some ((l8 0).a))))) (.int .u8 ((l9 0).i))
                         (.pin (vN (Instr.indexAt 25 (.slice Aa2 na2 ca2) (.int .i64 4))) (.pointer (some ((l8 0).a)))
                          (.unit (Instr.storeAt 37 (.pointer (some ⟨(l1 0).n, 0, none⟩)) (.agg #[.int .i64 4, .int .u16 (IntKind.wrap .u16 ((l10 0).i)), .int .i64 0, .int .i64 0, .int .u32 0, .int .i64 0, .int .u64 ((l11 0).i), .int .u16 0, .int .i64 (IntKind.wrap .i64 ((l9 0).i))]))
                           (.rd (Instr.indexAt 25 (.slice Aa2 na2 ca2) (.int .i64 1)) (.one (.sc (.padr))) fun l12 =>
                            (.rd (Instr.loadAt 5 (.pointer (some ((l12 0).a)))) (.one (.sc (.int .u8))) fun l13 =>
                             (.rd (Instr.sliceAt 25 (.slice Aa2 na2 ca2) (some (.int .i64 14)) none none) (.one (.sc (.sl))) fun l14 =>
                              (.call 63 [.int .i64 (IntKind.wrap .i64 ((l13 0).i)), .slice ((l14 0).A) ((l14 0).n) ((l14 0).c)] (.tup [.agg [.int .u32, .int .i64], (.sc (.bool))]) fun l15 => -- babelpkt_prefixOf
                               (.sem (Instr.alloc 34 true (.tuple #[])) shBlk fun l16 =>
                                (.unit (Instr.storeAt 34 (.pointer (some ⟨(l16 0).n, 0, none⟩)) (.agg #[.int .u32 ((l15 0).i), .int .i64 ((l15 1).i)]))
                                 (.rd (Instr.loadAt 34 (.pointer (some ⟨(l16 0).n, 0, none⟩))) (.one (.agg [.int .u32, .int .i64])) fun l17 =>
                                  (.unit (Instr.storeAt 34 (.pointer (some ⟨(l1 0).n, 4, none⟩)) (.agg #[.int .u32 ((l17 0).i), .int .i64 ((l17 1).i)]))
                                   (.rd (Instr.loadAt 22 (.pointer (some (a0.add 4)))) (.one (.sc (.sl))) fun l18 =>
                                    (.rd (Instr.loadAt 37 (.pointer (some ⟨(l1 0).n, 0, none⟩))) (.one (.agg [.int .i64, .int .u16, .int .i64, .int .i64, .int .u32, .int .i64, .int .u64, .int .u16, .int .i64])) fun l19 =>
                                     (.sem (Instr.buildSlice 22 1 #[(0, .agg #[.int .i64 ((l19 0).i), .int .u16 ((l19 1).i), .int .i64 ((l19 2).i), .int .i64 ((l19 3).i), .int .u32 ((l19 4).i), .int .i64 ((l19 5).i), .int .u64 ((l19 6).i), .int .u16 ((l19 7).i), .int .i64 ((l19 8).i)])]) (.one (.sc (.row 1))) fun l20 =>
                                      (.nx (builtin .append #[22, 22] 22 #[false, false] #[.slice ((l18 0).A) ((l18 0).n) ((l18 0).c), .slice (some ⟨(l20 0).n, 0, none⟩) 1 1]) (.one (.sc (.sl))) fun l21 =>
                                       (.unit (Instr.storeAt 22 (.pointer (some (a0.add 4))) (.slice ((l21 0).A) ((l21 0).n) ((l21 0).c)))
                                        (.done (.bool ((l15 2).b)))))))))))))))))))))))))
                  (.rd (Instr.indexAt 25 (.slice Aa2 na2 ca2) (.int .i64 1)) (.one (.sc (.padr))) fun l22 =>
                   (.rd (Instr.loadAt 5 (.pointer (some ((l22 0).a)))) (.one (.sc (.int .u8))) fun l23 =>
                    (.rd (Instr.sliceAt 25 (.slice Aa2 na2 ca2) (some (.int .i64 2)) none none) (.one (.sc (.sl))) fun l24 =>
                     (.call 63 [.int .i64 (IntKind.wrap .i64 ((l23 0).i)), .slice ((l24 0).A) ((l24 0).n) ((l24 0).c)] (.tup [.agg [.int .u32, .int .i64], (.sc (.bool))]) fun l25 => -- babelpkt_prefixOf
                      (.sem (Instr.alloc 34 true (.tuple #[])) shBlk fun l26 =>
                       (.unit (Instr.storeAt 34 (.pointer (some ⟨(l26 0).n, 0, none⟩)) (.agg #[.int .u32 ((l25 0).i), .int .i64 ((l25 1).i)]))
                        (.rd (Instr.loadAt 34 (.pointer (some ⟨(l26 0).n, 0, none⟩))) (.one (.agg [.int .u32, .int .i64])) fun l27 =>
                         (.unit (Instr.storeAt 34 (.pointer (some ⟨(l1 0).n, 4, none⟩)) (.agg #[.int .u32 ((l27 0).i), .int .i64 ((l27 1).i)]))
                          (.rd (Instr.loadAt 22 (.pointer (some (a0.add 4)))) (.one (.sc (.sl))) fun l28 =>
                           (.rd (Instr.loadAt 37 (.pointer (some ⟨(l1 0).n, 0, none⟩))) (.one (.agg [.int .i64, .int .u16, .int .i64, .int .i64, .int .u32, .int .i64, .int .u64, .int .u16, .int .i64])) fun l29 =>
                            (.sem (Instr.buildSlice 22 1 #[(0, .agg #[.int .i64 ((l29 0).i), .int .u16 ((l29 1).i), .int .i64 ((l29 2).i), .int .i64 ((l29 3).i), .int .u32 ((l29 4).i), .int .i64 ((l29 5).i), .int .u64 ((l29 6).i), .int .u16 ((l29 7).i), .int .i64 ((l29 8).i)])]) (.one (.sc (.row 1))) fun l30 =>
                             (.nx (builtin .append #[22, 22] 22 #[false, false] #[.slice ((l28 0).A) ((l28 0).n) ((l28 0).c), .slice (some ⟨(l30 0).n, 0, none⟩) 1 1]) (.one (.sc (.sl))) fun l31 =>
                              (.unit (Instr.storeAt 22 (.pointer (some (a0.add 4))) (.slice ((l31 0).A) ((l31 0).n) ((l31 0).c)))
                               (.done (.bool ((l25 2).b)))))))))))))))))))))
             (.ite ((a1 : Int) == 10)
              (.rd (Instr.indexAt 25 (.slice Aa2 na2 ca2) (.int .i64 4)) (.one (.sc (.padr))) fun l32 =>
               (.rd (Instr.loadAt 5 (.pointer (some ((l32 0).a)))) (.one (.sc (.int .u8))) fun l33 =>
                (.call 33 [.slice Aa2 na2 ca2, .int .i64 2] (.one (.sc (.int .i64))) fun l34 => -- babelpkt_at2
                 (.pin (vN (Instr.loadAt 5 (.pointer (some ((l32 0).a))))) (.int .u8 ((l33 0).i))
                  (.pin (vN (Instr.indexAt 25 (.slice Aa2 na2 ca2) (.int .i64 4))) (.pointer (some ((l32 0).a)))
                   (.call 62 [.slice Aa2 na2 ca2, .int .i64 6] (.one (.sc (.int .u64))) fun l35 => -- babelpkt_at8
                    (.pin (vN (Instr.loadAt 5 (.pointer (some ((l32 0).a))))) (.int .u8 ((l33 0).i))
                     (.pin (vN (Instr.indexAt 25 (.slice Aa2 na2 ca2) (.int .i64 4))) (.pointer (some ((l32 0).a)))
                      (.unit (Instr.storeAt 37 (.pointer (some ⟨(l1 0).n, 0, none⟩)) (.agg #[.int .i64 4, .int .u16 (IntKind.wrap .u16 ((l34 0).i)), .int .i64 0, .int .i64 0, .int .u32 0, .int .i64 0, .int .u64 ((l35 0).i), .int .u16 0, .int .i64 (IntKind.wrap .i64 ((l33 0).i))]))
                       (.rd (Instr.indexAt 25 (.slice Aa2 na2 ca2) (.int .i64 1)) (.one (.sc (.padr))) fun l36 =>
                        (.rd (Instr.loadAt 5 (.pointer (some ((l36 0).a)))) (.one (.sc (.int .u8))) fun l37 =>
                         (.rd (Instr.sliceAt 25 (.slice Aa2 na2 ca2) (some (.int .i64 14)) none none) (.one (.sc (.sl))) fun l38 =>
                          (.call 63 [.int .i64 (IntKind.wrap .i64 ((l37 0).i)), .slice ((l38 0).A) ((l38 0).n) ((l38 0).c)] (.tup [.agg [.int .u32, .int .i64], (.sc (.bool))]) fun l39 => -- babelpkt_prefixOf
                           (.sem (Instr.alloc 34 true (.tuple #[])) shBlk fun l40 =>
                            (.unit (Instr.storeAt 34 (.pointer (some ⟨(l40 0).n, 0, none⟩)) (.agg #[.int .u32 ((l39 0).i), .int .i64 ((l39 1).i)]))
                             (.rd (Instr.loadAt 34 (.pointer (some ⟨(l40 0).n, 0, none⟩))) (.one (.agg [.int .u32, .int .i64])) fun l41 =>
                              (.unit (Instr.storeAt 34 (.pointer (some ⟨(l1 0).n, 4, none⟩)) (.agg #[.int .u32 ((l41 0).i), .int .i64 ((l41 1).i)]))
                               (.rd (Instr.loadAt 22 (.pointer (some (a0.add 4)))) (.one (.sc (.sl))) fun l42 =>
                                (.rd (Instr.loadAt 37 (.pointer (some ⟨(l1 0).n, 0, none⟩))) (.one (.agg [.int .i64, .int .u16, .int .i64, .int .i64, .int .u32, .int .i64, .int .u64, .int .u16, .int .i64])) fun l43 =>
                                 (.sem (Instr.buildSlice 22 1 #[(0, .agg #[.int .i64 ((l43 0).i), .int .u16 ((l43 1).i), .int .i64 ((l43 2).i), .int .i64 ((l43 3).i), .int .u32 ((l43 4).i), .int .i64 ((l43 5).i), .int .u64 ((l43 6).i), .int .u16 ((l43 7).i), .int .i64 ((l43 8).i)])]) (.one (.sc (.row 1))) fun l44 =>
                                  (.nx (builtin .append #[22, 22] 22 #[false, false] #[.slice ((l42 0).A) ((l42 0).n) ((l42 0).c), .slice (some ⟨(l44 0).n, 0, none⟩) 1 1]) (.one (.sc (.sl))) fun l45 =>
                                   (.unit (Instr.storeAt 22 (.pointer (some (a0.add 4))) (.slice ((l45 0).A) ((l45 0).n) ((l45 0).c)))
                                    (.done (.bool ((l39 2).b)))))))))))))))))))))))))
              (.rd (Instr.indexAt 25 (.slice Aa2 na2 ca2) (.int .i64 1)) (.one (.sc (.padr))) fun l46 =>
               (.rd (Instr.loadAt 5 (.pointer (some ((l46 0).a)))) (.one (.sc (.int .u8))) fun l47 =>
                (.rd (Instr.sliceAt 25 (.slice Aa2 na2 ca2) (some (.int .i64 2)) none none) (.one (.sc (.sl))) fun l48 =>
                 (.call 63 [.int .i64 (IntKind.wrap .i64 ((l47 0).i)), .slice ((l48 0).A) ((l48 0).n) ((l48 0).c)] (.tup [.agg [.int .u32, .int .i64], (.sc (.bool))]) fun l49 => -- babelpkt_prefixOf
                  (.sem (Instr.alloc 34 true (.tuple #[])) shBlk fun l50 =>
                   (.unit (Instr.storeAt 34 (.pointer (some ⟨(l50 0).n, 0, none⟩)) (.agg #[.int .u32 ((l49 0).i), .int .i64 ((l49 1).i)]))
                    (.rd (Instr.loadAt 34 (.pointer (some ⟨(l50 0).n, 0, none⟩))) (.one (.agg [.int .u32, .int .i64])) fun l51 =>
                     (.unit (Instr.storeAt 34 (.pointer (some ⟨(l1 0).n, 4, none⟩)) (.agg #[.int .u32 ((l51 0).i), .int .i64 ((l51 1).i)]))
                      (.rd (Instr.loadAt 22 (.pointer (some (a0.add 4)))) (.one (.sc (.sl))) fun l52 =>
                       (.rd (Instr.loadAt 37 (.pointer (some ⟨(l1 0).n, 0, none⟩))) (.one (.agg [.int .i64, .int .u16, .int .i64, .int .i64, .int .u32, .int .i64, .int .u64, .int .u16, .int .i64])) fun l53 =>
                        (.sem (Instr.buildSlice 22 1 #[(0, .agg #[.int .i64 ((l53 0).i), .int .u16 ((l53 1).i), .int .i64 ((l53 2).i), .int .i64 ((l53 3).i), .int .u32 ((l53 4).i), .int .i64 ((l53 5).i), .int .u64 ((l53 6).i), .int .u16 ((l53 7).i), .int .i64 ((l53 8).i)])]) (.one (.sc (.row 1))) fun l54 =>
                         (.nx (builtin .append #[22, 22] 22 #[false, false] #[.slice ((l52 0).A) ((l52 0).n) ((l52 0).c), .slice (some ⟨(l54 0).n, 0, none⟩) 1 1]) (.one (.sc (.sl))) fun l55 =>
                          (.unit (Instr.storeAt 22 (.pointer (some (a0.add 4))) (.slice ((l55 0).A) ((l55 0).n) ((l55 0).c)))
                           (.done (.bool ((l49 2).b))))))))))))))))))))))))))) h) : Fn Try.prog 53 #[.pointer (some a0), .int .u8 a1, .slice Aa2 na2 ca2] I h Q :=
  Wp.fn (args := [.pointer (some a0), .int .u8 a1, .slice Aa2 na2 ca2]) Try.func53 rfl (by kernel_rfl) (of_tree (cfg := g_babelpkt_reader_asks) 1000 (by kernel_rfl) Try.func53 rfl Try.checked.mixed hh)
theorem ca_babelpkt_reader_asks : callable Try.prog 53 := ⟨_, Try.func53, by kernel_rfl, by kernel_rfl⟩
/-! ### octroiref01_Get: function 54 of Go -/
abbrev F_octroiref01_Get : FuncId := 54
noncomputable def c_octroiref01_Get : Code := (Try.f54.body).getD .skip
noncomputable def g_octroiref01_Get : Cfg := { sh := shs, fsh := fshs, results := [.tmp 6, .tmp 7], hint := fun _ _ => none, ord := fun _ => none, pre := fun _ => [], un := fun _ _ _ => false }
noncomputable def k_octroiref01_Get_1 : List Item := [.code (bd (bd (sr (sl (sr (sr (sr c_octroiref01_Get))))))), .inLoop (bd (bd (sr (sl (sr (sr (sr c_octroiref01_Get))))))), .inBlock 0, .code (sr (sr (sr (sr c_octroiref01_Get))))]
noncomputable def t_octroiref01_Get_1 (Aa0 : Option Addr) (na0 : Nat) (ca0 : Nat) (a1 : Int) (a2 : Int) (x8 : Int) (x9 : Int) (u : Nat → Value) : List Value := [.slice Aa0 na0 ca0, .int .i64 a1, .int .i64 a2, undef, undef, undef, (u 6), (u 7), .int .u32 x8, .int .i64 x9, (u 10), (u 11), (u 12), (u 13), (u 14), (u 15), (u 16), (u 17), (u 18), (u 19), (u 20), (u 21), (u 22), (u 23), (u 24), (u 25), (u 26), (u 27), (u 28), (u 29), (u 30), (u 31), (u 32), (u 33), (u 34), (u 35), (u 36), (u 37), (u 38), (u 39), (u 40), (u 41)]
set_option maxRecDepth 100000 in
set_option maxHeartbeats 4000000 in
theorem r_octroiref01_Get (Aa0 : Option Addr) (na0 : Nat) (ca0 : Nat) (a1 : Int) (a2 : Int) {I : Ctx} {h : Mem} {Q : Value → Mem → Prop}
  (hh : holds Try.prog 54 I (cl_ Q)
   (.ite (decide ((a1 : Int) < 0))
    (.done (.tuple #[.int .u32 0, .bool false]))
    (.ite (decide ((a1 : Int) > ((na0 : Nat) : Int)))
     (.done (.tuple #[.int .u32 0, .bool false]))
     (.ite (decide ((IntKind.wrap .i64 (((na0 : Nat) : Int) - a1) : Int) < a2))
      (.done (.tuple #[.int .u32 0, .bool false]))
      (.stop k_octroiref01_Get_1 (t_octroiref01_Get_1 Aa0 na0 ca0 a1 a2 0 0 (jl [(6, .int .u32 0), (7, .bool false), (10, .int .i64 a1), (11, .bool (decide ((a1 : Int) < 0))), (12, .bool false), (13, .int .i64 a1), (14, .slice Aa0 na0 ca0), (15, .int .i64 ((na0 : Nat) : Int)), (16, .bool (decide ((a1 : Int) > ((na0 : Nat) : Int)))), (17, .bool (decide ((a1 : Int) > ((na0 : Nat) : Int)))), (18, .bool false), (19, .slice Aa0 na0 ca0), (20, .int .i64 ((na0 : Nat) : Int)), (21, .int .i64 a1), (22, .int .i64 (IntKind.wrap .i64 (((na0 : Nat) : Int) - a1))), (23, .int .i64 a2), (24, .bool (decide ((IntKind.wrap .i64 (((na0 : Nat) : Int) - a1) : Int) < a2))), (25, .bool (decide ((IntKind.wrap .i64 (((na0 : Nat) : Int) - a1) : Int) < a2))), (26, undef), (27, undef), (28, undef), (29, undef), (30, undef), (31, undef), (32, undef), (33, undef), (34, undef), (35, undef), (36, undef), (37, undef), (38, undef), (39, undef), (40, undef), (41, undef)])))))) h) : Fn Try.prog 54 #[.slice Aa0 na0 ca0, .int .i64 a1, .int .i64 a2] I h Q :=
  Wp.fn (args := [.slice Aa0 na0 ca0, .int .i64 a1, .int .i64 a2]) Try.func54 rfl (by kernel_rfl) (of_tree (cfg := g_octroiref01_Get) 1000 (by kernel_rfl) Try.func54 rfl Try.checked.mixed hh)
theorem ca_octroiref01_Get : callable Try.prog 54 := ⟨_, Try.func54, by kernel_rfl, by kernel_rfl⟩
set_option maxRecDepth 100000 in
set_option maxHeartbeats 4000000 in
theorem r_octroiref01_Get_1 (Aa0 : Option Addr) (na0 : Nat) (ca0 : Nat) (a1 : Int) (a2 : Int) (x8 : Int) (x9 : Int) (u : Nat → Value) {I : Ctx} {h : Mem} {Q : Value → Mem → Prop}
  (hh : holds Try.prog 54 I Q
   (.ite (decide ((x9 : Int) < a2))
    (.rd (Instr.indexAt 25 (.slice Aa0 na0 ca0) (.int .i64 (IntKind.wrap .i64 (a1 + x9)))) (.one (.sc (.padr))) fun l1 =>
     (.rd (Instr.loadAt 5 (.pointer (some ((l1 0).a)))) (.one (.sc (.int .u8))) fun l2 =>
      (.stop k_octroiref01_Get_1 (t_octroiref01_Get_1 Aa0 na0 ca0 a1 a2 (IntKind.wrap .u32 ((IntKind.wrap .u32 (x8 * 256)) + (IntKind.wrap .u32 ((l2 0).i)))) (IntKind.wrap .i64 (x9 + 1)) (jl [(6, (u 6)), (7, (u 7)), (10, (u 10)), (11, (u 11)), (12, (u 12)), (13, (u 13)), (14, (u 14)), (15, (u 15)), (16, (u 16)), (17, (u 17)), (18, (u 18)), (19, (u 19)), (20, (u 20)), (21, (u 21)), (22, (u 22)), (23, (u 23)), (24, (u 24)), (25, (u 25)), (26, .int .i64 x9), (27, .int .i64 a2), (28, .bool (decide ((x9 : Int) < a2))), (29, .int .i64 x9), (30, .int .i64 (IntKind.wrap .i64 (x9 + 1))), (31, .int .u32 x8), (32, .int .u32 (IntKind.wrap .u32 (x8 * 256))), (33, .slice Aa0 na0 ca0), (34, .int .i64 a1), (35, .int .i64 x9), (36, .int .i64 (IntKind.wrap .i64 (a1 + x9))), (37, .pointer (some ((l1 0).a))), (38, .int .u8 ((l2 0).i)), (39, .int .u32 (IntKind.wrap .u32 ((l2 0).i))), (40, .int .u32 (IntKind.wrap .u32 ((IntKind.wrap .u32 (x8 * 256)) + (IntKind.wrap .u32 ((l2 0).i))))), (41, (u 41))])))))
    (.done (.tuple #[.int .u32 x8, .bool true]))) h) : Wp Try.prog 54 k_octroiref01_Get_1 (t_octroiref01_Get_1 Aa0 na0 ca0 a1 a2 x8 x9 u) I h Q :=
  of_tree (cfg := g_octroiref01_Get) 1000 (by kernel_rfl) Try.func54 rfl Try.checked.mixed hh
/-! ### octroiref06_Reader_short: function 55 of Go -/
abbrev F_octroiref06_Reader_short : FuncId := 55
noncomputable def c_octroiref06_Reader_short : Code := (Try.f55.body).getD .skip
def p_octroiref06_Reader_short : Nat → List (List Nat) := fun r => match r with | 14 => [[], [], [1], [1, 2], [1, 2, 3], [], [5], [1, 2, 3, 4, 5, 6], [0, 1, 2, 3, 4, 5, 6, 7], [0, 1, 2, 3, 4, 5, 6, 7, 8], [0, 1, 2, 3, 4, 5, 6, 7, 8, 9]] | _ => []
noncomputable def g_octroiref06_Reader_short : Cfg := { sh := shs, fsh := fshs, results := [.tmp 6], hint := fun _ _ => none, ord := fun r => match r with | 14 => some [0, 1, 2, 3, 4, 5, 6, 7, 8, 9, 10] | _ => none, pre := p_octroiref06_Reader_short, un := unOf p_octroiref06_Reader_short }
set_option maxRecDepth 100000 in
set_option maxHeartbeats 4000000 in
theorem r_octroiref06_Reader_short (a0 : Addr) (a1 : Int) (Aa2 : Option Addr) (na2 : Nat) (ca2 : Nat) {I : Ctx} {h : Mem} {Q : Value → Mem → Prop}
  (hh : holds Try.prog 55 I (cl_ Q)
   (.ite (decide ((((na2 : Nat) : Int) : Int) < 2))
    (.done (.bool false))
    (.rd (Instr.indexAt 25 (.slice Aa2 na2 ca2) (.int .i64 0)) (.one (.sc (.padr))) fun l1 =>
     (.rd (Instr.loadAt 5 (.pointer (some ((l1 0).a)))) (.one (.sc (.int .u8))) fun l2 =>
      (.ite (((l2 0).i : Int) != 0)
       (.done (.bool false))
       (.rd (Instr.indexAt 25 (.slice Aa2 na2 ca2) (.int .i64 1)) (.one (.sc (.padr))) fun l3 =>
        (.rd (Instr.loadAt 5 (.pointer (some ((l3 0).a)))) (.one (.sc (.int .u8))) fun l4 =>
         (.ite (((l4 0).i : Int) != 0)
          (.done (.bool false))
          (.ite ((a1 : Int) == 6)
           (.ite ((((na2 : Nat) : Int) : Int) != 10)
            (.done (.bool false))
            (.call 64 [.slice Aa2 na2 ca2, .int .i64 2] (.one (.sc (.int .u64))) fun l5 => -- octroiref06_num8
             (.unit (Instr.storeAt 35 (.pointer (some a0)) (.int .u64 ((l5 0).i)))
              (.unit (Instr.storeAt 4 (.pointer (some (a0.add 1))) (.bool true))
               (.done (.bool true))))))
           (.ite ((((na2 : Nat) : Int) : Int) != 6)
            (.done (.bool false))
            (.call 35 [.slice Aa2 na2 ca2, .int .i64 2] (.one (.sc (.int .i64))) fun l6 => -- octroiref06_num2
             (.call 35 [.slice Aa2 na2 ca2, .int .i64 4] (.one (.sc (.int .i64))) fun l7 => -- octroiref06_num2
              (.sem (Instr.alloc 37 true (.tuple #[])) shBlk fun l8 =>
               (.unit (Instr.storeAt 37 (.pointer (some ⟨(l8 0).n, 0, none⟩)) (.agg #[.int .i64 0, .int .u16 (IntKind.wrap .u16 ((l6 0).i)), .int .i64 ((l7 0).i), .int .i64 0, .int .u32 0, .int .i64 0, .int .u64 0, .int .u16 0, .int .i64 0]))
                (.ite ((a1 : Int) == 5)
                 (.call 35 [.slice Aa2 na2 ca2, .int .i64 2] (.one (.sc (.int .i64))) fun l9 => -- octroiref06_num2
                  (.call 35 [.slice Aa2 na2 ca2, .int .i64 4] (.one (.sc (.int .i64))) fun l10 => -- octroiref06_num2
                   (.unit (Instr.storeAt 37 (.pointer (some ⟨(l8 0).n, 0, none⟩)) (.agg #[.int .i64 1, .int .u16 0, .int .i64 ((l10 0).i), .int .i64 ((l9 0).i), .int .u32 0, .int .i64 0, .int .u64 0, .int .u16 0, .int .i64 0]))
                    (.rd (Instr.loadAt 22 (.pointer (some (a0.add 3)))) (.one (.sc (.sl))) fun l11 =>
                     (.rd (Instr.loadAt 37 (.pointer (some ⟨(l8 0).n, 0, none⟩))) (.one (.agg [.int .i64, .int .u16, .int .i64, .int .i64, .int .u32, .int .i64, .int .u64, .int .u16, .int .i64])) fun l12 =>
                      (.sem (Instr.buildSlice 22 1 #[(0, .agg #[.int .i64 ((l12 0).i), .int .u16 ((l12 1).i), .int .i64 ((l12 2).i), .int .i64 ((l12 3).i), .int .u32 ((l12 4).i), .int .i64 ((l12 5).i), .int .u64 ((l12 6).i), .int .u16 ((l12 7).i), .int .i64 ((l12 8).i)])]) (.one (.sc (.row 1))) fun l13 =>
                       (.nx (builtin .append #[22, 22] 22 #[false, false] #[.slice ((l11 0).A) ((l11 0).n) ((l11 0).c), .slice (some ⟨(l13 0).n, 0, none⟩) 1 1]) (.one (.sc (.sl))) fun l14 =>
                        (.unit (Instr.storeAt 22 (.pointer (some (a0.add 3))) (.slice ((l14 0).A) ((l14 0).n) ((l14 0).c)))
                         (.done (.bool true))))))))))
                 (.rd (Instr.loadAt 22 (.pointer (some (a0.add 3)))) (.one (.sc (.sl))) fun l15 =>
                  (.rd (Instr.loadAt 37 (.pointer (some ⟨(l8 0).n, 0, none⟩))) (.one (.agg [.int .i64, .int .u16, .int .i64, .int .i64, .int .u32, .int .i64, .int .u64, .int .u16, .int .i64])) fun l16 =>
                   (.sem (Instr.buildSlice 22 1 #[(0, .agg #[.int .i64 ((l16 0).i), .int .u16 ((l16 1).i), .int .i64 ((l16 2).i), .int .i64 ((l16 3).i), .int .u32 ((l16 4).i), .int .i64 ((l16 5).i), .int .u64 ((l16 6).i), .int .u16 ((l16 7).i), .int .i64 ((l16 8).i)])]) (.one (.sc (.row 1))) fun l17 =>
                    (.nx (builtin .append #[22, 22] 22 #[false, false] #[.slice ((l15 0).A) ((l15 0).n) ((l15 0).c), .slice (some ⟨(l17 0).n, 0, none⟩) 1 1]) (.one (.sc (.sl))) fun l18 =>
                     (.unit (Instr.storeAt 22 (.pointer (some (a0.add 3))) (.slice ((l18 0).A) ((l18 0).n) ((l18 0).c)))
                      (.done (.bool true))))))))))))))))))))) h) : Fn Try.prog 55 #[.pointer (some a0), .int .u8 a1, .slice Aa2 na2 ca2] I h Q :=
  Wp.fn (args := [.pointer (some a0), .int .u8 a1, .slice Aa2 na2 ca2]) Try.func55 rfl (by kernel_rfl) (of_tree (cfg := g_octroiref06_Reader_short) 1000 (by kernel_rfl) Try.func55 rfl Try.checked.mixed hh)
theorem ca_octroiref06_Reader_short : callable Try.prog 55 := ⟨_, Try.func55, by kernel_rfl, by kernel_rfl⟩
/-! ### octroiref06_Reader_update: function 56 of Go -/
abbrev F_octroiref06_Reader_update : FuncId := 56
noncomputable def c_octroiref06_Reader_update : Code := (Try.f56.body).getD .skip
def p_octroiref06_Reader_update : Nat → List (List Nat) := fun r => match r with | 12 => [[], [0], [], [0, 1, 2], [0, 1, 2, 3], [], [0, 1, 2, 3, 5], [], [], [8], [8, 9], [8, 9, 10], [0, 1, 2, 3, 4, 5, 6, 7, 8, 9, 10, 11], [], [0, 1, 2, 3, 4, 5, 6, 7, 8, 9, 10, 11, 12, 13]] | 19 => [[], [], [1], [1, 2], [1, 2, 3], [], [5], [1, 2, 3, 4, 5, 6], [0, 1, 2, 3, 4, 5, 6, 7], [0, 1, 2, 3, 4, 5, 6, 7, 8], [0, 1, 2, 3, 4, 5, 6, 7, 8, 9]] | _ => []
noncomputable def g_octroiref06_Reader_update : Cfg := { sh := shs, fsh := fshs, results := [.tmp 4], hint := fun _ _ => none, ord := fun r => match r with | 12 => some [0, 2, 5, 7, 8, 9, 10, 11, 1, 3, 4, 6, 12, 13, 14] | 19 => some [0, 1, 2, 3, 4, 5, 6, 7, 8, 9, 10] | _ => none, pre := p_octroiref06_Reader_update, un := unOf p_octroiref06_Reader_update }
set_option maxRecDepth 100000 in
set_option maxHeartbeats 4000000 in
theorem r_octroiref06_Reader_update (a0 : Addr) (Aa1 : Option Addr) (na1 : Nat) (ca1 : Nat) {I : Ctx} {h : Mem} {Q : Value → Mem → Prop}
  (hh : holds Try.prog 56 I (cl_ Q)
   (.rd (Instr.loadAt 4 (.pointer (some (a0.add 1)))) (.one (.sc (.bool))) fun l1 =>
    (.ite (!((l1 0).b))
     (.done (.bool false))
     (.ite (decide ((((na1 : Nat) : Int) : Int) < 10))
      (.done (.bool false))
      (.rd (Instr.indexAt 25 (.slice Aa1 na1 ca1) (.int .i64 0)) (.one (.sc (.padr))) fun l2 =>
       (.rd (Instr.loadAt 5 (.pointer (some ((l2 0).a)))) (.one (.sc (.int .u8))) fun l3 =>
        (.ite (((l3 0).i : Int) != 1)
         (.done (.bool false))
         (.rd (Instr.indexAt 25 (.slice Aa1 na1 ca1) (.int .i64 1)) (.one (.sc (.padr))) fun l4 =>
          (.rd (Instr.loadAt 5 (.pointer (some ((l4 0).a)))) (.one (.sc (.int .u8))) fun l5 =>
           (.ite (((l5 0).i : Int) != 128)
            (.done (.bool false))
            (.rd (Instr.indexAt 25 (.slice Aa1 na1 ca1) (.int .i64 2)) (.one (.sc (.padr))) fun l6 =>
             (.rd (Instr.loadAt 5 (.pointer (some ((l6 0).a)))) (.one (.sc (.int .u8))) fun l7 =>
              (.ite (decide (((l7 0).i : Int) > 32))
               (.done (.bool false))
               (.rd (Instr.indexAt 25 (.slice Aa1 na1 ca1) (.int .i64 2)) (.one (.sc (.padr))) fun l8 =>
                (.rd (Instr.loadAt 5 (.pointer (some ((l8 0).a)))) (.one (.sc (.int .u8))) fun l9 =>
                 (.call 47 [.int .i64 (IntKind.wrap .i64 ((l9 0).i))] (.one (.sc (.int .i64))) fun l10 => -- octroiref06_needs
                  (.rd (Instr.indexAt 25 (.slice Aa1 na1 ca1) (.int .i64 3)) (.one (.sc (.padr))) fun l11 =>
                   (.rd (Instr.loadAt 5 (.pointer (some ((l11 0).a)))) (.one (.sc (.int .u8))) fun l12 =>
                    (.ite (decide ((IntKind.wrap .i64 ((l12 0).i) : Int) > ((l10 0).i)))
                     (.done (.bool false))
                     (.ite (decide ((((na1 : Nat) : Int) : Int) < (IntKind.wrap .i64 ((IntKind.wrap .i64 (10 + ((l10 0).i))) - (IntKind.wrap .i64 ((l12 0).i))))))
                      (.done (.bool false))
                      (.rd (Instr.loadAt 23 (.pointer (some (a0.add 2)))) (.one (.sc (.int .u32))) fun l13 =>
                       (.call 32 [.int .u32 ((l13 0).i), .int .i64 (IntKind.wrap .i64 ((l12 0).i))] (.one (.sc (.sl))) fun l14 => -- octroiref06_addr
                        (.nx (builtin .append #[25, 25] 25 #[true, false] #[.slice none 0 0, .slice ((l14 0).A) ((l14 0).n) ((l14 0).c)]) (.one (.sc (.sl))) fun l15 =>
                         (.rd (Instr.sliceAt 25 (.slice Aa1 na1 ca1) (some (.int .i64 10)) (some (.int .i64 (IntKind.wrap .i64 ((IntKind.wrap .i64 (10 + ((l10 0).i))) - (IntKind.wrap .i64 ((l12 0).i)))))) none) (.one (.sc (.sl))) fun l16 =>
                          (.nx (builtin .append #[25, 25] 25 #[false, false] #[.slice ((l15 0).A) ((l15 0).n) ((l15 0).c), .slice ((l16 0).A) ((l16 0).n) ((l16 0).c)]) (.one (.sc (.sl))) fun l17 =>
                           (.rd (Instr.indexAt 25 (.slice Aa1 na1 ca1) (.int .i64 2)) (.one (.sc (.padr))) fun l18 =>
                            (.rd (Instr.loadAt 5 (.pointer (some ((l18 0).a)))) (.one (.sc (.int .u8))) fun l19 =>
                             (.call 65 [.int .i64 (IntKind.wrap .i64 ((l19 0).i)), .slice ((l17 0).A) ((l17 0).n) ((l17 0).c)] (.tup [.agg [.int .u32, .int .i64], (.sc (.bool))]) fun l20 => -- octroiref06_prefix
                              (.sem (Instr.alloc 34 true (.tuple #[])) shBlk fun l21 =>
                               (.unit (Instr.storeAt 34 (.pointer (some ⟨(l21 0).n, 0, none⟩)) (.agg #[.int .u32 ((l20 0).i), .int .i64 ((l20 1).i)]))
                                (.ite (!((l20 2).b))
                                 (.done (.bool false))
                                 (.rd (Instr.loadAt 34 (.pointer (some ⟨(l21 0).n, 0, none⟩))) (.one (.agg [.int .u32, .int .i64])) fun l22 =>
                                  (.rd (Instr.loadAt 35 (.pointer (some a0))) (.one (.sc (.int .u64))) fun l23 =>
                                   (.call 35 [.slice Aa1 na1 ca1, .int .i64 4] (.one (.sc (.int .i64))) fun l24 => -- octroiref06_num2
                                    (.pin (vN (Instr.loadAt 35 (.pointer (some a0)))) (.int .u64 ((l23 0).i))
                                     (.pin (vN (Instr.loadAt 34 (.pointer (some ⟨(l21 0).n, 0, none⟩)))) (.agg #[.int .u32 ((l22 0).i), .int .i64 ((l22 1).i)])
                                      (.call 35 [.slice Aa1 na1 ca1, .int .i64 6] (.one (.sc (.int .i64))) fun l25 => -- octroiref06_num2
                                       (.pin (vN (Instr.loadAt 35 (.pointer (some a0)))) (.int .u64 ((l23 0).i))
                                        (.pin (vN (Instr.loadAt 34 (.pointer (some ⟨(l21 0).n, 0, none⟩)))) (.agg #[.int .u32 ((l22 0).i), .int .i64 ((l22 1).i)])
                                         (.call 35 [.slice Aa1 na1 ca1, .int .i64 8] (.one (.sc (.int .i64))) fun l26 => -- octroiref06_num2
                                          (.pin (vN (Instr.loadAt 35 (.pointer (some a0)))) (.int .u64 ((l23 0).i))
                                           (.pin (vN (Instr.loadAt 34 (.pointer (some ⟨(l21 0).n, 0, none⟩)))) (.agg #[.int .u32 ((l22 0).i), .int .i64 ((l22 1).i)])
                                            (.sem (Instr.alloc 37 true (.tuple #[])) shBlk fun l27 =>
                                             (.unit (Instr.storeAt 37 (.pointer (some ⟨(l27 0).n, 0, none⟩)) (.agg #[.int .i64 2, .int .u16 (IntKind.wrap .u16 ((l25 0).i)), .int .i64 ((l24 0).i), .int .i64 ((l26 0).i), .int .u32 ((l22 0).i), .int .i64 ((l22 1).i), .int .u64 ((l23 0).i), .int .u16 0, .int .i64 0]))
                                              (.rd (Instr.sliceAt 25 (.slice Aa1 na1 ca1) (some (.int .i64 (IntKind.wrap .i64 ((IntKind.wrap .i64 (10 + ((l10 0).i))) - (IntKind.wrap .i64 ((l12 0).i)))))) none none) (.one (.sc (.sl))) fun l28 =>
                                               (.ite (decide (((((l28 0).n : Nat) : Int) : Int) > 0))
                                                (.ite (((((l28 0).n : Nat) : Int) : Int) != 4)
                                                 (.done (.bool false))
                                                 (.rd (Instr.indexAt 25 (.slice ((l28 0).A) ((l28 0).n) ((l28 0).c)) (.int .i64 0)) (.one (.sc (.padr))) fun l29 =>
                                                  (.rd (Instr.loadAt 5 (.pointer (some ((l29 0).a)))) (.one (.sc (.int .u8))) fun l30 =>
                                                   (.ite (((l30 0).i : Int) != 200)
                                                    (.done (.bool false))
                                                    (.rd (Instr.indexAt 25 (.slice ((l28 0).A) ((l28 0).n) ((l28 0).c)) (.int .i64 1)) (.one (.sc (.padr))) fun l31 =>
                                                     (.rd (Instr.loadAt 5 (.pointer (some ((l31 0).a)))) (.one (.sc (.int .u8))) fun l32 =>
                                                      (.ite (((l32 0).i : Int) != 2)
                                                       (.done (.bool false))
                                                       (.call 35 [.slice ((l28 0).A) ((l28 0).n) ((l28 0).c), .int .i64 2] (.one (.sc (.int .i64))) fun l33 => -- octroiref06_num2
                                                        (.ite (((l33 0).i : Int) == 0)
                                                         (.done (.bool false))
                                                         (.call 35 [.slice ((l28 0).A) ((l28 0).n) ((l28 0).c), .int .i64 2] (.one (.sc (.int .i64))) fun l34 => -- octroiref06_num2
                                                          (.unit (Instr.storeAt 32 (.pointer (some ⟨(l27 0).n, 7, none⟩)) (.int .u16 (IntKind.wrap .u16 ((l34 0).i))))
                                                           (.rd (Instr.loadAt 23 (.pointer (some ⟨(l21 0).n, 0, none⟩))) (.one (.sc (.int .u32))) fun l35 =>
                                                            (.unit (Instr.storeAt 23 (.pointer (some (a0.add 2))) (.int .u32 ((l35 0).i)))
                                                             (.rd (Instr.loadAt 22 (.pointer (some (a0.add 3)))) (.one (.sc (.sl))) fun l36 =>
                                                              (.rd (Instr.loadAt 37 (.pointer (some ⟨(l27 0).n, 0, none⟩))) (.one (.agg [.int .i64, .int .u16, .int .i64, .int .i64, .int .u32, .int .i64, .int .u64, .int .u16, .int .i64])) fun l37 =>
                                                               (.sem (Instr.buildSlice 22 1 #[(0, .agg #[.int .i64 ((l37 0).i), .int .u16 ((l37 1).i), .int .i64 ((l37 2).i), .int .i64 ((l37 3).i), .int .u32 ((l37 4).i), .int .i64 ((l37 5).i), .int .u64 ((l37 6).i), .int .u16 ((l37 7).i), .int .i64 ((l37 8).i)])]) (.one (.sc (.row 1))) fun l38 =>
                                                                (.nx (builtin .append #[22, 22] 22 #[false, false] #[.slice ((l36 0).A) ((l36 0).n) ((l36 0).c), .slice (some ⟨(l38 0).n, 0, none⟩) 1 1]) (.one (.sc (.sl))) fun l39 =>
                                                                 (.unit (Instr.storeAt 22 (.pointer (some (a0.add 3))) (.slice ((l39 0).A) ((l39 0).n) ((l39 0).c)))
                                                                  (.done (.bool true))))))))))))))))))))
                                                (.rd (Instr.loadAt 23 (.pointer (some ⟨(l21 0).n, 0, none⟩))) (.one (.sc (.int .u32))) fun l40 =>
                                                 (.unit (Instr.storeAt 23 (.pointer (some (a0.add 2))) (.int .u32 ((l40 0).i)))
                                                  (.rd (Instr.loadAt 22 (.pointer (some (a0.add 3)))) (.one (.sc (.sl))) fun l41 =>
                                                   (.rd (Instr.loadAt 37 (.pointer (some ⟨(l27 0).n, 0, none⟩))) (.one (.agg [.int .i64, .int .u16, .int .i64, .int .i64, .int .u32, .int .i64, .int .u64, .int .u16, .int .i64])) fun l42 =>
                                                    (.sem (Instr.buildSlice 22 1 #[(0, .agg #[.int .i64 ((l42 0).i), .int .u16 ((l42 1).i), .int .i64 ((l42 2).i), .int .i64 ((l42 3).i), .int .u32 ((l42 4).i), .int .i64 ((l42 5).i), .int .u64 ((l42 6).i), .int .u16 ((l42 7).i), .int .i64 ((l42 8).i)])]) (.one (.sc (.row 1))) fun l43 =>
                                                     (.nx (builtin .append #[22, 22] 22 #[false, false] #[.slice ((l41 0).A) ((l41 0).n) ((l41 0).c), .slice (some ⟨(l43 0).n, 0, none⟩) 1 1]) (.one (.sc (.sl))) fun l44 =>
                                                      (.unit (Instr.storeAt 22 (.pointer (some (a0.add 3))) (.slice ((l44 0).A) ((l44 0).n) ((l44 0).c)))
                                                       (.done (.bool true)))))))))))))))))))))))))))))))))))))))))))))))))))))) h) : Fn Try.prog 56 #[.pointer (some a0), .slice Aa1 na1 ca1] I h Q :=
  Wp.fn (args := [.pointer (some a0), .slice Aa1 na1 ca1]) Try.func56 rfl (by kernel_rfl) (of_tree (cfg := g_octroiref06_Reader_update) 1000 (by kernel_rfl) Try.func56 rfl Try.checked.mixed hh)
theorem ca_octroiref06_Reader_update : callable Try.prog 56 := ⟨_, Try.func56, by kernel_rfl, by kernel_rfl⟩
/-! ### octroiref06_Reader_ask: function 57 of Go -/
abbrev F_octroiref06_Reader_ask : FuncId := 57
noncomputable def c_octroiref06_Reader_ask : Code := (Try.f57.body).getD .skip
def p_octroiref06_Reader_ask : Nat → List (List Nat) := fun r => match r with | 8 => [[], [0], [0, 1], [], [3], [3, 4], [3, 4, 5], [], [0, 1, 7], [0, 1, 2, 3, 4, 5, 6, 7, 8], [0, 1, 2, 3, 4, 5, 6, 7, 8, 9]] | 10 => [[], [0], [0, 1], [0, 1, 2], [], [], [4, 5], [0, 1, 2, 3, 4, 5, 6], [0, 1, 2, 3, 4, 5, 6, 7], [0, 1, 2, 3, 4, 5, 6, 7, 8], [0, 1, 2, 3, 4, 5, 6, 7, 8], [], [0, 1, 2, 3, 4, 5, 6, 7, 8, 9, 11], [0, 1, 2, 3, 4, 5, 6, 7, 8, 9, 10, 11, 12]] | 12 => [[], [], [1], [1, 2], [1, 2, 3], [], [5], [1, 2, 3, 4, 5, 6], [0, 1, 2, 3, 4, 5, 6, 7], [0, 1, 2, 3, 4, 5, 6, 7, 8], [0, 1, 2, 3, 4, 5, 6, 7, 8, 9]] | _ => []
noncomputable def g_octroiref06_Reader_ask : Cfg := { sh := shs, fsh := fshs, results := [.tmp 6], hint := fun _ _ => none, ord := fun r => match r with | 8 => some [0, 3, 4, 5, 6, 7, 1, 2, 8, 9, 10] | 10 => some [0, 1, 2, 3, 4, 5, 6, 7, 8, 9, 10, 11, 12, 13] | 12 => some [0, 1, 2, 3, 4, 5, 6, 7, 8, 9, 10] | _ => none, pre := p_octroiref06_Reader_ask, un := unOf p_octroiref06_Reader_ask }
set_option maxRecDepth 100000 in
set_option maxHeartbeats 4000000 in
theorem r_octroiref06_Reader_ask (a0 : Addr) (a1 : Int) (Aa2 : Option Addr) (na2 : Nat) (ca2 : Nat) {I : Ctx} {h : Mem} {Q : Value → Mem → Prop}
  (hh : holds Try.prog 57 I (cl_ Q)
   (.ite (decide ((((na2 : Nat) : Int) : Int) < 2))
    (.done (.bool false))
    (.rd (Instr.indexAt 25 (.slice Aa2 na2 ca2) (.int .i64 0)) (.one (.sc (.padr))) fun l1 =>
     (.rd (Instr.loadAt 5 (.pointer (some ((l1 0).a)))) (.one (.sc (.int .u8))) fun l2 =>
      (.ite (((l2 0).i : Int) != 1)
       (.done (.bool false))
       (.sem (Instr.alloc 37 true (.tuple #[])) shBlk fun l3 =>
        (.unit (Instr.storeAt 37 (.pointer (some ⟨(l3 0).n, 0, none⟩)) (.agg #[.int .i64 3, .int .u16 0, .int .i64 0, .int .i64 0, .int .u32 0, .int .i64 0, .int .u64 0, .int .u16 0, .int .i64 0]))
         (.ite ((a1 : Int) == 10)
          (.ite (decide ((((na2 : Nat) : Int) : Int) < 14))
           (.done (.bool false))
           (.rd (Instr.indexAt 25 (.slice Aa2 na2 ca2) (.int .i64 5)) (.one (.sc (.padr))) fun l4 =>
            (.rd (Instr.loadAt 5 (.pointer (some ((l4 0).a)))) (.one (.sc (.int .u8))) fun l5 =>
             (.ite (((l5 0).i : Int) != 0)
              (.done (.bool false))
              (.rd (Instr.indexAt 25 (.slice Aa2 na2 ca2) (.int .i64 4)) (.one (.sc (.padr))) fun l6 =>
               (.rd (Instr.loadAt 5 (.pointer (some ((l6 0).a)))) (.one (.sc (.int .u8))) fun l7 =>
                (.call 35 [.slice Aa2 na2 ca2, .int .i64 2] (.one (.sc (.int .i64))) fun l8 => -- octroiref06_num2
                 (.pin (vN (Instr.loadAt 5 (.pointer (some ((l6 0).a))))) (.int .u8 ((l7 0).i))
                  (.pin (vN (Instr.indexAt 25 (.slice Aa2 na2 ca2) (.int .i64 4))) (.pointer (some ((l6 0).a)))
                   (.call 64 [.slice Aa2 na2 ca2, .int .i64 6] (.one (.sc (.int .u64))) fun l9 => -- octroiref06_num8
                    (.pin (vN (Instr.loadAt 5 (.pointer (some ((l6 0).a))))) (.int .u8 ((l7 0).i))
                     (.pin (vN (Instr.indexAt 25 (.slice Aa2 na2 ca2) (.int .i64 4))) (.pointer (some ((l6 0).a)))
                      (.unit (Instr.storeAt 37 (.pointer (some ⟨(l3 0).n, 0, none⟩)) (.agg #[.int .i64 4, .int .u16 (IntKind.wrap .u16 ((l8 0).i)), .int .i64 0, .int .i64 0, .int .u32 0, .int .i64 0, .int .u64 ((l9 0).i), .int .u16 0, .int .i64 (IntKind.wrap .i64 ((l7 0).i))]))
                       (.rd (Instr.indexAt 25 (.slice Aa2 na2 ca2) (.int .i64 1)) (.one (.sc (.padr))) fun l10 =>
                        (.rd (Instr.loadAt 5 (.pointer (some ((l10 0).a)))) (.one (.sc (.int .u8))) fun l11 =>
                         (.rd (Instr.sliceAt 25 (.slice Aa2 na2 ca2) (some (.int .i64 14)) none none) (.one (.sc (.sl))) fun l12 =>
                          (.call 65 [.int .i64 (IntKind.wrap .i64 ((l11 0).i)), .slice ((l12 0).A) ((l12 0).n) ((l12 0).c)] (.tup [.agg [.int .u32, .int .i64], (.sc (.bool))]) fun l13 => -- octroiref06_prefix
                           (.sem (Instr.alloc 34 true (.tuple #[])) shBlk fun l14 =>
                            (.unit (Instr.storeAt 34 (.pointer (some ⟨(l14 0).n, 0, none⟩)) (.agg #[.int .u32 ((l13 0).i), .int .i64 ((l13 1).i)]))
                             (.rd (Instr.loadAt 34 (.pointer (some ⟨(l14 0).n, 0, none⟩))) (.one (.agg [.int .u32, .int .i64])) fun l15 =>
                              (.unit (Instr.storeAt 34 (.pointer (some ⟨(l3 0).n, 4, none⟩)) (.agg #[.int .u32 ((l15 0).i), .int .i64 ((l15 1).i)]))
                               (.rd (Instr.loadAt 22 (.pointer (some (a0.add 3)))) (.one (.sc (.sl))) fun l16 =>
                                (.rd (Instr.loadAt 37 (.pointer (some ⟨(l3 0).n, 0, none⟩))) (.one (.agg [.int .i64, .int .u16, .int .i64, .int .i64, .int .u32, .int .i64, .int .u64, .int .u16, .int .i64])) fun l17 =>
                                 (.sem (Instr.buildSlice 22 1 #[(0, .agg #[.int .i64 ((l17 0).i), .int .u16 ((l17 1).i), .int .i64 ((l17 2).i), .int .i64 ((l17 3).i), .int .u32 ((l17 4).i), .int .i64 ((l17 5).i), .int .u64 ((l17 6).i), .int .u16 ((l17 7).i), .int .i64 ((l17 8).i)])]) (.one (.sc (.row 1))) fun l18 =>
                                  (.nx (builtin .append #[22, 22] 22 #[false, false] #[.slice ((l16 0).A) ((l16 0).n) ((l16 0).c), .slice (some ⟨(l18 0).n, 0, none⟩) 1 1]) (.one (.sc (.sl))) fun l19 =>
                                   (.unit (Instr.storeAt 22 (.pointer (some (a0.add 3))) (.slice ((l19 0).A) ((l19 0).n) ((l19 0).c)))
                                    (.done (.bool ((l13 2).b)))))))))))))))))))))))))))))
          (.rd (Instr.indexAt 25 (.slice Aa2 na2 ca2) (.int .i64 1)) (.one (.sc (.padr))) fun l20 =>
           (.rd (Instr.loadAt 5 (.pointer (some ((l20 0).a)))) (.one (.sc (.int .u8))) fun l21 =>
            (.rd (Instr.sliceAt 25 (.slice Aa2 na2 ca2) (some (.int .i64 2)) none none) (.one (.sc (.sl))) fun l22 =>
             (.call 65 [.int .i64 (IntKind.wrap .i64 ((l21 0).i)), .slice ((l22 0).A) ((l22 0).n) ((l22 0).c)] (.tup [.agg [.int .u32, .int .i64], (.sc (.bool))]) fun l23 => -- octroiref06_prefix
              (.sem (Instr.alloc 34 true (.tuple #[])) shBlk fun l24 =>
               (.unit (Instr.storeAt 34 (.pointer (some ⟨(l24 0).n, 0, none⟩)) (.agg #[.int .u32 ((l23 0).i), .int .i64 ((l23 1).i)]))
                (.rd (Instr.loadAt 34 (.pointer (some ⟨(l24 0).n, 0, none⟩))) (.one (.agg [.int .u32, .int .i64])) fun l25 =>
                 (.unit (Instr.storeAt 34 (.pointer (some ⟨(l3 0).n, 4, none⟩)) (.agg #[.int .u32 ((l25 0).i), .int .i64 ((l25 1).i)]))
                  (.rd (Instr.loadAt 22 (.pointer (some (a0.add 3)))) (.one (.sc (.sl))) fun l26 =>
                   (.rd (Instr.loadAt 37 (.pointer (some ⟨(l3 0).n, 0, none⟩))) (.one (.agg [.int .i64, .int .u16, .int .i64, .int .i64, .int .u32, .int .i64, .int .u64, .int .u16, .int .i64])) fun l27 =>
                    (.sem (Instr.buildSlice 22 1 #[(0, .agg #[.int .i64 ((l27 0).i), .int .u16 ((l27 1).i), .int .i64 ((l27 2).i), .int .i64 ((l27 3).i), .int .u32 ((l27 4).i), .int .i64 ((l27 5).i), .int .u64 ((l27 6).i), .int .u16 ((l27 7).i), .int .i64 ((l27 8).i)])]) (.one (.sc (.row 1))) fun l28 =>
                     (.nx (builtin .append #[22, 22] 22 #[false, false] #[.slice ((l26 0).A) ((l26 0).n) ((l26 0).c), .slice (some ⟨(l28 0).n, 0, none⟩) 1 1]) (.one (.sc (.sl))) fun l29 =>
                      (.unit (Instr.storeAt 22 (.pointer (some (a0.add 3))) (.slice ((l29 0).A) ((l29 0).n) ((l29 0).c)))
                       (.done (.bool ((l23 2).b))))))))))))))))))))))) h) : Fn Try.prog 57 #[.pointer (some a0), .int .u8 a1, .slice Aa2 na2 ca2] I h Q :=
  Wp.fn (args := [.pointer (some a0), .int .u8 a1, .slice Aa2 na2 ca2]) Try.func57 rfl (by kernel_rfl) (of_tree (cfg := g_octroiref06_Reader_ask) 1000 (by kernel_rfl) Try.func57 rfl Try.checked.mixed hh)
theorem ca_octroiref06_Reader_ask : callable Try.prog 57 := ⟨_, Try.func57, by kernel_rfl, by kernel_rfl⟩
/-! ### prefix_Mask: function 58 of Go -/
abbrev F_prefix_Mask : FuncId := 58
noncomputable def c_prefix_Mask : Code := (Try.f58.body).getD .skip
noncomputable def g_prefix_Mask : Cfg := { sh := shs, fsh := fshs, results := [.tmp 2], hint := fun r i => match r, i with | 1, 4 => some (true, .one (.sc (.int .u32))) | _, _ => none, ord := fun _ => none, pre := fun _ => [], un := fun _ _ _ => false }
set_option maxRecDepth 100000 in
set_option maxHeartbeats 4000000 in
theorem r_prefix_Mask (a0 : Int) {I : Ctx} {h : Mem} {Q : Value → Mem → Prop}
  (hh : holds Try.prog 58 I (cl_ Q)
   (.rdn (binN .shl 23 (.int .u32 4294967295) (.int .i64 (IntKind.wrap .i64 (32 - (if (if (32 : Int) < a0 then 32 else a0 : Int) > 0 then if (32 : Int) < a0 then 32 else a0 else 0))))) (.one (.sc (.int .u32))) fun l1 =>
    (.done (.int .u32 ((l1 0).i)))) h) : Fn Try.prog 58 #[.int .i64 a0] I h Q :=
  Wp.fn (args := [.int .i64 a0]) Try.func58 rfl (by kernel_rfl) (of_tree (cfg := g_prefix_Mask) 1000 (by kernel_rfl) Try.func58 rfl Try.checked.mixed hh)
theorem ca_prefix_Mask : callable Try.prog 58 := ⟨_, Try.func58, by kernel_rfl, by kernel_rfl⟩
/-! ### babelpkt_needs: function 59 of Go -/
abbrev F_babelpkt_needs : FuncId := 59
noncomputable def c_babelpkt_needs : Code := (Try.f59.body).getD .skip
noncomputable def g_babelpkt_needs : Cfg := { sh := shs, fsh := fshs, results := [.tmp 2], hint := fun _ _ => none, ord := fun _ => none, pre := fun _ => [], un := fun _ _ _ => false }
set_option maxRecDepth 100000 in
set_option maxHeartbeats 4000000 in
theorem r_babelpkt_needs (a0 : Int) {I : Ctx} {h : Mem} {Q : Value → Mem → Prop}
  (hh : holds Try.prog 59 I (cl_ Q)
   (.done (.int .i64 (IntKind.wrap .i64 (Int.tdiv (IntKind.wrap .i64 (a0 + 7)) 8)))) h) : Fn Try.prog 59 #[.int .i64 a0] I h Q :=
  Wp.fn (args := [.int .i64 a0]) Try.func59 rfl (by kernel_rfl) (of_tree (cfg := g_babelpkt_needs) 1000 (by kernel_rfl) Try.func59 rfl Try.checked.mixed hh)
theorem ca_babelpkt_needs : callable Try.prog 59 := ⟨_, Try.func59, by kernel_rfl, by kernel_rfl⟩
/-! ### octroiref02_Mask: function 60 of Go -/
abbrev F_octroiref02_Mask : FuncId := 60
noncomputable def c_octroiref02_Mask : Code := (Try.f60.body).getD .skip
noncomputable def g_octroiref02_Mask : Cfg := { sh := shs, fsh := fshs, results := [.tmp 2], hint := fun _ _ => none, ord := fun _ => none, pre := fun _ => [], un := fun _ _ _ => false }
noncomputable def k_octroiref02_Mask_1 : List Item := [.code (bd (bd (sr (sl (sr (sr (sr c_octroiref02_Mask))))))), .inLoop (bd (bd (sr (sl (sr (sr (sr c_octroiref02_Mask))))))), .inBlock 0, .code (sr (sr (sr (sr c_octroiref02_Mask))))]
noncomputable def t_octroiref02_Mask_1 (a0 : Int) (x3 : Int) (x4 : Int) (x5 : Int) (u : Nat → Value) : List Value := [.int .i64 a0, undef, (u 2), .int .u32 x3, .int .u32 x4, .int .i64 x5, (u 6), (u 7), (u 8), (u 9), (u 10), (u 11), (u 12), (u 13), (u 14), (u 15), (u 16), (u 17), (u 18), (u 19), (u 20)]
set_option maxRecDepth 100000 in
set_option maxHeartbeats 4000000 in
theorem r_octroiref02_Mask (a0 : Int) {I : Ctx} {h : Mem} {Q : Value → Mem → Prop}
  (hh : holds Try.prog 60 I (cl_ Q)
   (.stop k_octroiref02_Mask_1 (t_octroiref02_Mask_1 a0 0 2147483648 0 (jl [(2, .int .u32 0), (6, undef), (7, undef), (8, undef), (9, undef), (10, undef), (11, undef), (12, undef), (13, undef), (14, undef), (15, undef), (16, undef), (17, undef), (18, undef), (19, undef), (20, undef)]))) h) : Fn Try.prog 60 #[.int .i64 a0] I h Q :=
  Wp.fn (args := [.int .i64 a0]) Try.func60 rfl (by kernel_rfl) (of_tree (cfg := g_octroiref02_Mask) 1000 (by kernel_rfl) Try.func60 rfl Try.checked.mixed hh)
theorem ca_octroiref02_Mask : callable Try.prog 60 := ⟨_, Try.func60, by kernel_rfl, by kernel_rfl⟩
set_option maxRecDepth 100000 in
set_option maxHeartbeats 4000000 in
theorem r_octroiref02_Mask_1 (a0 : Int) (x3 : Int) (x4 : Int) (x5 : Int) (u : Nat → Value) {I : Ctx} {h : Mem} {Q : Value → Mem → Prop}
  (hh : holds Try.prog 60 I Q
   (.ite (decide ((x5 : Int) < a0))
    (.ite (decide ((x5 : Int) < 32))
     (.stop k_octroiref02_Mask_1 (t_octroiref02_Mask_1 a0 (IntKind.wrap .u32 (x3 + x4)) (IntKind.wrap .u32 (Int.tdiv x4 2)) (IntKind.wrap .i64 (x5 + 1)) (jl [(2, (u 2)), (6, .int .i64 x5), (7, .int .i64 a0), (8, .bool (decide ((x5 : Int) < a0))), (9, .bool true), (10, .int .i64 x5), (11, .bool (decide ((x5 : Int) < 32))), (12, .bool (decide ((x5 : Int) < 32))), (13, .int .i64 x5), (14, .int .i64 (IntKind.wrap .i64 (x5 + 1))), (15, .int .u32 x3), (16, .int .u32 x4), (17, .int .u32 (IntKind.wrap .u32 (x3 + x4))), (18, .int .u32 x4), (19, .int .u32 (IntKind.wrap .u32 (Int.tdiv x4 2))), (20, (u 20))])))
     (.done (.int .u32 x3)))
    (.done (.int .u32 x3))) h) : Wp Try.prog 60 k_octroiref02_Mask_1 (t_octroiref02_Mask_1 a0 x3 x4 x5 u) I h Q :=
  of_tree (cfg := g_octroiref02_Mask) 1000 (by kernel_rfl) Try.func60 rfl Try.checked.mixed hh
/-! ### num_get: function 61 of Go -/
abbrev F_num_get : FuncId := 61
noncomputable def c_num_get : Code := (Try.f61.body).getD .skip
noncomputable def g_num_get : Cfg := { sh := shs, fsh := fshs, results := [.tmp 6, .tmp 7], hint := fun _ _ => none, ord := fun _ => none, pre := fun _ => [], un := fun _ _ _ => false }
noncomputable def k_num_get_1 : List Item := [.code (bd (bd (sr (sl (sr (sr c_num_get)))))), .inLoop (bd (bd (sr (sl (sr (sr c_num_get)))))), .inBlock 0, .code (sr (sr (sr c_num_get)))]
noncomputable def t_num_get_1 (Ay25 : Option Addr) (ny25 : Nat) (cy25 : Nat) (y26 : Int) (x6 : Int) (x27 : Int) (u : Nat → Value) : List Value := [(u 0), (u 1), (u 2), undef, undef, undef, .int .u32 x6, (u 7), undef, (u 9), (u 10), (u 11), (u 12), (u 13), (u 14), (u 15), (u 16), (u 17), (u 18), (u 19), (u 20), (u 21), (u 22), (u 23), (u 24), .slice Ay25 ny25 cy25, .int .i64 y26, .int .i64 x27, (u 28), (u 29), (u 30), (u 31), (u 32), (u 33), (u 34), (u 35), (u 36), (u 37)]
set_option maxRecDepth 100000 in
set_option maxHeartbeats 4000000 in
theorem r_num_get (Aa0 : Option Addr) (na0 : Nat) (ca0 : Nat) (a1 : Int) (a2 : Int) {I : Ctx} {h : Mem} {Q : Value → Mem → Prop}
  (hh : holds Try.prog 61 I (cl_ Q)
   (.ite (decide ((a1 : Int) < 0))
    (.done (.tuple #[.int .u32 0, .bool false]))
    (.ite (decide ((a1 : Int) > (IntKind.wrap .i64 (((na0 : Nat) : Int) - a2))))
     (.done (.tuple #[.int .u32 0, .bool false]))
     (.rd (Instr.sliceAt 25 (.slice Aa0 na0 ca0) (some (.int .i64 a1)) (some (.int .i64 (IntKind.wrap .i64 (a1 + a2)))) none) (.one (.sc (.sl))) fun l1 =>
      (.stop k_num_get_1 (t_num_get_1 ((l1 0).A) ((l1 0).n) ((l1 0).c) (((l1 0).n : Nat) : Int) 0 0 (jl [(0, .slice Aa0 na0 ca0), (1, .int .i64 a1), (2, .int .i64 a2), (7, .bool false), (9, undef), (10, .int .i64 a1), (11, .bool (decide ((a1 : Int) < 0))), (12, .bool false), (13, .int .i64 a1), (14, .slice Aa0 na0 ca0), (15, .int .i64 ((na0 : Nat) : Int)), (16, .int .i64 a2), (17, .int .i64 (IntKind.wrap .i64 (((na0 : Nat) : Int) - a2))), (18, .bool (decide ((a1 : Int) > (IntKind.wrap .i64 (((na0 : Nat) : Int) - a2))))), (19, .bool (decide ((a1 : Int) > (IntKind.wrap .i64 (((na0 : Nat) : Int) - a2))))), (20, .slice Aa0 na0 ca0), (21, .int .i64 a1), (22, .int .i64 a1), (23, .int .i64 a2), (24, .int .i64 (IntKind.wrap .i64 (a1 + a2))), (28, undef), (29, undef), (30, undef), (31, undef), (32, undef), (33, undef), (34, undef), (35, undef), (36, undef), (37, undef)])))))) h) : Fn Try.prog 61 #[.slice Aa0 na0 ca0, .int .i64 a1, .int .i64 a2] I h Q :=
  Wp.fn (args := [.slice Aa0 na0 ca0, .int .i64 a1, .int .i64 a2]) Try.func61 rfl (by kernel_rfl) (of_tree (cfg := g_num_get) 1000 (by kernel_rfl) Try.func61 rfl Try.checked.mixed hh)
theorem ca_num_get : callable Try.prog 61 := ⟨_, Try.func61, by kernel_rfl, by kernel_rfl⟩
set_option maxRecDepth 100000 in
set_option maxHeartbeats 4000000 in
theorem r_num_get_1 (Ay25 : Option Addr) (ny25 : Nat) (cy25 : Nat) (y26 : Int) (x6 : Int) (x27 : Int) (u : Nat → Value) {I : Ctx} {h : Mem} {Q : Value → Mem → Prop}
  (hh : holds Try.prog 61 I Q
   (.ite (decide ((x27 : Int) < y26))
    (.rd (Instr.indexAt 25 (.slice Ay25 ny25 cy25) (.int .i64 x27)) (.one (.sc (.padr))) fun l2 =>
     (.rd (Instr.loadAt 5 (.pointer (some ((l2 0).a)))) (.one (.sc (.int .u8))) fun l3 =>
      (.stop k_num_get_1 (t_num_get_1 Ay25 ny25 cy25 y26 (bitop .or .u32 (IntKind.wrap .u32 (x6 * 2 ^ 8)) (IntKind.wrap .u32 ((l3 0).i))) (IntKind.wrap .i64 (x27 + 1)) (jl [(0, (u 0)), (1, (u 1)), (2, (u 2)), (7, (u 7)), (9, .int .u8 ((l3 0).i)), (10, (u 10)), (11, (u 11)), (12, (u 12)), (13, (u 13)), (14, (u 14)), (15, (u 15)), (16, (u 16)), (17, (u 17)), (18, (u 18)), (19, (u 19)), (20, (u 20)), (21, (u 21)), (22, (u 22)), (23, (u 23)), (24, (u 24)), (28, .bool (decide ((x27 : Int) < y26))), (29, .pointer (some ((l2 0).a))), (30, .int .u8 ((l3 0).i)), (31, .int .u32 x6), (32, .int .u32 (IntKind.wrap .u32 (x6 * 2 ^ 8))), (33, .int .u8 ((l3 0).i)), (34, .int .u32 (IntKind.wrap .u32 ((l3 0).i))), (35, .int .u32 (bitop .or .u32 (IntKind.wrap .u32 (x6 * 2 ^ 8)) (IntKind.wrap .u32 ((l3 0).i)))), (36, .int .i64 (IntKind.wrap .i64 (x27 + 1))), (37, (u 37))])))))
    (.done (.tuple #[.int .u32 x6, .bool true]))) h) : Wp Try.prog 61 k_num_get_1 (t_num_get_1 Ay25 ny25 cy25 y26 x6 x27 u) I h Q :=
  of_tree (cfg := g_num_get) 1000 (by kernel_rfl) Try.func61 rfl Try.checked.mixed hh
/-! ### babelpkt_at8: function 62 of Go -/
abbrev F_babelpkt_at8 : FuncId := 62
noncomputable def c_babelpkt_at8 : Code := (Try.f62.body).getD .skip
noncomputable def g_babelpkt_at8 : Cfg := { sh := shs, fsh := fshs, results := [.tmp 4], hint := fun _ _ => none, ord := fun _ => none, pre := fun _ => [], un := fun _ _ _ => false }
set_option maxRecDepth 100000 in
set_option maxHeartbeats 4000000 in
theorem r_babelpkt_at8 (Aa0 : Option Addr) (na0 : Nat) (ca0 : Nat) (a1 : Int) {I : Ctx} {h : Mem} {Q : Value → Mem → Prop}
  (hh : holds Try.prog 62 I (cl_ Q)
   (.call 66 [.slice Aa0 na0 ca0, .int .i64 a1] (.tup [(.sc (.int .u32)), (.sc (.bool))]) fun l1 => -- num_Get32
    (.call 66 [.slice Aa0 na0 ca0, .int .i64 (IntKind.wrap .i64 (a1 + 4))] (.tup [(.sc (.int .u32)), (.sc (.bool))]) fun l2 => -- num_Get32
     (.done (.int .u64 (bitop .or .u64 (IntKind.wrap .u64 ((IntKind.wrap .u64 ((l1 0).i)) * 2 ^ 32)) (IntKind.wrap .u64 ((l2 0).i))))))) h) : Fn Try.prog 62 #[.slice Aa0 na0 ca0, .int .i64 a1] I h Q :=
  Wp.fn (args := [.slice Aa0 na0 ca0, .int .i64 a1]) Try.func62 rfl (by kernel_rfl) (of_tree (cfg := g_babelpkt_at8) 1000 (by kernel_rfl) Try.func62 rfl Try.checked.mixed hh)
theorem ca_babelpkt_at8 : callable Try.prog 62 := ⟨_, Try.func62, by kernel_rfl, by kernel_rfl⟩
/-! ### babelpkt_prefixOf: function 63 of Go -/
abbrev F_babelpkt_prefixOf : FuncId := 63
noncomputable def c_babelpkt_prefixOf : Code := (Try.f63.body).getD .skip
def p_babelpkt_prefixOf : Nat → List (List Nat) := fun r => match r with | 5 => [[], [], [1], [], [3], [1, 2, 3, 4], [1, 2, 3, 4, 5], [1, 2, 3, 4, 5, 6], [1, 2, 3, 4, 5, 6, 7], [1, 2, 3, 4, 5, 6, 7, 8], [0, 1, 2, 3, 4, 5, 6, 7, 8], [0, 1, 2, 3, 4, 5, 6, 7, 8, 9, 10]] | _ => []
noncomputable def g_babelpkt_prefixOf : Cfg := { sh := shs, fsh := fshs, results := [.cell 4 34, .tmp 5], hint := fun _ _ => none, ord := fun r => match r with | 5 => some [0, 1, 2, 3, 4, 5, 6, 7, 8, 9, 10, 11] | _ => none, pre := p_babelpkt_prefixOf, un := unOf p_babelpkt_prefixOf }
set_option maxRecDepth 100000 in
set_option maxHeartbeats 4000000 in
theorem r_babelpkt_prefixOf (a0 : Int) (Aa1 : Option Addr) (na1 : Nat) (ca1 : Nat) {I : Ctx} {h : Mem} {Q : Value → Mem → Prop}
  (hh : holds Try.prog 63 I (cl_ Q)
   (.sem (Instr.alloc 34 true (.tuple #[])) shBlk fun l1 =>
    (.sem (Instr.alloc 87 true (.tuple #[])) shBlk fun l2 =>
     (.rd (Instr.sliceAt 87 (.pointer (some ⟨(l2 0).n, 0, none⟩)) none none none) (.one (.sc (.sl))) fun l3 =>
      (.nx (builtin .copy #[25, 25] 3 #[false, false] #[.slice ((l3 0).A) ((l3 0).n) ((l3 0).c), .slice Aa1 na1 ca1]) (.one (.sc (.int .i64))) fun l4 =>
       (.rd (Instr.sliceAt 87 (.pointer (some ⟨(l2 0).n, 0, none⟩)) none none none) (.one (.sc (.sl))) fun l5 =>
        (.call 66 [.slice ((l5 0).A) ((l5 0).n) ((l5 0).c), .int .i64 0] (.tup [(.sc (.int .u32)), (.sc (.bool))]) fun l6 => -- num_Get32
         (.sem (Instr.alloc 34 true (.tuple #[])) shBlk fun l7 =>
          (.unit (Instr.storeAt 34 (.pointer (some ⟨(l7 0).n, 0, none⟩)) (.agg #[.int .u32 ((l6 0).i), .int .i64 a0]))
           (.rd (Instr.loadAt 34 (.pointer (some ⟨(l7 0).n, 0, none⟩))) (.one (.agg [.int .u32, .int .i64])) fun l8 =>
            (.call 59 [.int .i64 a0] (.one (.sc (.int .i64))) fun l9 => -- babelpkt_needs
             (.pin (vN (Instr.loadAt 34 (.pointer (some ⟨(l7 0).n, 0, none⟩)))) (.agg #[.int .u32 ((l8 0).i), .int .i64 ((l8 1).i)])
              (.ite ((((na1 : Nat) : Int) : Int) == ((l9 0).i))
               (.rd (Instr.loadAt 34 (.pointer (some ⟨(l7 0).n, 0, none⟩))) (.one (.agg [.int .u32, .int .i64])) fun l10 =>
                (.call 38 [.agg #[.int .u32 ((l10 0).i), .int .i64 ((l10 1).i)]] (.one (.sc (.bool))) fun l11 => -- prefix_May
                 (.pin (vN (Instr.loadAt 34 (.pointer (some ⟨(l7 0).n, 0, none⟩)))) (.agg #[.int .u32 ((l8 0).i), .int .i64 ((l8 1).i)])
                  (.unit (Instr.storeAt 34 (.pointer (some ⟨(l1 0).n, 0, none⟩)) (.agg #[.int .u32 ((l8 0).i), .int .i64 ((l8 1).i)]))
                   (.rd (loadVar 34 ⟨(l1 0).n, 0, none⟩) (.one (.agg [.int .u32, .int .i64])) fun l12 =>
                    (.done (.tuple #[.agg #[.int .u32 ((l12 0).i), .int .i64 ((l12 1).i)], .bool ((l11 0).b)])))))))
               (.unit (Instr.storeAt 34 (.pointer (some ⟨(l1 0).n, 0, none⟩)) (.agg #[.int .u32 ((l8 0).i), .int .i64 ((l8 1).i)]))
                (.rd (loadVar 34 ⟨(l1 0).n, 0, none⟩) (.one (.agg [.int .u32, .int .i64])) fun l13 =>
                 (.done (.tuple #[.agg #[.int .u32 ((l13 0).i), .int .i64 ((l13 1).i)], .bool false])))))))))))))))) h) : Fn Try.prog 63 #[.int .i64 a0, .slice Aa1 na1 ca1] I h Q :=
  Wp.fn (args := [.int .i64 a0, .slice Aa1 na1 ca1]) Try.func63 rfl (by kernel_rfl) (of_tree (cfg := g_babelpkt_prefixOf) 1000 (by kernel_rfl) Try.func63 rfl Try.checked.mixed hh)
theorem ca_babelpkt_prefixOf : callable Try.prog 63 := ⟨_, Try.func63, by kernel_rfl, by kernel_rfl⟩
/-! ### octroiref06_num8: function 64 of Go -/
abbrev F_octroiref06_num8 : FuncId := 64
noncomputable def c_octroiref06_num8 : Code := (Try.f64.body).getD .skip
noncomputable def g_octroiref06_num8 : Cfg := { sh := shs, fsh := fshs, results := [.tmp 4], hint := fun _ _ => none, ord := fun _ => none, pre := fun _ => [], un := fun _ _ _ => false }
set_option maxRecDepth 100000 in
set_option maxHeartbeats 4000000 in
theorem r_octroiref06_num8 (Aa0 : Option Addr) (na0 : Nat) (ca0 : Nat) (a1 : Int) {I : Ctx} {h : Mem} {Q : Value → Mem → Prop}
  (hh : holds Try.prog 64 I (cl_ Q)
   (.call 54 [.slice Aa0 na0 ca0, .int .i64 a1, .int .i64 4] (.tup [(.sc (.int .u32)), (.sc (.bool))]) fun l1 => -- octroiref01_Get
    (.call 54 [.slice Aa0 na0 ca0, .int .i64 (IntKind.wrap .i64 (a1 + 4)), .int .i64 4] (.tup [(.sc (.int .u32)), (.sc (.bool))]) fun l2 => -- octroiref01_Get
     (.done (.int .u64 (IntKind.wrap .u64 ((IntKind.wrap .u64 ((IntKind.wrap .u64 ((l1 0).i)) * 4294967296)) + (IntKind.wrap .u64 ((l2 0).i)))))))) h) : Fn Try.prog 64 #[.slice Aa0 na0 ca0, .int .i64 a1] I h Q :=
  Wp.fn (args := [.slice Aa0 na0 ca0, .int .i64 a1]) Try.func64 rfl (by kernel_rfl) (of_tree (cfg := g_octroiref06_num8) 1000 (by kernel_rfl) Try.func64 rfl Try.checked.mixed hh)
theorem ca_octroiref06_num8 : callable Try.prog 64 := ⟨_, Try.func64, by kernel_rfl, by kernel_rfl⟩
/-! ### octroiref06_prefix: function 65 of Go -/
abbrev F_octroiref06_prefix : FuncId := 65
noncomputable def c_octroiref06_prefix : Code := (Try.f65.body).getD .skip
noncomputable def g_octroiref06_prefix : Cfg := { sh := shs, fsh := fshs, results := [.cell 4 34, .tmp 5], hint := fun _ _ => none, ord := fun _ => none, pre := fun _ => [], un := fun _ _ _ => false }
noncomputable def k_octroiref06_prefix_1 : List Item := [.code (bd (bd (sl (sr (sr (sr c_octroiref06_prefix)))))), .inLoop (bd (bd (sl (sr (sr (sr c_octroiref06_prefix)))))), .inBlock 0, .code (sr (sr (sr (sr c_octroiref06_prefix))))]
noncomputable def t_octroiref06_prefix_1 (a0 : Int) (y4 : Nat) (A6 : Option Addr) (n6 : Nat) (c6 : Nat) (u : Nat → Value) : List Value := [.int .i64 a0, (u 1), undef, undef, .pointer (some ⟨y4, 0, none⟩), (u 5), .slice A6 n6 c6, (u 7), (u 8), (u 9), (u 10), (u 11), (u 12), (u 13), (u 14), (u 15), (u 16), (u 17), (u 18), (u 19), (u 20), (u 21), (u 22), (u 23), (u 24), (u 25), (u 26), (u 27), (u 28), (u 29), (u 30), (u 31), (u 32), (u 33), (u 34), (u 35), (u 36), (u 37), (u 38), (u 39), (u 40)]
set_option maxRecDepth 100000 in
set_option maxHeartbeats 4000000 in
theorem r_octroiref06_prefix (a0 : Int) (Aa1 : Option Addr) (na1 : Nat) (ca1 : Nat) {I : Ctx} {h : Mem} {Q : Value → Mem → Prop}
  (hh : holds Try.prog 65 I (cl_ Q)
   (.sem (Instr.alloc 34 true (.tuple #[])) shBlk fun l1 =>
    (.ite (decide ((a0 : Int) > 32))
     (.unit (Instr.storeAt 34 (.pointer (some ⟨(l1 0).n, 0, none⟩)) (.agg #[.int .u32 0, .int .i64 0]))
      (.rd (loadVar 34 ⟨(l1 0).n, 0, none⟩) (.one (.agg [.int .u32, .int .i64])) fun l2 =>
       (.done (.tuple #[.agg #[.int .u32 ((l2 0).i), .int .i64 ((l2 1).i)], .bool false]))))
     (.call 47 [.int .i64 a0] (.one (.sc (.int .i64))) fun l3 => -- octroiref06_needs
      (.ite ((((na1 : Nat) : Int) : Int) != ((l3 0).i))
       (.unit (Instr.storeAt 34 (.pointer (some ⟨(l1 0).n, 0, none⟩)) (.agg #[.int .u32 0, .int .i64 0]))
        (.rd (loadVar 34 ⟨(l1 0).n, 0, none⟩) (.one (.agg [.int .u32, .int .i64])) fun l4 =>
         (.done (.tuple #[.agg #[.int .u32 ((l4 0).i), .int .i64 ((l4 1).i)], .bool false]))))
       (.nx (builtin .append #[25, 25] 25 #[true, false] #[.slice none 0 0, .slice Aa1 na1 ca1]) (.one (.sc (.sl))) fun l5 =>
        (.stop k_octroiref06_prefix_1 (t_octroiref06_prefix_1 a0 ((l1 0).n) ((l5 0).A) ((l5 0).n) ((l5 0).c) (jl [(1, .slice Aa1 na1 ca1), (5, .bool false), (7, undef), (8, undef), (9, undef), (10, undef), (11, .int .i64 a0), (12, .bool (decide ((a0 : Int) > 32))), (13, .bool false), (14, .slice Aa1 na1 ca1), (15, .int .i64 ((na1 : Nat) : Int)), (16, .int .i64 a0), (17, .int .i64 ((l3 0).i)), (18, .bool ((((na1 : Nat) : Int) : Int) != ((l3 0).i))), (19, .bool ((((na1 : Nat) : Int) : Int) != ((l3 0).i))), (20, undef), (21, .slice Aa1 na1 ca1), (22, .slice ((l5 0).A) ((l5 0).n) ((l5 0).c)), (23, undef), (24, undef), (25, undef), (26, undef), (27, undef), (28, undef), (29, undef), (30, undef), (31, undef), (32, undef), (33, undef), (34, undef), (35, undef), (36, undef), (37, undef), (38, undef), (39, undef), (40, undef)])))))))) h) : Fn Try.prog 65 #[.int .i64 a0, .slice Aa1 na1 ca1] I h Q :=
  Wp.fn (args := [.int .i64 a0, .slice Aa1 na1 ca1]) Try.func65 rfl (by kernel_rfl) (of_tree (cfg := g_octroiref06_prefix) 1000 (by kernel_rfl) Try.func65 rfl Try.checked.mixed hh)
theorem ca_octroiref06_prefix : callable Try.prog 65 := ⟨_, Try.func65, by kernel_rfl, by kernel_rfl⟩
set_option maxRecDepth 100000 in
set_option maxHeartbeats 4000000 in
theorem r_octroiref06_prefix_1 (a0 : Int) (y4 : Nat) (A6 : Option Addr) (n6 : Nat) (c6 : Nat) (u : Nat → Value) {I : Ctx} {h : Mem} {Q : Value → Mem → Prop}
  (hh : holds Try.prog 65 I Q
   (.ite (decide ((((n6 : Nat) : Int) : Int) < 4))
    (.sem (Instr.buildSlice 25 1 #[(0, .int .u8 0)]) (.one (.sc (.row 1))) fun l6 =>
     (.nx (builtin .append #[25, 25] 25 #[false, false] #[.slice A6 n6 c6, .slice (some ⟨(l6 0).n, 0, none⟩) 1 1]) (.one (.sc (.sl))) fun l7 =>
      (.stop k_octroiref06_prefix_1 (t_octroiref06_prefix_1 a0 y4 ((l7 0).A) ((l7 0).n) ((l7 0).c) (jl [(1, (u 1)), (5, (u 5)), (7, (u 7)), (8, (u 8)), (9, (u 9)), (10, (u 10)), (11, (u 11)), (12, (u 12)), (13, (u 13)), (14, (u 14)), (15, (u 15)), (16, (u 16)), (17, (u 17)), (18, (u 18)), (19, (u 19)), (20, (u 20)), (21, (u 21)), (22, (u 22)), (23, .slice A6 n6 c6), (24, .int .i64 ((n6 : Nat) : Int)), (25, .bool (decide ((((n6 : Nat) : Int) : Int) < 4))), (26, .slice A6 n6 c6), (27, .slice (some ⟨(l6 0).n, 0, none⟩) 1 1), (28, .slice ((l7 0).A) ((l7 0).n) ((l7 0).c)), (29, (u 29)), (30, (u 30)), (31, (u 31)), (32, (u 32)), (33, (u 33)), (34, (u 34)), (35, (u 35)), (36, (u 36)), (37, (u 37)), (38, (u 38)), (39, (u 39)), (40, (u 40))])))))
    (.call 54 [.slice A6 n6 c6, .int .i64 0, .int .i64 4] (.tup [(.sc (.int .u32)), (.sc (.bool))]) fun l8 => -- octroiref01_Get
     (.sem (Instr.alloc 34 true (.tuple #[])) shBlk fun l9 =>
      (.unit (Instr.storeAt 34 (.pointer (some ⟨(l9 0).n, 0, none⟩)) (.agg #[.int .u32 ((l8 0).i), .int .i64 a0]))
       (.rd (Instr.loadAt 34 (.pointer (some ⟨(l9 0).n, 0, none⟩))) (.one (.agg [.int .u32, .int .i64])) fun l10 =>
        (.call 46 [.agg #[.int .u32 ((l10 0).i), .int .i64 ((l10 1).i)]] (.one (.sc (.bool))) fun l11 => -- octroiref02_May
         (.rd (Instr.loadAt 34 (.pointer (some ⟨(l9 0).n, 0, none⟩))) (.one (.agg [.int .u32, .int .i64])) fun l12 =>
          (.unit (Instr.storeAt 34 (.pointer (some ⟨y4, 0, none⟩)) (.agg #[.int .u32 ((l12 0).i), .int .i64 ((l12 1).i)]))
           (.rd (loadVar 34 ⟨y4, 0, none⟩) (.one (.agg [.int .u32, .int .i64])) fun l13 =>
            (.done (.tuple #[.agg #[.int .u32 ((l13 0).i), .int .i64 ((l13 1).i)], .bool ((l11 0).b)]))))))))))) h) : Wp Try.prog 65 k_octroiref06_prefix_1 (t_octroiref06_prefix_1 a0 y4 A6 n6 c6 u) I h Q :=
  of_tree (cfg := g_octroiref06_prefix) 1000 (by kernel_rfl) Try.func65 rfl Try.checked.mixed hh
/-! ### num_Get32: function 66 of Go -/
abbrev F_num_Get32 : FuncId := 66
noncomputable def c_num_Get32 : Code := (Try.f66.body).getD .skip
noncomputable def g_num_Get32 : Cfg := { sh := shs, fsh := fshs, results := [.tmp 4, .tmp 5], hint := fun _ _ => none, ord := fun _ => none, pre := fun _ => [], un := fun _ _ _ => false }
set_option maxRecDepth 100000 in
set_option maxHeartbeats 4000000 in
theorem r_num_Get32 (Aa0 : Option Addr) (na0 : Nat) (ca0 : Nat) (a1 : Int) {I : Ctx} {h : Mem} {Q : Value → Mem → Prop}
  (hh : holds Try.prog 66 I (cl_ Q)
   (.call 61 [.slice Aa0 na0 ca0, .int .i64 a1, .int .i64 4] (.tup [(.sc (.int .u32)), (.sc (.bool))]) fun l1 => -- num_get
    (.done (.tuple #[.int .u32 ((l1 0).i), .bool ((l1 1).b)]))) h) : Fn Try.prog 66 #[.slice Aa0 na0 ca0, .int .i64 a1] I h Q :=
  Wp.fn (args := [.slice Aa0 na0 ca0, .int .i64 a1]) Try.func66 rfl (by kernel_rfl) (of_tree (cfg := g_num_Get32) 1000 (by kernel_rfl) Try.func66 rfl Try.checked.mixed hh)
theorem ca_num_Get32 : callable Try.prog 66 := ⟨_, Try.func66, by kernel_rfl, by kernel_rfl⟩
end Go.Proofs.YtcfnliodgoenkaaS
