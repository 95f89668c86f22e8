import Derived.Test.YtkdakglnhipmaaaT0
set_option linter.unusedVariables false
namespace Go.Proofs.YtkdakglnhipmaaaS
/-! ### octroilaw07_DualpktEncodes: function 3 of Go -/
abbrev F_octroilaw07_DualpktEncodes : FuncId := 3
noncomputable def c_octroilaw07_DualpktEncodes : Code := (Try.f3.body).getD .skip
noncomputable def g_octroilaw07_DualpktEncodes : Cfg := { sh := shs, fsh := fshs, results := [.tmp 2], hint := fun r i => match r, i with | 6, 3 => some (true, .one (.sc (.str))) | 6, 5 => some (true, .one (.sc (.str))) | _, _ => none, ord := fun _ => none, pre := fun _ => [], un := fun _ _ _ => false }
set_option maxRecDepth 100000 in
theorem r_octroilaw07_DualpktEncodes (a0_0 : Int) (a0_1 : Bool) (a0_2 : Int) (a0_3 : Int) (Aa0_4 : Option Addr) (na0_4 : Nat) (ca0_4 : Nat) {I : Ctx} {h : Mem} {Q : Value → Mem → Prop}
  (hh : holds Try.prog 3 I (cl_ Q)
   (.sem (Instr.box 25 (.agg #[.int .i64 a0_0, .bool a0_1, .int .u32 a0_2, .int .u32 a0_3, .slice Aa0_4 na0_4 ca0_4])) shBlk fun l1 =>
    (.call 9 [] (.one (.sc (.bool))) fun l2 => -- octroilaw07_awake
     (.rd (Instr.loadAt 23 (.pointer (some ⟨(l1 0).n, 4, none⟩))) (.one (.sc (.sl))) fun l3 =>
      (.ite (decide (((((l3 0).n : Nat) : Int) : Int) > 100))
       (.done (.bool ((l2 0).b)))
       (.rd (Instr.loadAt 25 (.pointer (some ⟨(l1 0).n, 0, none⟩))) (.one (.agg [.int .i64, .bool, .int .u32, .int .u32, .sl])) fun l4 =>
        (.call 10 [.agg #[.int .i64 ((l4 0).i), .bool ((l4 1).b), .int .u32 ((l4 2).i), .int .u32 ((l4 3).i), .slice ((l4 4).A) ((l4 4).n) ((l4 4).c)]] (.tup [(.sc (.sl)), (.sc (.int .i64))]) fun l5 => -- dualpkt_Encode
         (.rd (Instr.loadAt 25 (.pointer (some ⟨(l1 0).n, 0, none⟩))) (.one (.agg [.int .i64, .bool, .int .u32, .int .u32, .sl])) fun l6 =>
          (.call 11 [.agg #[.int .i64 ((l6 0).i), .bool ((l6 1).b), .int .u32 ((l6 2).i), .int .u32 ((l6 3).i), .slice ((l6 4).A) ((l6 4).n) ((l6 4).c)]] (.tup [(.sc (.sl)), (.sc (.int .i64))]) fun l7 => -- octroiref07_Encode
           (.ite ((l2 0).b)
            (.rdn (convN 27 9 (.slice ((l5 0).A) ((l5 0).n) ((l5 0).c))) (.one (.sc (.str))) fun l8 =>
             (.rdn (convN 27 9 (.slice ((l7 0).A) ((l7 0).n) ((l7 0).c))) (.one (.sc (.str))) fun l9 =>
              (.ite (((l8 0).s).toList == ((l9 0).s).toList)
               (.done (.bool (((l5 1).i : Int) == ((l7 1).i))))
               (.done (.bool false)))))
            (.done (.bool false))))))))))) h) : Fn Try.prog 3 #[.agg #[.int .i64 a0_0, .bool a0_1, .int .u32 a0_2, .int .u32 a0_3, .slice Aa0_4 na0_4 ca0_4]] I h Q :=
  Wp.fn (args := [.agg #[.int .i64 a0_0, .bool a0_1, .int .u32 a0_2, .int .u32 a0_3, .slice Aa0_4 na0_4 ca0_4]]) Try.func3 rfl (by kernel_rfl) (of_tree (cfg := g_octroilaw07_DualpktEncodes) 1000 (by kernel_rfl) Try.func3 rfl Try.checked.mixed hh)
theorem ca_octroilaw07_DualpktEncodes : callable Try.prog 3 := ⟨_, Try.func3, by kernel_rfl, by kernel_rfl⟩
/-! ### octroilaw07_DualpktApart: function 4 of Go -/
abbrev F_octroilaw07_DualpktApart : FuncId := 4
noncomputable def c_octroilaw07_DualpktApart : Code := (Try.f4.body).getD .skip
noncomputable def g_octroilaw07_DualpktApart : Cfg := { sh := shs, fsh := fshs, results := [.tmp 4], hint := fun r i => match r, i with | 9, 1 => some (true, .one (.sc (.str))) | 9, 3 => some (true, .one (.sc (.str))) | _, _ => none, ord := fun _ => none, pre := fun _ => [], un := fun _ _ _ => false }
set_option maxRecDepth 100000 in
theorem r_octroilaw07_DualpktApart (a0_0 : Int) (a0_1 : Bool) (a0_2 : Int) (a0_3 : Int) (Aa0_4 : Option Addr) (na0_4 : Nat) (ca0_4 : Nat) (a1_0 : Int) (a1_1 : Bool) (a1_2 : Int) (a1_3 : Int) (Aa1_4 : Option Addr) (na1_4 : Nat) (ca1_4 : Nat) {I : Ctx} {h : Mem} {Q : Value → Mem → Prop}
  (hh : holds Try.prog 4 I (cl_ Q)
   (.sem (Instr.box 25 (.agg #[.int .i64 a0_0, .bool a0_1, .int .u32 a0_2, .int .u32 a0_3, .slice Aa0_4 na0_4 ca0_4])) shBlk fun l1 =>
    (.sem (Instr.box 25 (.agg #[.int .i64 a1_0, .bool a1_1, .int .u32 a1_2, .int .u32 a1_3, .slice Aa1_4 na1_4 ca1_4])) shBlk fun l2 =>
     (.call 9 [] (.one (.sc (.bool))) fun l3 => -- octroilaw07_awake
      (.ite (!((l3 0).b))
       (.done (.bool ((l3 0).b)))
       (.rd (Instr.loadAt 23 (.pointer (some ⟨(l1 0).n, 4, none⟩))) (.one (.sc (.sl))) fun l4 =>
        (.ite (decide (((((l4 0).n : Nat) : Int) : Int) > 40))
         (.done (.bool ((l3 0).b)))
         (.rd (Instr.loadAt 23 (.pointer (some ⟨(l2 0).n, 4, none⟩))) (.one (.sc (.sl))) fun l5 =>
          (.ite (decide (((((l5 0).n : Nat) : Int) : Int) > 40))
           (.done (.bool ((l3 0).b)))
           (.rd (Instr.loadAt 25 (.pointer (some ⟨(l1 0).n, 0, none⟩))) (.one (.agg [.int .i64, .bool, .int .u32, .int .u32, .sl])) fun l6 =>
            (.call 10 [.agg #[.int .i64 ((l6 0).i), .bool ((l6 1).b), .int .u32 ((l6 2).i), .int .u32 ((l6 3).i), .slice ((l6 4).A) ((l6 4).n) ((l6 4).c)]] (.tup [(.sc (.sl)), (.sc (.int .i64))]) fun l7 => -- dualpkt_Encode
             (.rd (Instr.loadAt 25 (.pointer (some ⟨(l2 0).n, 0, none⟩))) (.one (.agg [.int .i64, .bool, .int .u32, .int .u32, .sl])) fun l8 =>
              (.call 10 [.agg #[.int .i64 ((l8 0).i), .bool ((l8 1).b), .int .u32 ((l8 2).i), .int .u32 ((l8 3).i), .slice ((l8 4).A) ((l8 4).n) ((l8 4).c)]] (.tup [(.sc (.sl)), (.sc (.int .i64))]) fun l9 => -- dualpkt_Encode
               (.ite (((l7 1).i : Int) != 0)
                (.done (.bool true))
                (.ite (((l9 1).i : Int) != 0)
                 (.done (.bool true))
                 (.rd (Instr.loadAt 25 (.pointer (some ⟨(l1 0).n, 0, none⟩))) (.one (.agg [.int .i64, .bool, .int .u32, .int .u32, .sl])) fun l10 =>
                  (.rd (Instr.loadAt 25 (.pointer (some ⟨(l2 0).n, 0, none⟩))) (.one (.agg [.int .i64, .bool, .int .u32, .int .u32, .sl])) fun l11 =>
                   (.call 12 [.agg #[.int .i64 ((l10 0).i), .bool ((l10 1).b), .int .u32 ((l10 2).i), .int .u32 ((l10 3).i), .slice ((l10 4).A) ((l10 4).n) ((l10 4).c)], .agg #[.int .i64 ((l11 0).i), .bool ((l11 1).b), .int .u32 ((l11 2).i), .int .u32 ((l11 3).i), .slice ((l11 4).A) ((l11 4).n) ((l11 4).c)]] (.one (.sc (.bool))) fun l12 => -- octroiref07_Same
                    (.rdn (convN 27 9 (.slice ((l7 0).A) ((l7 0).n) ((l7 0).c))) (.one (.sc (.str))) fun l13 =>
                     (.rdn (convN 27 9 (.slice ((l9 0).A) ((l9 0).n) ((l9 0).c))) (.one (.sc (.str))) fun l14 =>
                      (.ite ((((l13 0).s).toList == ((l14 0).s).toList) == ((l12 0).b))
                       (.rd (Instr.loadAt 23 (.pointer (some ⟨(l1 0).n, 4, none⟩))) (.one (.sc (.sl))) fun l15 =>
                        (.done (.bool (((((l7 0).n : Nat) : Int) : Int) == (IntKind.wrap .i64 (16 + (IntKind.wrap .i64 (20 * (((l15 0).n : Nat) : Int)))))))))
                       (.done (.bool false)))))))))))))))))))))) h) : Fn Try.prog 4 #[.agg #[.int .i64 a0_0, .bool a0_1, .int .u32 a0_2, .int .u32 a0_3, .slice Aa0_4 na0_4 ca0_4], .agg #[.int .i64 a1_0, .bool a1_1, .int .u32 a1_2, .int .u32 a1_3, .slice Aa1_4 na1_4 ca1_4]] I h Q :=
  Wp.fn (args := [.agg #[.int .i64 a0_0, .bool a0_1, .int .u32 a0_2, .int .u32 a0_3, .slice Aa0_4 na0_4 ca0_4], .agg #[.int .i64 a1_0, .bool a1_1, .int .u32 a1_2, .int .u32 a1_3, .slice Aa1_4 na1_4 ca1_4]]) Try.func4 rfl (by kernel_rfl) (of_tree (cfg := g_octroilaw07_DualpktApart) 1000 (by kernel_rfl) Try.func4 rfl Try.checked.mixed hh)
theorem ca_octroilaw07_DualpktApart : callable Try.prog 4 := ⟨_, Try.func4, by kernel_rfl, by kernel_rfl⟩
/-! ### octroilaw07_DualpktDecodes: function 5 of Go -/
abbrev F_octroilaw07_DualpktDecodes : FuncId := 5
noncomputable def c_octroilaw07_DualpktDecodes : Code := (Try.f5.body).getD .skip
noncomputable def g_octroilaw07_DualpktDecodes : Cfg := { sh := shs, fsh := fshs, results := [.tmp 2], hint := fun _ _ => none, ord := fun _ => none, pre := fun _ => [], un := fun _ _ _ => false }
set_option maxRecDepth 100000 in
theorem r_octroilaw07_DualpktDecodes (Aa0 : Option Addr) (na0 : Nat) (ca0 : Nat) {I : Ctx} {h : Mem} {Q : Value → Mem → Prop}
  (hh : holds Try.prog 5 I (cl_ Q)
   (.call 9 [] (.one (.sc (.bool))) fun l1 => -- octroilaw07_awake
    (.ite (decide ((((na0 : Nat) : Int) : Int) > 3000))
     (.done (.bool ((l1 0).b)))
     (.call 13 [.slice Aa0 na0 ca0] (.tup [.agg [.int .i64, .bool, .int .u32, .int .u32, .sl], (.sc (.int .i64))]) fun l2 => -- dualpkt_Decode
      (.sem (Instr.alloc 25 true (.tuple #[])) shBlk fun l3 =>
       (.unit (Instr.storeAt 25 (.pointer (some ⟨(l3 0).n, 0, none⟩)) (.agg #[.int .i64 ((l2 0).i), .bool ((l2 1).b), .int .u32 ((l2 2).i), .int .u32 ((l2 3).i), .slice ((l2 4).A) ((l2 4).n) ((l2 4).c)]))
        (.call 14 [.slice Aa0 na0 ca0] (.tup [.agg [.int .i64, .bool, .int .u32, .int .u32, .sl], (.sc (.int .i64))]) fun l4 => -- octroiref07_Decode
         (.sem (Instr.alloc 25 true (.tuple #[])) shBlk fun l5 =>
          (.unit (Instr.storeAt 25 (.pointer (some ⟨(l5 0).n, 0, none⟩)) (.agg #[.int .i64 ((l4 0).i), .bool ((l4 1).b), .int .u32 ((l4 2).i), .int .u32 ((l4 3).i), .slice ((l4 4).A) ((l4 4).n) ((l4 4).c)]))
           (.rd (Instr.loadAt 25 (.pointer (some ⟨(l3 0).n, 0, none⟩))) (.one (.agg [.int .i64, .bool, .int .u32, .int .u32, .sl])) fun l6 =>
            (.rd (Instr.loadAt 25 (.pointer (some ⟨(l5 0).n, 0, none⟩))) (.one (.agg [.int .i64, .bool, .int .u32, .int .u32, .sl])) fun l7 =>
             (.call 12 [.agg #[.int .i64 ((l6 0).i), .bool ((l6 1).b), .int .u32 ((l6 2).i), .int .u32 ((l6 3).i), .slice ((l6 4).A) ((l6 4).n) ((l6 4).c)], .agg #[.int .i64 ((l7 0).i), .bool ((l7 1).b), .int .u32 ((l7 2).i), .int .u32 ((l7 3).i), .slice ((l7 4).A) ((l7 4).n) ((l7 4).c)]] (.one (.sc (.bool))) fun l8 => -- octroiref07_Same
              (.ite ((l1 0).b)
               (.ite ((l8 0).b)
                (.done (.bool (((l2 5).i : Int) == ((l4 5).i))))
                (.done (.bool false)))
               (.done (.bool false)))))))))))))) h) : Fn Try.prog 5 #[.slice Aa0 na0 ca0] I h Q :=
  Wp.fn (args := [.slice Aa0 na0 ca0]) Try.func5 rfl (by kernel_rfl) (of_tree (cfg := g_octroilaw07_DualpktDecodes) 1000 (by kernel_rfl) Try.func5 rfl Try.checked.mixed hh)
theorem ca_octroilaw07_DualpktDecodes : callable Try.prog 5 := ⟨_, Try.func5, by kernel_rfl, by kernel_rfl⟩
/-! ### octroilaw07_DualpktBack: function 6 of Go -/
abbrev F_octroilaw07_DualpktBack : FuncId := 6
noncomputable def c_octroilaw07_DualpktBack : Code := (Try.f6.body).getD .skip
noncomputable def g_octroilaw07_DualpktBack : Cfg := { sh := shs, fsh := fshs, results := [.tmp 2], hint := fun _ _ => none, ord := fun _ => none, pre := fun _ => [], un := fun _ _ _ => false }
set_option maxRecDepth 100000 in
theorem r_octroilaw07_DualpktBack (a0_0 : Int) (a0_1 : Bool) (a0_2 : Int) (a0_3 : Int) (Aa0_4 : Option Addr) (na0_4 : Nat) (ca0_4 : Nat) {I : Ctx} {h : Mem} {Q : Value → Mem → Prop}
  (hh : holds Try.prog 6 I (cl_ Q)
   (.sem (Instr.box 25 (.agg #[.int .i64 a0_0, .bool a0_1, .int .u32 a0_2, .int .u32 a0_3, .slice Aa0_4 na0_4 ca0_4])) shBlk fun l1 =>
    (.call 9 [] (.one (.sc (.bool))) fun l2 => -- octroilaw07_awake
     (.rd (Instr.loadAt 23 (.pointer (some ⟨(l1 0).n, 4, none⟩))) (.one (.sc (.sl))) fun l3 =>
      (.ite (decide (((((l3 0).n : Nat) : Int) : Int) > 100))
       (.done (.bool ((l2 0).b)))
       (.rd (Instr.loadAt 25 (.pointer (some ⟨(l1 0).n, 0, none⟩))) (.one (.agg [.int .i64, .bool, .int .u32, .int .u32, .sl])) fun l4 =>
        (.call 10 [.agg #[.int .i64 ((l4 0).i), .bool ((l4 1).b), .int .u32 ((l4 2).i), .int .u32 ((l4 3).i), .slice ((l4 4).A) ((l4 4).n) ((l4 4).c)]] (.tup [(.sc (.sl)), (.sc (.int .i64))]) fun l5 => -- dualpkt_Encode
         (.call 13 [.slice ((l5 0).A) ((l5 0).n) ((l5 0).c)] (.tup [.agg [.int .i64, .bool, .int .u32, .int .u32, .sl], (.sc (.int .i64))]) fun l6 => -- dualpkt_Decode
          (.sem (Instr.alloc 25 true (.tuple #[])) shBlk fun l7 =>
           (.unit (Instr.storeAt 25 (.pointer (some ⟨(l7 0).n, 0, none⟩)) (.agg #[.int .i64 ((l6 0).i), .bool ((l6 1).b), .int .u32 ((l6 2).i), .int .u32 ((l6 3).i), .slice ((l6 4).A) ((l6 4).n) ((l6 4).c)]))
            (.rd (Instr.loadAt 25 (.pointer (some ⟨(l1 0).n, 0, none⟩))) (.one (.agg [.int .i64, .bool, .int .u32, .int .u32, .sl])) fun l8 =>
             (.rd (Instr.loadAt 25 (.pointer (some ⟨(l7 0).n, 0, none⟩))) (.one (.agg [.int .i64, .bool, .int .u32, .int .u32, .sl])) fun l9 =>
              (.call 12 [.agg #[.int .i64 ((l8 0).i), .bool ((l8 1).b), .int .u32 ((l8 2).i), .int .u32 ((l8 3).i), .slice ((l8 4).A) ((l8 4).n) ((l8 4).c)], .agg #[.int .i64 ((l9 0).i), .bool ((l9 1).b), .int .u32 ((l9 2).i), .int .u32 ((l9 3).i), .slice ((l9 4).A) ((l9 4).n) ((l9 4).c)]] (.one (.sc (.bool))) fun l10 => -- octroiref07_Same
               (.ite (((l5 1).i : Int) != 0)
                (.ite ((l2 0).b)
                 (.ite (((((l5 0).n : Nat) : Int) : Int) == 0)
                  (.done (.bool (((l6 5).i : Int) == 2)))
                  (.done (.bool false)))
                 (.done (.bool false)))
                (.ite ((l2 0).b)
                 (.ite (((l6 5).i : Int) == 0)
                  (.done (.bool ((l10 0).b)))
                  (.done (.bool false)))
                 (.done (.bool false)))))))))))))))) h) : Fn Try.prog 6 #[.agg #[.int .i64 a0_0, .bool a0_1, .int .u32 a0_2, .int .u32 a0_3, .slice Aa0_4 na0_4 ca0_4]] I h Q :=
  Wp.fn (args := [.agg #[.int .i64 a0_0, .bool a0_1, .int .u32 a0_2, .int .u32 a0_3, .slice Aa0_4 na0_4 ca0_4]]) Try.func6 rfl (by kernel_rfl) (of_tree (cfg := g_octroilaw07_DualpktBack) 1000 (by kernel_rfl) Try.func6 rfl Try.checked.mixed hh)
theorem ca_octroilaw07_DualpktBack : callable Try.prog 6 := ⟨_, Try.func6, by kernel_rfl, by kernel_rfl⟩
/-! ### octroilaw07_DualpktOnce: function 7 of Go -/
abbrev F_octroilaw07_DualpktOnce : FuncId := 7
noncomputable def c_octroilaw07_DualpktOnce : Code := (Try.f7.body).getD .skip
noncomputable def g_octroilaw07_DualpktOnce : Cfg := { sh := shs, fsh := fshs, results := [.tmp 2], hint := fun r i => match r, i with | 8, 7 => some (true, .one (.sc (.str))) | 8, 9 => some (true, .one (.sc (.str))) | _, _ => none, ord := fun _ => none, pre := fun _ => [], un := fun _ _ _ => false }
set_option maxRecDepth 100000 in
theorem r_octroilaw07_DualpktOnce (Aa0 : Option Addr) (na0 : Nat) (ca0 : Nat) {I : Ctx} {h : Mem} {Q : Value → Mem → Prop}
  (hh : holds Try.prog 7 I (cl_ Q)
   (.call 9 [] (.one (.sc (.bool))) fun l1 => -- octroilaw07_awake
    (.ite (decide ((((na0 : Nat) : Int) : Int) > 3000))
     (.done (.bool ((l1 0).b)))
     (.call 13 [.slice Aa0 na0 ca0] (.tup [.agg [.int .i64, .bool, .int .u32, .int .u32, .sl], (.sc (.int .i64))]) fun l2 => -- dualpkt_Decode
      (.sem (Instr.alloc 25 true (.tuple #[])) shBlk fun l3 =>
       (.unit (Instr.storeAt 25 (.pointer (some ⟨(l3 0).n, 0, none⟩)) (.agg #[.int .i64 ((l2 0).i), .bool ((l2 1).b), .int .u32 ((l2 2).i), .int .u32 ((l2 3).i), .slice ((l2 4).A) ((l2 4).n) ((l2 4).c)]))
        (.ite (((l2 5).i : Int) != 0)
         (.ite ((l1 0).b)
          (.rd (Instr.loadAt 23 (.pointer (some ⟨(l3 0).n, 4, none⟩))) (.one (.sc (.sl))) fun l4 =>
           (.done (.bool (((((l4 0).n : Nat) : Int) : Int) == 0))))
          (.done (.bool false)))
         (.rd (Instr.loadAt 25 (.pointer (some ⟨(l3 0).n, 0, none⟩))) (.one (.agg [.int .i64, .bool, .int .u32, .int .u32, .sl])) fun l5 =>
          (.call 10 [.agg #[.int .i64 ((l5 0).i), .bool ((l5 1).b), .int .u32 ((l5 2).i), .int .u32 ((l5 3).i), .slice ((l5 4).A) ((l5 4).n) ((l5 4).c)]] (.tup [(.sc (.sl)), (.sc (.int .i64))]) fun l6 => -- dualpkt_Encode
           (.ite ((l1 0).b)
            (.ite (((l6 1).i : Int) == 0)
             (.rdn (convN 27 9 (.slice ((l6 0).A) ((l6 0).n) ((l6 0).c))) (.one (.sc (.str))) fun l7 =>
              (.rdn (convN 27 9 (.slice Aa0 na0 ca0)) (.one (.sc (.str))) fun l8 =>
               (.done (.bool (((l7 0).s).toList == ((l8 0).s).toList)))))
             (.done (.bool false)))
            (.done (.bool false))))))))))) h) : Fn Try.prog 7 #[.slice Aa0 na0 ca0] I h Q :=
  Wp.fn (args := [.slice Aa0 na0 ca0]) Try.func7 rfl (by kernel_rfl) (of_tree (cfg := g_octroilaw07_DualpktOnce) 1000 (by kernel_rfl) Try.func7 rfl Try.checked.mixed hh)
theorem ca_octroilaw07_DualpktOnce : callable Try.prog 7 := ⟨_, Try.func7, by kernel_rfl, by kernel_rfl⟩
/-! ### octroilaw07_DualpktSpoils: function 8 of Go -/
abbrev F_octroilaw07_DualpktSpoils : FuncId := 8
noncomputable def c_octroilaw07_DualpktSpoils : Code := (Try.f8.body).getD .skip
noncomputable def g_octroilaw07_DualpktSpoils : Cfg := { sh := shs, fsh := fshs, results := [.tmp 6], hint := fun _ _ => none, ord := fun _ => none, pre := fun _ => [], un := fun _ _ _ => false }
set_option maxRecDepth 100000 in
theorem r_octroilaw07_DualpktSpoils (a0_0 : Int) (a0_1 : Bool) (a0_2 : Int) (a0_3 : Int) (Aa0_4 : Option Addr) (na0_4 : Nat) (ca0_4 : Nat) (a1 : Int) (a2 : Int) {I : Ctx} {h : Mem} {Q : Value → Mem → Prop}
  (hh : holds Try.prog 8 I (cl_ Q)
   (.sem (Instr.box 25 (.agg #[.int .i64 a0_0, .bool a0_1, .int .u32 a0_2, .int .u32 a0_3, .slice Aa0_4 na0_4 ca0_4])) shBlk fun l1 =>
    (.call 9 [] (.one (.sc (.bool))) fun l2 => -- octroilaw07_awake
     (.ite (!((l2 0).b))
      (.done (.bool ((l2 0).b)))
      (.rd (Instr.loadAt 23 (.pointer (some ⟨(l1 0).n, 4, none⟩))) (.one (.sc (.sl))) fun l3 =>
       (.ite (decide (((((l3 0).n : Nat) : Int) : Int) > 40))
        (.done (.bool ((l2 0).b)))
        (.ite (decide ((a1 : Int) < 0))
         (.done (.bool ((l2 0).b)))
         (.rd (Instr.loadAt 25 (.pointer (some ⟨(l1 0).n, 0, none⟩))) (.one (.agg [.int .i64, .bool, .int .u32, .int .u32, .sl])) fun l4 =>
          (.call 10 [.agg #[.int .i64 ((l4 0).i), .bool ((l4 1).b), .int .u32 ((l4 2).i), .int .u32 ((l4 3).i), .slice ((l4 4).A) ((l4 4).n) ((l4 4).c)]] (.tup [(.sc (.sl)), (.sc (.int .i64))]) fun l5 => -- dualpkt_Encode
           (.ite (((l5 1).i : Int) != 0)
            (.done (.bool true))
            (.ite (decide ((a1 : Int) ≥ (((l5 0).n : Nat) : Int)))
             (.done (.bool true))
             (.rd (Instr.indexAt 27 (.slice ((l5 0).A) ((l5 0).n) ((l5 0).c)) (.int .i64 a1)) (.one (.sc (.padr))) fun l6 =>
              (.rd (Instr.loadAt 5 (.pointer (some ((l6 0).a)))) (.one (.sc (.int .u8))) fun l7 =>
               (.ite (((l7 0).i : Int) == a2)
                (.done (.bool true))
                (.rd (Instr.indexAt 27 (.slice ((l5 0).A) ((l5 0).n) ((l5 0).c)) (.int .i64 a1)) (.one (.sc (.padr))) fun l8 =>
                 (.unit (Instr.storeAt 5 (.pointer (some ((l8 0).a))) (.int .u8 a2))
                  (.call 13 [.slice ((l5 0).A) ((l5 0).n) ((l5 0).c)] (.tup [.agg [.int .i64, .bool, .int .u32, .int .u32, .sl], (.sc (.int .i64))]) fun l9 => -- dualpkt_Decode
                   (.sem (Instr.alloc 25 true (.tuple #[])) shBlk fun l10 =>
                    (.unit (Instr.storeAt 25 (.pointer (some ⟨(l10 0).n, 0, none⟩)) (.agg #[.int .i64 ((l9 0).i), .bool ((l9 1).b), .int .u32 ((l9 2).i), .int .u32 ((l9 3).i), .slice ((l9 4).A) ((l9 4).n) ((l9 4).c)]))
                     (.done (.bool (((l9 5).i : Int) != 0))))))))))))))))))))) h) : Fn Try.prog 8 #[.agg #[.int .i64 a0_0, .bool a0_1, .int .u32 a0_2, .int .u32 a0_3, .slice Aa0_4 na0_4 ca0_4], .int .i64 a1, .int .u8 a2] I h Q :=
  Wp.fn (args := [.agg #[.int .i64 a0_0, .bool a0_1, .int .u32 a0_2, .int .u32 a0_3, .slice Aa0_4 na0_4 ca0_4], .int .i64 a1, .int .u8 a2]) Try.func8 rfl (by kernel_rfl) (of_tree (cfg := g_octroilaw07_DualpktSpoils) 1000 (by kernel_rfl) Try.func8 rfl Try.checked.mixed hh)
theorem ca_octroilaw07_DualpktSpoils : callable Try.prog 8 := ⟨_, Try.func8, by kernel_rfl, by kernel_rfl⟩
/-! ### octroilaw07_awake: function 9 of Go -/
abbrev F_octroilaw07_awake : FuncId := 9
noncomputable def c_octroilaw07_awake : Code := (Try.f9.body).getD .skip
noncomputable def g_octroilaw07_awake : Cfg := { sh := shs, fsh := fshs, results := [.tmp 0], hint := fun _ _ => none, ord := fun _ => none, pre := fun _ => [], un := fun _ _ _ => false }
set_option maxRecDepth 100000 in
theorem r_octroilaw07_awake  {I : Ctx} {h : Mem} {Q : Value → Mem → Prop}
  (hh : holds Try.prog 9 I (cl_ Q)
   (.call 10 [.agg #[.int .i64 0, .bool false, .int .u32 0, .int .u32 0, .slice none 0 0]] (.tup [(.sc (.sl)), (.sc (.int .i64))]) fun l1 => -- dualpkt_Encode
    (.ite (((l1 1).i : Int) == 0)
     (.ite (((((l1 0).n : Nat) : Int) : Int) == 16)
      (.rd (Instr.indexAt 27 (.slice ((l1 0).A) ((l1 0).n) ((l1 0).c)) (.int .i64 0)) (.one (.sc (.padr))) fun l2 =>
       (.rd (Instr.loadAt 5 (.pointer (some ((l2 0).a)))) (.one (.sc (.int .u8))) fun l3 =>
        (.ite (((l3 0).i : Int) == 2)
         (.rd (Instr.indexAt 27 (.slice ((l1 0).A) ((l1 0).n) ((l1 0).c)) (.int .i64 2)) (.one (.sc (.padr))) fun l4 =>
          (.rd (Instr.loadAt 5 (.pointer (some ((l4 0).a)))) (.one (.sc (.int .u8))) fun l5 =>
           (.ite (((l5 0).i : Int) == 253)
            (.rd (Instr.indexAt 27 (.slice ((l1 0).A) ((l1 0).n) ((l1 0).c)) (.int .i64 3)) (.one (.sc (.padr))) fun l6 =>
             (.rd (Instr.loadAt 5 (.pointer (some ((l6 0).a)))) (.one (.sc (.int .u8))) fun l7 =>
              (.done (.bool (((l7 0).i : Int) == 255)))))
            (.done (.bool false)))))
         (.done (.bool false)))))
      (.done (.bool false)))
     (.done (.bool false)))) h) : Fn Try.prog 9 #[] I h Q :=
  Wp.fn (args := []) Try.func9 rfl (by kernel_rfl) (of_tree (cfg := g_octroilaw07_awake) 1000 (by kernel_rfl) Try.func9 rfl Try.checked.mixed hh)
theorem ca_octroilaw07_awake : callable Try.prog 9 := ⟨_, Try.func9, by kernel_rfl, by kernel_rfl⟩
/-! ### dualpkt_Encode: function 10 of Go -/
abbrev F_dualpkt_Encode : FuncId := 10
noncomputable def c_dualpkt_Encode : Code := (Try.f10.body).getD .skip
def p_dualpkt_Encode : Nat → List (List Nat) := fun r => match r with | 11 => [[], [0], [0, 1], [], [0, 1, 2, 3], [], [5], [5, 6], [], [8], [5, 6, 7, 8, 9], [0, 1, 2, 3, 4, 5, 6, 7, 8, 9, 10], [0, 1, 2, 3, 4, 5, 6, 7, 8, 9, 10, 11], [0, 1, 2, 3, 4, 5, 6, 7, 8, 9, 10, 11, 12]] | 17 => [[], [0], [], [2], [0, 1, 2, 3]] | _ => []
noncomputable def g_dualpkt_Encode : Cfg := { sh := shs, fsh := fshs, results := [.tmp 2, .tmp 3], hint := fun _ _ => none, ord := fun r => match r with | 11 => some [0, 1, 2, 3, 5, 6, 8, 9, 7, 10, 4, 11, 12, 13] | 17 => some [0, 1, 2, 3, 4] | _ => none, pre := p_dualpkt_Encode, un := unOf p_dualpkt_Encode }
noncomputable def k_dualpkt_Encode_1 : List Item := [.code (bd (bd (sr (sl (sr (sr (sr (sr (sr (sr c_dualpkt_Encode)))))))))), .inLoop (bd (bd (sr (sl (sr (sr (sr (sr (sr (sr c_dualpkt_Encode)))))))))), .inBlock 1, .code (sr (sr (sr (sr (sr (sr (sr c_dualpkt_Encode)))))))]
noncomputable def t_dualpkt_Encode_1 (Ay52 : Option Addr) (ny52 : Nat) (cy52 : Nat) (y53 : Int) (A6 : Option Addr) (n6 : Nat) (c6 : Nat) (x54 : Int) (u : Nat → Value) : List Value := [(u 0), (u 1), (u 2), (u 3), (u 4), (u 5), .slice A6 n6 c6, undef, (u 8), (u 9), (u 10), (u 11), (u 12), (u 13), (u 14), (u 15), (u 16), (u 17), (u 18), (u 19), (u 20), (u 21), (u 22), (u 23), (u 24), (u 25), (u 26), (u 27), (u 28), (u 29), (u 30), (u 31), (u 32), (u 33), (u 34), (u 35), (u 36), (u 37), (u 38), (u 39), (u 40), (u 41), (u 42), (u 43), (u 44), (u 45), (u 46), (u 47), (u 48), (u 49), (u 50), (u 51), .slice Ay52 ny52 cy52, .int .i64 y53, .int .i64 x54, (u 55), (u 56), (u 57), (u 58), (u 59), (u 60), (u 61), (u 62), (u 63), (u 64), (u 65), (u 66), (u 67), (u 68)]
set_option maxRecDepth 100000 in
theorem r_dualpkt_Encode (a0_0 : Int) (a0_1 : Bool) (a0_2 : Int) (a0_3 : Int) (Aa0_4 : Option Addr) (na0_4 : Nat) (ca0_4 : Nat) {I : Ctx} {h : Mem} {Q : Value → Mem → Prop}
  (hh : holds Try.prog 10 I (cl_ Q)
   (.sem (Instr.box 25 (.agg #[.int .i64 a0_0, .bool a0_1, .int .u32 a0_2, .int .u32 a0_3, .slice Aa0_4 na0_4 ca0_4])) shBlk fun l1 =>
    (.rd (Instr.loadAt 23 (.pointer (some ⟨(l1 0).n, 4, none⟩))) (.one (.sc (.sl))) fun l2 =>
     (.ite (decide (((((l2 0).n : Nat) : Int) : Int) > 40))
      (.done (.tuple #[.slice none 0 0, .int .i64 9]))
      (.rd (Instr.loadAt 3 (.pointer (some ⟨(l1 0).n, 0, none⟩))) (.one (.sc (.int .i64))) fun l3 =>
       (.ite (decide (((l3 0).i : Int) < 0))
        (.done (.tuple #[.slice none 0 0, .int .i64 1]))
        (.rd (Instr.loadAt 3 (.pointer (some ⟨(l1 0).n, 0, none⟩))) (.one (.sc (.int .i64))) fun l4 =>
         (.ite (decide (((l4 0).i : Int) > 3))
          (.ite (decide (((l4 0).i : Int) > 3))
           (.done (.tuple #[.slice none 0 0, .int .i64 1]))
           (.rd (Instr.loadAt 4 (.pointer (some ⟨(l1 0).n, 1, none⟩))) (.one (.sc (.bool))) fun l5 =>
            (.ite ((l5 0).b)
             (.rd (Instr.loadAt 3 (.pointer (some ⟨(l1 0).n, 0, none⟩))) (.one (.sc (.int .i64))) fun l6 =>
              (.rd (Instr.loadAt 22 (.pointer (some ⟨(l1 0).n, 2, none⟩))) (.one (.sc (.int .u32))) fun l7 =>
               (.rd (Instr.loadAt 22 (.pointer (some ⟨(l1 0).n, 3, none⟩))) (.one (.sc (.int .u32))) fun l8 =>
                (.call 19 [.int .u32 ((l7 0).i)] (.one (.sc (.sl))) fun l9 => -- num_Put32
                 (.pin (vN (Instr.loadAt 22 (.pointer (some ⟨(l1 0).n, 3, none⟩)))) (.int .u32 ((l8 0).i))
                  (.pin (vN (Instr.loadAt 3 (.pointer (some ⟨(l1 0).n, 0, none⟩)))) (.int .i64 ((l6 0).i))
                   (.call 19 [.int .u32 ((l8 0).i)] (.one (.sc (.sl))) fun l10 => -- num_Put32
                    (.pin (vN (Instr.loadAt 3 (.pointer (some ⟨(l1 0).n, 0, none⟩)))) (.int .i64 ((l6 0).i))
                     (.sem (Instr.buildSlice 27 8 #[(0, .int .u8 2), (1, .int .u8 (IntKind.wrap .u8 ((l6 0).i))), (2, .int .u8 0), (3, .int .u8 0), (4, .int .u8 1), (5, .int .u8 0), (6, .int .u8 0), (7, .int .u8 0)]) (.one (.sc (.row 8))) fun l11 =>
                      (.sem (Instr.buildSlice 61 3 #[(0, .slice (some ⟨(l11 0).n, 0, none⟩) 8 8), (1, .slice ((l9 0).A) ((l9 0).n) ((l9 0).c)), (2, .slice ((l10 0).A) ((l10 0).n) ((l10 0).c))]) (.one (.sc (.row 3))) fun l12 =>
                       (.call 18 [.slice (some ⟨(l12 0).n, 0, none⟩) 3 3] (.one (.sc (.sl))) fun l13 => -- slices_Concat_byte
                        (.rd (Instr.loadAt 23 (.pointer (some ⟨(l1 0).n, 4, none⟩))) (.one (.sc (.sl))) fun l14 =>
                         (.stop k_dualpkt_Encode_1 (t_dualpkt_Encode_1 ((l14 0).A) ((l14 0).n) ((l14 0).c) (((l14 0).n : Nat) : Int) ((l13 0).A) ((l13 0).n) ((l13 0).c) 0 (jl [(0, .agg #[.int .i64 a0_0, .bool a0_1, .int .u32 a0_2, .int .u32 a0_3, .slice Aa0_4 na0_4 ca0_4]), (1, .pointer (some ⟨(l1 0).n, 0, none⟩)), (2, .slice none 0 0), (3, .int .i64 0), (4, .func (.func 15) #[] #[]), (5, .int .u8 1), (8, undef), (9, .bool (decide (((((l2 0).n : Nat) : Int) : Int) > 40))), (10, .pointer (some ⟨(l1 0).n, 4, none⟩)), (11, .slice ((l2 0).A) ((l2 0).n) ((l2 0).c)), (12, .int .i64 (((l2 0).n : Nat) : Int)), (13, .bool (decide (((((l2 0).n : Nat) : Int) : Int) > 40))), (14, .bool (decide (((l4 0).i : Int) > 3))), (15, .pointer (some ⟨(l1 0).n, 0, none⟩)), (16, .int .i64 ((l3 0).i)), (17, .bool (decide (((l3 0).i : Int) < 0))), (18, .bool false), (19, .pointer (some ⟨(l1 0).n, 0, none⟩)), (20, .int .i64 ((l4 0).i)), (21, .bool (decide (((l4 0).i : Int) > 3))), (22, .bool (decide (((l4 0).i : Int) > 3))), (23, undef), (24, undef), (25, undef), (26, undef), (27, undef), (28, undef), (29, undef), (30, undef), (31, undef), (32, undef), (33, undef), (34, undef), (35, undef), (36, .pointer (some ⟨(l1 0).n, 1, none⟩)), (37, .bool ((l5 0).b)), (38, .pointer (some ⟨(l1 0).n, 0, none⟩)), (39, .int .i64 ((l6 0).i)), (40, .int .u8 (IntKind.wrap .u8 ((l6 0).i))), (41, .int .u8 1), (42, .slice (some ⟨(l11 0).n, 0, none⟩) 8 8), (43, .pointer (some ⟨(l1 0).n, 2, none⟩)), (44, .int .u32 ((l7 0).i)), (45, .slice ((l9 0).A) ((l9 0).n) ((l9 0).c)), (46, .pointer (some ⟨(l1 0).n, 3, none⟩)), (47, .int .u32 ((l8 0).i)), (48, .slice ((l10 0).A) ((l10 0).n) ((l10 0).c)), (49, .slice (some ⟨(l12 0).n, 0, none⟩) 3 3), (50, .slice ((l13 0).A) ((l13 0).n) ((l13 0).c)), (51, .pointer (some ⟨(l1 0).n, 4, none⟩)), (55, undef), (56, undef), (57, undef), (58, undef), (59, undef), (60, undef), (61, undef), (62, undef), (63, undef), (64, undef), (65, undef), (66, undef), (67, undef), (68, undef)])))))))))))))))
             (.rd (Instr.loadAt 3 (.pointer (some ⟨(l1 0).n, 0, none⟩))) (.one (.sc (.int .i64))) fun l15 =>
              (.rd (Instr.loadAt 22 (.pointer (some ⟨(l1 0).n, 2, none⟩))) (.one (.sc (.int .u32))) fun l16 =>
               (.rd (Instr.loadAt 22 (.pointer (some ⟨(l1 0).n, 3, none⟩))) (.one (.sc (.int .u32))) fun l17 =>
                (.call 19 [.int .u32 ((l16 0).i)] (.one (.sc (.sl))) fun l18 => -- num_Put32
                 (.pin (vN (Instr.loadAt 22 (.pointer (some ⟨(l1 0).n, 3, none⟩)))) (.int .u32 ((l17 0).i))
                  (.pin (vN (Instr.loadAt 3 (.pointer (some ⟨(l1 0).n, 0, none⟩)))) (.int .i64 ((l15 0).i))
                   (.call 19 [.int .u32 ((l17 0).i)] (.one (.sc (.sl))) fun l19 => -- num_Put32
                    (.pin (vN (Instr.loadAt 3 (.pointer (some ⟨(l1 0).n, 0, none⟩)))) (.int .i64 ((l15 0).i))
                     (.sem (Instr.buildSlice 27 8 #[(0, .int .u8 2), (1, .int .u8 (IntKind.wrap .u8 ((l15 0).i))), (2, .int .u8 0), (3, .int .u8 0), (4, .int .u8 0), (5, .int .u8 0), (6, .int .u8 0), (7, .int .u8 0)]) (.one (.sc (.row 8))) fun l20 =>
                      (.sem (Instr.buildSlice 61 3 #[(0, .slice (some ⟨(l20 0).n, 0, none⟩) 8 8), (1, .slice ((l18 0).A) ((l18 0).n) ((l18 0).c)), (2, .slice ((l19 0).A) ((l19 0).n) ((l19 0).c))]) (.one (.sc (.row 3))) fun l21 =>
                       (.call 18 [.slice (some ⟨(l21 0).n, 0, none⟩) 3 3] (.one (.sc (.sl))) fun l22 => -- slices_Concat_byte
                        (.rd (Instr.loadAt 23 (.pointer (some ⟨(l1 0).n, 4, none⟩))) (.one (.sc (.sl))) fun l23 =>
                         (.stop k_dualpkt_Encode_1 (t_dualpkt_Encode_1 ((l23 0).A) ((l23 0).n) ((l23 0).c) (((l23 0).n : Nat) : Int) ((l22 0).A) ((l22 0).n) ((l22 0).c) 0 (jl [(0, .agg #[.int .i64 a0_0, .bool a0_1, .int .u32 a0_2, .int .u32 a0_3, .slice Aa0_4 na0_4 ca0_4]), (1, .pointer (some ⟨(l1 0).n, 0, none⟩)), (2, .slice none 0 0), (3, .int .i64 0), (4, .func (.func 15) #[] #[]), (5, .int .u8 0), (8, undef), (9, .bool (decide (((((l2 0).n : Nat) : Int) : Int) > 40))), (10, .pointer (some ⟨(l1 0).n, 4, none⟩)), (11, .slice ((l2 0).A) ((l2 0).n) ((l2 0).c)), (12, .int .i64 (((l2 0).n : Nat) : Int)), (13, .bool (decide (((((l2 0).n : Nat) : Int) : Int) > 40))), (14, .bool (decide (((l4 0).i : Int) > 3))), (15, .pointer (some ⟨(l1 0).n, 0, none⟩)), (16, .int .i64 ((l3 0).i)), (17, .bool (decide (((l3 0).i : Int) < 0))), (18, .bool false), (19, .pointer (some ⟨(l1 0).n, 0, none⟩)), (20, .int .i64 ((l4 0).i)), (21, .bool (decide (((l4 0).i : Int) > 3))), (22, .bool (decide (((l4 0).i : Int) > 3))), (23, undef), (24, undef), (25, undef), (26, undef), (27, undef), (28, undef), (29, undef), (30, undef), (31, undef), (32, undef), (33, undef), (34, undef), (35, undef), (36, .pointer (some ⟨(l1 0).n, 1, none⟩)), (37, .bool ((l5 0).b)), (38, .pointer (some ⟨(l1 0).n, 0, none⟩)), (39, .int .i64 ((l15 0).i)), (40, .int .u8 (IntKind.wrap .u8 ((l15 0).i))), (41, .int .u8 0), (42, .slice (some ⟨(l20 0).n, 0, none⟩) 8 8), (43, .pointer (some ⟨(l1 0).n, 2, none⟩)), (44, .int .u32 ((l16 0).i)), (45, .slice ((l18 0).A) ((l18 0).n) ((l18 0).c)), (46, .pointer (some ⟨(l1 0).n, 3, none⟩)), (47, .int .u32 ((l17 0).i)), (48, .slice ((l19 0).A) ((l19 0).n) ((l19 0).c)), (49, .slice (some ⟨(l21 0).n, 0, none⟩) 3 3), (50, .slice ((l22 0).A) ((l22 0).n) ((l22 0).c)), (51, .pointer (some ⟨(l1 0).n, 4, none⟩)), (55, undef), (56, undef), (57, undef), (58, undef), (59, undef), (60, undef), (61, undef), (62, undef), (63, undef), (64, undef), (65, undef), (66, undef), (67, undef), (68, undef)]))))))))))))))))))
          (.rd (Instr.loadAt 3 (.pointer (some ⟨(l1 0).n, 0, none⟩))) (.one (.sc (.int .i64))) fun l24 =>
           (.ite (((l24 0).i : Int) == 0)
            (.rd (Instr.loadAt 23 (.pointer (some ⟨(l1 0).n, 4, none⟩))) (.one (.sc (.sl))) fun l25 =>
             (.ite (decide (((((l25 0).n : Nat) : Int) : Int) > 0))
              (.ite (decide (((((l25 0).n : Nat) : Int) : Int) > 0))
               (.done (.tuple #[.slice none 0 0, .int .i64 1]))
               (.rd (Instr.loadAt 4 (.pointer (some ⟨(l1 0).n, 1, none⟩))) (.one (.sc (.bool))) fun l26 =>
                (.ite ((l26 0).b)
                 (.rd (Instr.loadAt 3 (.pointer (some ⟨(l1 0).n, 0, none⟩))) (.one (.sc (.int .i64))) fun l27 =>
                  (.rd (Instr.loadAt 22 (.pointer (some ⟨(l1 0).n, 2, none⟩))) (.one (.sc (.int .u32))) fun l28 =>
                   (.rd (Instr.loadAt 22 (.pointer (some ⟨(l1 0).n, 3, none⟩))) (.one (.sc (.int .u32))) fun l29 =>
                    (.call 19 [.int .u32 ((l28 0).i)] (.one (.sc (.sl))) fun l30 => -- num_Put32
                     (.pin (vN (Instr.loadAt 22 (.pointer (some ⟨(l1 0).n, 3, none⟩)))) (.int .u32 ((l29 0).i))
                      (.pin (vN (Instr.loadAt 3 (.pointer (some ⟨(l1 0).n, 0, none⟩)))) (.int .i64 ((l27 0).i))
                       (.call 19 [.int .u32 ((l29 0).i)] (.one (.sc (.sl))) fun l31 => -- num_Put32
                        (.pin (vN (Instr.loadAt 3 (.pointer (some ⟨(l1 0).n, 0, none⟩)))) (.int .i64 ((l27 0).i))
                         (.sem (Instr.buildSlice 27 8 #[(0, .int .u8 2), (1, .int .u8 (IntKind.wrap .u8 ((l27 0).i))), (2, .int .u8 0), (3, .int .u8 0), (4, .int .u8 1), (5, .int .u8 0), (6, .int .u8 0), (7, .int .u8 0)]) (.one (.sc (.row 8))) fun l32 =>
                          (.sem (Instr.buildSlice 61 3 #[(0, .slice (some ⟨(l32 0).n, 0, none⟩) 8 8), (1, .slice ((l30 0).A) ((l30 0).n) ((l30 0).c)), (2, .slice ((l31 0).A) ((l31 0).n) ((l31 0).c))]) (.one (.sc (.row 3))) fun l33 =>
                           (.call 18 [.slice (some ⟨(l33 0).n, 0, none⟩) 3 3] (.one (.sc (.sl))) fun l34 => -- slices_Concat_byte
                            (.rd (Instr.loadAt 23 (.pointer (some ⟨(l1 0).n, 4, none⟩))) (.one (.sc (.sl))) fun l35 =>
                             (.stop k_dualpkt_Encode_1 (t_dualpkt_Encode_1 ((l35 0).A) ((l35 0).n) ((l35 0).c) (((l35 0).n : Nat) : Int) ((l34 0).A) ((l34 0).n) ((l34 0).c) 0 (jl [(0, .agg #[.int .i64 a0_0, .bool a0_1, .int .u32 a0_2, .int .u32 a0_3, .slice Aa0_4 na0_4 ca0_4]), (1, .pointer (some ⟨(l1 0).n, 0, none⟩)), (2, .slice none 0 0), (3, .int .i64 0), (4, .func (.func 15) #[] #[]), (5, .int .u8 1), (8, undef), (9, .bool (decide (((((l2 0).n : Nat) : Int) : Int) > 40))), (10, .pointer (some ⟨(l1 0).n, 4, none⟩)), (11, .slice ((l2 0).A) ((l2 0).n) ((l2 0).c)), (12, .int .i64 (((l2 0).n : Nat) : Int)), (13, .bool (decide (((((l2 0).n : Nat) : Int) : Int) > 40))), (14, .bool (decide (((((l25 0).n : Nat) : Int) : Int) > 0))), (15, .pointer (some ⟨(l1 0).n, 0, none⟩)), (16, .int .i64 ((l3 0).i)), (17, .bool (decide (((l3 0).i : Int) < 0))), (18, .bool false), (19, .pointer (some ⟨(l1 0).n, 0, none⟩)), (20, .int .i64 ((l4 0).i)), (21, .bool (decide (((l4 0).i : Int) > 3))), (22, .bool (decide (((l4 0).i : Int) > 3))), (23, .pointer (some ⟨(l1 0).n, 0, none⟩)), (24, .int .i64 ((l24 0).i)), (25, .bool (((l24 0).i : Int) == 0)), (26, .bool true), (27, .pointer (some ⟨(l1 0).n, 4, none⟩)), (28, .slice ((l25 0).A) ((l25 0).n) ((l25 0).c)), (29, .int .i64 (((l25 0).n : Nat) : Int)), (30, .bool (decide (((((l25 0).n : Nat) : Int) : Int) > 0))), (31, .bool (decide (((((l25 0).n : Nat) : Int) : Int) > 0))), (32, undef), (33, undef), (34, undef), (35, undef), (36, .pointer (some ⟨(l1 0).n, 1, none⟩)), (37, .bool ((l26 0).b)), (38, .pointer (some ⟨(l1 0).n, 0, none⟩)), (39, .int .i64 ((l27 0).i)), (40, .int .u8 (IntKind.wrap .u8 ((l27 0).i))), (41, .int .u8 1), (42, .slice (some ⟨(l32 0).n, 0, none⟩) 8 8), (43, .pointer (some ⟨(l1 0).n, 2, none⟩)), (44, .int .u32 ((l28 0).i)), (45, .slice ((l30 0).A) ((l30 0).n) ((l30 0).c)), (46, .pointer (some ⟨(l1 0).n, 3, none⟩)), (47, .int .u32 ((l29 0).i)), (48, .slice ((l31 0).A) ((l31 0).n) ((l31 0).c)), (49, .slice (some ⟨(l33 0).n, 0, none⟩) 3 3), (50, .slice ((l34 0).A) ((l34 0).n) ((l34 0).c)), (51, .pointer (some ⟨(l1 0).n, 4, none⟩)), (55, undef), (56, undef), (57, undef), (58, undef), (59, undef), (60, undef), (61, undef), (62, undef), (63, undef), (64, undef), (65, undef), (66, undef), (67, undef), (68, undef)])))))))))))))))
                 (.rd (Instr.loadAt 3 (.pointer (some ⟨(l1 0).n, 0, none⟩))) (.one (.sc (.int .i64))) fun l36 =>
                  (.rd (Instr.loadAt 22 (.pointer (some ⟨(l1 0).n, 2, none⟩))) (.one (.sc (.int .u32))) fun l37 =>
                   (.rd (Instr.loadAt 22 (.pointer (some ⟨(l1 0).n, 3, none⟩))) (.one (.sc (.int .u32))) fun l38 =>
                    (.call 19 [.int .u32 ((l37 0).i)] (.one (.sc (.sl))) fun l39 => -- num_Put32
                     (.pin (vN (Instr.loadAt 22 (.pointer (some ⟨(l1 0).n, 3, none⟩)))) (.int .u32 ((l38 0).i))
                      (.pin (vN (Instr.loadAt 3 (.pointer (some ⟨(l1 0).n, 0, none⟩)))) (.int .i64 ((l36 0).i))
                       (.call 19 [.int .u32 ((l38 0).i)] (.one (.sc (.sl))) fun l40 => -- num_Put32
                        (.pin (vN (Instr.loadAt 3 (.pointer (some ⟨(l1 0).n, 0, none⟩)))) (.int .i64 ((l36 0).i))
                         (.sem (Instr.buildSlice 27 8 #[(0, .int .u8 2), (1, .int .u8 (IntKind.wrap .u8 ((l36 0).i))), (2, .int .u8 0), (3, .int .u8 0), (4, .int .u8 0), (5, .int .u8 0), (6, .int .u8 0), (7, .int .u8 0)]) (.one (.sc (.row 8))) fun l41 =>
                          (.sem (Instr.buildSlice 61 3 #[(0, .slice (some ⟨(l41 0).n, 0, none⟩) 8 8), (1, .slice ((l39 0).A) ((l39 0).n) ((l39 0).c)), (2, .slice ((l40 0).A) ((l40 0).n) ((l40 0).c))]) (.one (.sc (.row 3))) fun l42 =>
                           (.call 18 [.slice (some ⟨(l42 0).n, 0, none⟩) 3 3] (.one (.sc (.sl))) fun l43 => -- slices_Concat_byte
                            (.rd (Instr.loadAt 23 (.pointer (some ⟨(l1 0).n, 4, none⟩))) (.one (.sc (.sl))) fun l44 =>
                             (.stop k_dualpkt_Encode_1 (t_dualpkt_Encode_1 ((l44 0).A) ((l44 0).n) ((l44 0).c) (((l44 0).n : Nat) : Int) ((l43 0).A) ((l43 0).n) ((l43 0).c) 0 (jl [(0, .agg #[.int .i64 a0_0, .bool a0_1, .int .u32 a0_2, .int .u32 a0_3, .slice Aa0_4 na0_4 ca0_4]), (1, .pointer (some ⟨(l1 0).n, 0, none⟩)), (2, .slice none 0 0), (3, .int .i64 0), (4, .func (.func 15) #[] #[]), (5, .int .u8 0), (8, undef), (9, .bool (decide (((((l2 0).n : Nat) : Int) : Int) > 40))), (10, .pointer (some ⟨(l1 0).n, 4, none⟩)), (11, .slice ((l2 0).A) ((l2 0).n) ((l2 0).c)), (12, .int .i64 (((l2 0).n : Nat) : Int)), (13, .bool (decide (((((l2 0).n : Nat) : Int) : Int) > 40))), (14, .bool (decide (((((l25 0).n : Nat) : Int) : Int) > 0))), (15, .pointer (some ⟨(l1 0).n, 0, none⟩)), (16, .int .i64 ((l3 0).i)), (17, .bool (decide (((l3 0).i : Int) < 0))), (18, .bool false), (19, .pointer (some ⟨(l1 0).n, 0, none⟩)), (20, .int .i64 ((l4 0).i)), (21, .bool (decide (((l4 0).i : Int) > 3))), (22, .bool (decide (((l4 0).i : Int) > 3))), (23, .pointer (some ⟨(l1 0).n, 0, none⟩)), (24, .int .i64 ((l24 0).i)), (25, .bool (((l24 0).i : Int) == 0)), (26, .bool true), (27, .pointer (some ⟨(l1 0).n, 4, none⟩)), (28, .slice ((l25 0).A) ((l25 0).n) ((l25 0).c)), (29, .int .i64 (((l25 0).n : Nat) : Int)), (30, .bool (decide (((((l25 0).n : Nat) : Int) : Int) > 0))), (31, .bool (decide (((((l25 0).n : Nat) : Int) : Int) > 0))), (32, undef), (33, undef), (34, undef), (35, undef), (36, .pointer (some ⟨(l1 0).n, 1, none⟩)), (37, .bool ((l26 0).b)), (38, .pointer (some ⟨(l1 0).n, 0, none⟩)), (39, .int .i64 ((l36 0).i)), (40, .int .u8 (IntKind.wrap .u8 ((l36 0).i))), (41, .int .u8 0), (42, .slice (some ⟨(l41 0).n, 0, none⟩) 8 8), (43, .pointer (some ⟨(l1 0).n, 2, none⟩)), (44, .int .u32 ((l37 0).i)), (45, .slice ((l39 0).A) ((l39 0).n) ((l39 0).c)), (46, .pointer (some ⟨(l1 0).n, 3, none⟩)), (47, .int .u32 ((l38 0).i)), (48, .slice ((l40 0).A) ((l40 0).n) ((l40 0).c)), (49, .slice (some ⟨(l42 0).n, 0, none⟩) 3 3), (50, .slice ((l43 0).A) ((l43 0).n) ((l43 0).c)), (51, .pointer (some ⟨(l1 0).n, 4, none⟩)), (55, undef), (56, undef), (57, undef), (58, undef), (59, undef), (60, undef), (61, undef), (62, undef), (63, undef), (64, undef), (65, undef), (66, undef), (67, undef), (68, undef)]))))))))))))))))))
              (.rd (Instr.loadAt 23 (.pointer (some ⟨(l1 0).n, 4, none⟩))) (.one (.sc (.sl))) fun l45 =>
               (.call 17 [.slice ((l45 0).A) ((l45 0).n) ((l45 0).c), .func (.func 15) #[] #[]] (.one (.sc (.bool))) fun l46 => -- slices_ContainsFunc_DualEntry
                (.ite ((l46 0).b)
                 (.done (.tuple #[.slice none 0 0, .int .i64 1]))
                 (.rd (Instr.loadAt 4 (.pointer (some ⟨(l1 0).n, 1, none⟩))) (.one (.sc (.bool))) fun l47 =>
                  (.ite ((l47 0).b)
                   (.rd (Instr.loadAt 3 (.pointer (some ⟨(l1 0).n, 0, none⟩))) (.one (.sc (.int .i64))) fun l48 =>
                    (.rd (Instr.loadAt 22 (.pointer (some ⟨(l1 0).n, 2, none⟩))) (.one (.sc (.int .u32))) fun l49 =>
                     (.rd (Instr.loadAt 22 (.pointer (some ⟨(l1 0).n, 3, none⟩))) (.one (.sc (.int .u32))) fun l50 =>
                      (.call 19 [.int .u32 ((l49 0).i)] (.one (.sc (.sl))) fun l51 => -- num_Put32
                       (.pin (vN (Instr.loadAt 22 (.pointer (some ⟨(l1 0).n, 3, none⟩)))) (.int .u32 ((l50 0).i))
                        (.pin (vN (Instr.loadAt 3 (.pointer (some ⟨(l1 0).n, 0, none⟩)))) (.int .i64 ((l48 0).i))
                         (.call 19 [.int .u32 ((l50 0).i)] (.one (.sc (.sl))) fun l52 => -- num_Put32
                          (.pin (vN (Instr.loadAt 3 (.pointer (some ⟨(l1 0).n, 0, none⟩)))) (.int .i64 ((l48 0).i))
                           (.sem (Instr.buildSlice 27 8 #[(0, .int .u8 2), (1, .int .u8 (IntKind.wrap .u8 ((l48 0).i))), (2, .int .u8 0), (3, .int .u8 0), (4, .int .u8 1), (5, .int .u8 0), (6, .int .u8 0), (7, .int .u8 0)]) (.one (.sc (.row 8))) fun l53 =>
                            (.sem (Instr.buildSlice 61 3 #[(0, .slice (some ⟨(l53 0).n, 0, none⟩) 8 8), (1, .slice ((l51 0).A) ((l51 0).n) ((l51 0).c)), (2, .slice ((l52 0).A) ((l52 0).n) ((l52 0).c))]) (.one (.sc (.row 3))) fun l54 =>
                             (.call 18 [.slice (some ⟨(l54 0).n, 0, none⟩) 3 3] (.one (.sc (.sl))) fun l55 => -- slices_Concat_byte
                              (.rd (Instr.loadAt 23 (.pointer (some ⟨(l1 0).n, 4, none⟩))) (.one (.sc (.sl))) fun l56 =>
                               (.stop k_dualpkt_Encode_1 (t_dualpkt_Encode_1 ((l56 0).A) ((l56 0).n) ((l56 0).c) (((l56 0).n : Nat) : Int) ((l55 0).A) ((l55 0).n) ((l55 0).c) 0 (jl [(0, .agg #[.int .i64 a0_0, .bool a0_1, .int .u32 a0_2, .int .u32 a0_3, .slice Aa0_4 na0_4 ca0_4]), (1, .pointer (some ⟨(l1 0).n, 0, none⟩)), (2, .slice none 0 0), (3, .int .i64 0), (4, .func (.func 15) #[] #[]), (5, .int .u8 1), (8, undef), (9, .bool (decide (((((l2 0).n : Nat) : Int) : Int) > 40))), (10, .pointer (some ⟨(l1 0).n, 4, none⟩)), (11, .slice ((l2 0).A) ((l2 0).n) ((l2 0).c)), (12, .int .i64 (((l2 0).n : Nat) : Int)), (13, .bool (decide (((((l2 0).n : Nat) : Int) : Int) > 40))), (14, .bool ((l46 0).b)), (15, .pointer (some ⟨(l1 0).n, 0, none⟩)), (16, .int .i64 ((l3 0).i)), (17, .bool (decide (((l3 0).i : Int) < 0))), (18, .bool false), (19, .pointer (some ⟨(l1 0).n, 0, none⟩)), (20, .int .i64 ((l4 0).i)), (21, .bool (decide (((l4 0).i : Int) > 3))), (22, .bool (decide (((l4 0).i : Int) > 3))), (23, .pointer (some ⟨(l1 0).n, 0, none⟩)), (24, .int .i64 ((l24 0).i)), (25, .bool (((l24 0).i : Int) == 0)), (26, .bool true), (27, .pointer (some ⟨(l1 0).n, 4, none⟩)), (28, .slice ((l25 0).A) ((l25 0).n) ((l25 0).c)), (29, .int .i64 (((l25 0).n : Nat) : Int)), (30, .bool (decide (((((l25 0).n : Nat) : Int) : Int) > 0))), (31, .bool (decide (((((l25 0).n : Nat) : Int) : Int) > 0))), (32, .pointer (some ⟨(l1 0).n, 4, none⟩)), (33, .slice ((l45 0).A) ((l45 0).n) ((l45 0).c)), (34, .func (.func 15) #[] #[]), (35, .bool ((l46 0).b)), (36, .pointer (some ⟨(l1 0).n, 1, none⟩)), (37, .bool ((l47 0).b)), (38, .pointer (some ⟨(l1 0).n, 0, none⟩)), (39, .int .i64 ((l48 0).i)), (40, .int .u8 (IntKind.wrap .u8 ((l48 0).i))), (41, .int .u8 1), (42, .slice (some ⟨(l53 0).n, 0, none⟩) 8 8), (43, .pointer (some ⟨(l1 0).n, 2, none⟩)), (44, .int .u32 ((l49 0).i)), (45, .slice ((l51 0).A) ((l51 0).n) ((l51 0).c)), (46, .pointer (some ⟨(l1 0).n, 3, none⟩)), (47, .int .u32 ((l50 0).i)), (48, .slice ((l52 0).A) ((l52 0).n) ((l52 0).c)), (49, .slice (some ⟨(l54 0).n, 0, none⟩) 3 3), (50, .slice ((l55 0).A) ((l55 0).n) ((l55 0).c)), (51, .pointer (some ⟨(l1 0).n, 4, none⟩)), (55, undef), (56, undef), (57, undef), (58, undef), (59, undef), (60, undef), (61, undef), (62, undef), (63, undef), (64, undef), (65, undef), (66, undef), (67, undef), (68, undef)])))))))))))))))
                   (.rd (Instr.loadAt 3 (.pointer (some ⟨(l1 0).n, 0, none⟩))) (.one (.sc (.int .i64))) fun l57 =>
                    (.rd (Instr.loadAt 22 (.pointer (some ⟨(l1 0).n, 2, none⟩))) (.one (.sc (.int .u32))) fun l58 =>
                     (.rd (Instr.loadAt 22 (.pointer (some ⟨(l1 0).n, 3, none⟩))) (.one (.sc (.int .u32))) fun l59 =>
                      (.call 19 [.int .u32 ((l58 0).i)] (.one (.sc (.sl))) fun l60 => -- num_Put32
                       (.pin (vN (Instr.loadAt 22 (.pointer (some ⟨(l1 0).n, 3, none⟩)))) (.int .u32 ((l59 0).i))
                        (.pin (vN (Instr.loadAt 3 (.pointer (some ⟨(l1 0).n, 0, none⟩)))) (.int .i64 ((l57 0).i))
                         (.call 19 [.int .u32 ((l59 0).i)] (.one (.sc (.sl))) fun l61 => -- num_Put32
                          (.pin (vN (Instr.loadAt 3 (.pointer (some ⟨(l1 0).n, 0, none⟩)))) (.int .i64 ((l57 0).i))
                           (.sem (Instr.buildSlice 27 8 #[(0, .int .u8 2), (1, .int .u8 (IntKind.wrap .u8 ((l57 0).i))), (2, .int .u8 0), (3, .int .u8 0), (4, .int .u8 0), (5, .int .u8 0), (6, .int .u8 0), (7, .int .u8 0)]) (.one (.sc (.row 8))) fun l62 =>
                            (.sem (Instr.buildSlice 61 3 #[(0, .slice (some ⟨(l62 0).n, 0, none⟩) 8 8), (1, .slice ((l60 0).A) ((l60 0).n) ((l60 0).c)), (2, .slice ((l61 0).A) ((l61 0).n) ((l61 0).c))]) (.one (.sc (.row 3))) fun l63 =>
                             (.call 18 [.slice (some ⟨(l63 0).n, 0, none⟩) 3 3] (.one (.sc (.sl))) fun l64 => -- slices_Concat_byte
                              (.rd (Instr.loadAt 23 (.pointer (some ⟨(l1 0).n, 4, none⟩))) (.one (.sc (.sl))) fun l65 =>
                               (.stop k_dualpkt_Encode_1 (t_dualpkt_Encode_1 ((l65 0).A) ((l65 0).n) ((l65 0).c) (((l65 0).n : Nat) : Int) ((l64 0).A) ((l64 0).n) ((l64 0).c) 0 (jl [(0, .agg #[.int .i64 a0_0, .bool a0_1, .int .u32 a0_2, .int .u32 a0_3, .slice Aa0_4 na0_4 ca0_4]), (1, .pointer (some ⟨(l1 0).n, 0, none⟩)), (2, .slice none 0 0), (3, .int .i64 0), (4, .func (.func 15) #[] #[]), (5, .int .u8 0), (8, undef), (9, .bool (decide (((((l2 0).n : Nat) : Int) : Int) > 40))), (10, .pointer (some ⟨(l1 0).n, 4, none⟩)), (11, .slice ((l2 0).A) ((l2 0).n) ((l2 0).c)), (12, .int .i64 (((l2 0).n : Nat) : Int)), (13, .bool (decide (((((l2 0).n : Nat) : Int) : Int) > 40))), (14, .bool ((l46 0).b)), (15, .pointer (some ⟨(l1 0).n, 0, none⟩)), (16, .int .i64 ((l3 0).i)), (17, .bool (decide (((l3 0).i : Int) < 0))), (18, .bool false), (19, .pointer (some ⟨(l1 0).n, 0, none⟩)), (20, .int .i64 ((l4 0).i)), (21, .bool (decide (((l4 0).i : Int) > 3))), (22, .bool (decide (((l4 0).i : Int) > 3))), (23, .pointer (some ⟨(l1 0).n, 0, none⟩)), (24, .int .i64 ((l24 0).i)), (25, .bool (((l24 0).i : Int) == 0)), (26, .bool true), (27, .pointer (some ⟨(l1 0).n, 4, none⟩)), (28, .slice ((l25 0).A) ((l25 0).n) ((l25 0).c)), (29, .int .i64 (((l25 0).n : Nat) : Int)), (30, .bool (decide (((((l25 0).n : Nat) : Int) : Int) > 0))), (31, .bool (decide (((((l25 0).n : Nat) : Int) : Int) > 0))), (32, .pointer (some ⟨(l1 0).n, 4, none⟩)), (33, .slice ((l45 0).A) ((l45 0).n) ((l45 0).c)), (34, .func (.func 15) #[] #[]), (35, .bool ((l46 0).b)), (36, .pointer (some ⟨(l1 0).n, 1, none⟩)), (37, .bool ((l47 0).b)), (38, .pointer (some ⟨(l1 0).n, 0, none⟩)), (39, .int .i64 ((l57 0).i)), (40, .int .u8 (IntKind.wrap .u8 ((l57 0).i))), (41, .int .u8 0), (42, .slice (some ⟨(l62 0).n, 0, none⟩) 8 8), (43, .pointer (some ⟨(l1 0).n, 2, none⟩)), (44, .int .u32 ((l58 0).i)), (45, .slice ((l60 0).A) ((l60 0).n) ((l60 0).c)), (46, .pointer (some ⟨(l1 0).n, 3, none⟩)), (47, .int .u32 ((l59 0).i)), (48, .slice ((l61 0).A) ((l61 0).n) ((l61 0).c)), (49, .slice (some ⟨(l63 0).n, 0, none⟩) 3 3), (50, .slice ((l64 0).A) ((l64 0).n) ((l64 0).c)), (51, .pointer (some ⟨(l1 0).n, 4, none⟩)), (55, undef), (56, undef), (57, undef), (58, undef), (59, undef), (60, undef), (61, undef), (62, undef), (63, undef), (64, undef), (65, undef), (66, undef), (67, undef), (68, undef)]))))))))))))))))))))))
            (.rd (Instr.loadAt 23 (.pointer (some ⟨(l1 0).n, 4, none⟩))) (.one (.sc (.sl))) fun l66 =>
             (.call 17 [.slice ((l66 0).A) ((l66 0).n) ((l66 0).c), .func (.func 15) #[] #[]] (.one (.sc (.bool))) fun l67 => -- slices_ContainsFunc_DualEntry
              (.ite ((l67 0).b)
               (.done (.tuple #[.slice none 0 0, .int .i64 1]))
               (.rd (Instr.loadAt 4 (.pointer (some ⟨(l1 0).n, 1, none⟩))) (.one (.sc (.bool))) fun l68 =>
                (.ite ((l68 0).b)
                 (.rd (Instr.loadAt 3 (.pointer (some ⟨(l1 0).n, 0, none⟩))) (.one (.sc (.int .i64))) fun l69 =>
                  (.rd (Instr.loadAt 22 (.pointer (some ⟨(l1 0).n, 2, none⟩))) (.one (.sc (.int .u32))) fun l70 =>
                   (.rd (Instr.loadAt 22 (.pointer (some ⟨(l1 0).n, 3, none⟩))) (.one (.sc (.int .u32))) fun l71 =>
                    (.call 19 [.int .u32 ((l70 0).i)] (.one (.sc (.sl))) fun l72 => -- num_Put32
                     (.pin (vN (Instr.loadAt 22 (.pointer (some ⟨(l1 0).n, 3, none⟩)))) (.int .u32 ((l71 0).i))
                      (.pin (vN (Instr.loadAt 3 (.pointer (some ⟨(l1 0).n, 0, none⟩)))) (.int .i64 ((l69 0).i))
                       (.call 19 [.int .u32 ((l71 0).i)] (.one (.sc (.sl))) fun l73 => -- num_Put32
                        (.pin (vN (Instr.loadAt 3 (.pointer (some ⟨(l1 0).n, 0, none⟩)))) (.int .i64 ((l69 0).i))
                         (.sem (Instr.buildSlice 27 8 #[(0, .int .u8 2), (1, .int .u8 (IntKind.wrap .u8 ((l69 0).i))), (2, .int .u8 0), (3, .int .u8 0), (4, .int .u8 1), (5, .int .u8 0), (6, .int .u8 0), (7, .int .u8 0)]) (.one (.sc (.row 8))) fun l74 =>
                          (.sem (Instr.buildSlice 61 3 #[(0, .slice (some ⟨(l74 0).n, 0, none⟩) 8 8), (1, .slice ((l72 0).A) ((l72 0).n) ((l72 0).c)), (2, .slice ((l73 0).A) ((l73 0).n) ((l73 0).c))]) (.one (.sc (.row 3))) fun l75 =>
                           (.call 18 [.slice (some ⟨(l75 0).n, 0, none⟩) 3 3] (.one (.sc (.sl))) fun l76 => -- slices_Concat_byte
                            (.rd (Instr.loadAt 23 (.pointer (some ⟨(l1 0).n, 4, none⟩))) (.one (.sc (.sl))) fun l77 =>
                             (.stop k_dualpkt_Encode_1 (t_dualpkt_Encode_1 ((l77 0).A) ((l77 0).n) ((l77 0).c) (((l77 0).n : Nat) : Int) ((l76 0).A) ((l76 0).n) ((l76 0).c) 0 (jl [(0, .agg #[.int .i64 a0_0, .bool a0_1, .int .u32 a0_2, .int .u32 a0_3, .slice Aa0_4 na0_4 ca0_4]), (1, .pointer (some ⟨(l1 0).n, 0, none⟩)), (2, .slice none 0 0), (3, .int .i64 0), (4, .func (.func 15) #[] #[]), (5, .int .u8 1), (8, undef), (9, .bool (decide (((((l2 0).n : Nat) : Int) : Int) > 40))), (10, .pointer (some ⟨(l1 0).n, 4, none⟩)), (11, .slice ((l2 0).A) ((l2 0).n) ((l2 0).c)), (12, .int .i64 (((l2 0).n : Nat) : Int)), (13, .bool (decide (((((l2 0).n : Nat) : Int) : Int) > 40))), (14, .bool ((l67 0).b)), (15, .pointer (some ⟨(l1 0).n, 0, none⟩)), (16, .int .i64 ((l3 0).i)), (17, .bool (decide (((l3 0).i : Int) < 0))), (18, .bool false), (19, .pointer (some ⟨(l1 0).n, 0, none⟩)), (20, .int .i64 ((l4 0).i)), (21, .bool (decide (((l4 0).i : Int) > 3))), (22, .bool (decide (((l4 0).i : Int) > 3))), (23, .pointer (some ⟨(l1 0).n, 0, none⟩)), (24, .int .i64 ((l24 0).i)), (25, .bool (((l24 0).i : Int) == 0)), (26, .bool false), (27, undef), (28, undef), (29, undef), (30, undef), (31, .bool false), (32, .pointer (some ⟨(l1 0).n, 4, none⟩)), (33, .slice ((l66 0).A) ((l66 0).n) ((l66 0).c)), (34, .func (.func 15) #[] #[]), (35, .bool ((l67 0).b)), (36, .pointer (some ⟨(l1 0).n, 1, none⟩)), (37, .bool ((l68 0).b)), (38, .pointer (some ⟨(l1 0).n, 0, none⟩)), (39, .int .i64 ((l69 0).i)), (40, .int .u8 (IntKind.wrap .u8 ((l69 0).i))), (41, .int .u8 1), (42, .slice (some ⟨(l74 0).n, 0, none⟩) 8 8), (43, .pointer (some ⟨(l1 0).n, 2, none⟩)), (44, .int .u32 ((l70 0).i)), (45, .slice ((l72 0).A) ((l72 0).n) ((l72 0).c)), (46, .pointer (some ⟨(l1 0).n, 3, none⟩)), (47, .int .u32 ((l71 0).i)), (48, .slice ((l73 0).A) ((l73 0).n) ((l73 0).c)), (49, .slice (some ⟨(l75 0).n, 0, none⟩) 3 3), (50, .slice ((l76 0).A) ((l76 0).n) ((l76 0).c)), (51, .pointer (some ⟨(l1 0).n, 4, none⟩)), (55, undef), (56, undef), (57, undef), (58, undef), (59, undef), (60, undef), (61, undef), (62, undef), (63, undef), (64, undef), (65, undef), (66, undef), (67, undef), (68, undef)])))))))))))))))
                 (.rd (Instr.loadAt 3 (.pointer (some ⟨(l1 0).n, 0, none⟩))) (.one (.sc (.int .i64))) fun l78 =>
                  (.rd (Instr.loadAt 22 (.pointer (some ⟨(l1 0).n, 2, none⟩))) (.one (.sc (.int .u32))) fun l79 =>
                   (.rd (Instr.loadAt 22 (.pointer (some ⟨(l1 0).n, 3, none⟩))) (.one (.sc (.int .u32))) fun l80 =>
                    (.call 19 [.int .u32 ((l79 0).i)] (.one (.sc (.sl))) fun l81 => -- num_Put32
                     (.pin (vN (Instr.loadAt 22 (.pointer (some ⟨(l1 0).n, 3, none⟩)))) (.int .u32 ((l80 0).i))
                      (.pin (vN (Instr.loadAt 3 (.pointer (some ⟨(l1 0).n, 0, none⟩)))) (.int .i64 ((l78 0).i))
                       (.call 19 [.int .u32 ((l80 0).i)] (.one (.sc (.sl))) fun l82 => -- num_Put32
                        (.pin (vN (Instr.loadAt 3 (.pointer (some ⟨(l1 0).n, 0, none⟩)))) (.int .i64 ((l78 0).i))
                         (.sem (Instr.buildSlice 27 8 #[(0, .int .u8 2), (1, .int .u8 (IntKind.wrap .u8 ((l78 0).i))), (2, .int .u8 0), (3, .int .u8 0), (4, .int .u8 0), (5, .int .u8 0), (6, .int .u8 0), (7, .int .u8 0)]) (.one (.sc (.row 8))) fun l83 =>
                          (.sem (Instr.buildSlice 61 3 #[(0, .slice (some ⟨(l83 0).n, 0, none⟩) 8 8), (1, .slice ((l81 0).A) ((l81 0).n) ((l81 0).c)), (2, .slice ((l82 0).A) ((l82 0).n) ((l82 0).c))]) (.one (.sc (.row 3))) fun l84 =>
                           (.call 18 [.slice (some ⟨(l84 0).n, 0, none⟩) 3 3] (.one (.sc (.sl))) fun l85 => -- slices_Concat_byte
                            (.rd (Instr.loadAt 23 (.pointer (some ⟨(l1 0).n, 4, none⟩))) (.one (.sc (.sl))) fun l86 =>
                             (.stop k_dualpkt_Encode_1 (t_dualpkt_Encode_1 ((l86 0).A) ((l86 0).n) ((l86 0).c) (((l86 0).n : Nat) : Int) ((l85 0).A) ((l85 0).n) ((l85 0).c) 0 (jl [(0, .agg #[.int .i64 a0_0, .bool a0_1, .int .u32 a0_2, .int .u32 a0_3, .slice Aa0_4 na0_4 ca0_4]), (1, .pointer (some ⟨(l1 0).n, 0, none⟩)), (2, .slice none 0 0), (3, .int .i64 0), (4, .func (.func 15) #[] #[]), (5, .int .u8 0), (8, undef), (9, .bool (decide (((((l2 0).n : Nat) : Int) : Int) > 40))), (10, .pointer (some ⟨(l1 0).n, 4, none⟩)), (11, .slice ((l2 0).A) ((l2 0).n) ((l2 0).c)), (12, .int .i64 (((l2 0).n : Nat) : Int)), (13, .bool (decide (((((l2 0).n : Nat) : Int) : Int) > 40))), (14, .bool ((l67 0).b)), (15, .pointer (some ⟨(l1 0).n, 0, none⟩)), (16, .int .i64 ((l3 0).i)), (17, .bool (decide (((l3 0).i : Int) < 0))), (18, .bool false), (19, .pointer (some ⟨(l1 0).n, 0, none⟩)), (20, .int .i64 ((l4 0).i)), (21, .bool (decide (((l4 0).i : Int) > 3))), (22, .bool (decide (((l4 0).i : Int) > 3))), (23, .pointer (some ⟨(l1 0).n, 0, none⟩)), (24, .int .i64 ((l24 0).i)), (25, .bool (((l24 0).i : Int) == 0)), (26, .bool false), (27, undef), (28, undef), (29, undef), (30, undef), (31, .bool false), (32, .pointer (some ⟨(l1 0).n, 4, none⟩)), (33, .slice ((l66 0).A) ((l66 0).n) ((l66 0).c)), (34, .func (.func 15) #[] #[]), (35, .bool ((l67 0).b)), (36, .pointer (some ⟨(l1 0).n, 1, none⟩)), (37, .bool ((l68 0).b)), (38, .pointer (some ⟨(l1 0).n, 0, none⟩)), (39, .int .i64 ((l78 0).i)), (40, .int .u8 (IntKind.wrap .u8 ((l78 0).i))), (41, .int .u8 0), (42, .slice (some ⟨(l83 0).n, 0, none⟩) 8 8), (43, .pointer (some ⟨(l1 0).n, 2, none⟩)), (44, .int .u32 ((l79 0).i)), (45, .slice ((l81 0).A) ((l81 0).n) ((l81 0).c)), (46, .pointer (some ⟨(l1 0).n, 3, none⟩)), (47, .int .u32 ((l80 0).i)), (48, .slice ((l82 0).A) ((l82 0).n) ((l82 0).c)), (49, .slice (some ⟨(l84 0).n, 0, none⟩) 3 3), (50, .slice ((l85 0).A) ((l85 0).n) ((l85 0).c)), (51, .pointer (some ⟨(l1 0).n, 4, none⟩)), (55, undef), (56, undef), (57, undef), (58, undef), (59, undef), (60, undef), (61, undef), (62, undef), (63, undef), (64, undef), (65, undef), (66, undef), (67, undef), (68, undef)]))))))))))))))))))))))))))))) h) : Fn Try.prog 10 #[.agg #[.int .i64 a0_0, .bool a0_1, .int .u32 a0_2, .int .u32 a0_3, .slice Aa0_4 na0_4 ca0_4]] I h Q :=
  Wp.fn (args := [.agg #[.int .i64 a0_0, .bool a0_1, .int .u32 a0_2, .int .u32 a0_3, .slice Aa0_4 na0_4 ca0_4]]) Try.func10 rfl (by kernel_rfl) (of_tree (cfg := g_dualpkt_Encode) 1000 (by kernel_rfl) Try.func10 rfl Try.checked.mixed hh)
theorem ca_dualpkt_Encode : callable Try.prog 10 := ⟨_, Try.func10, by kernel_rfl, by kernel_rfl⟩
set_option maxRecDepth 100000 in
theorem r_dualpkt_Encode_1 (Ay52 : Option Addr) (ny52 : Nat) (cy52 : Nat) (y53 : Int) (A6 : Option Addr) (n6 : Nat) (c6 : Nat) (x54 : Int) (u : Nat → Value) {I : Ctx} {h : Mem} {Q : Value → Mem → Prop}
  (hh : holds Try.prog 10 I Q
   (.ite (decide ((x54 : Int) < y53))
    (.rd (Instr.indexAt 23 (.slice Ay52 ny52 cy52) (.int .i64 x54)) (.one (.sc (.padr))) fun l87 =>
     (.rd (Instr.loadAt 43 (.pointer (some ((l87 0).a)))) (.one (.agg [.int .u32, .int .i64, .int .i64, .int .i64, .int .i64, .int .u16])) fun l88 =>
      (.sem (Instr.alloc 43 true (.tuple #[])) shBlk fun l89 =>
       (.unit (Instr.storeAt 43 (.pointer (some ⟨(l89 0).n, 0, none⟩)) (.agg #[.int .u32 ((l88 0).i), .int .i64 ((l88 1).i), .int .i64 ((l88 2).i), .int .i64 ((l88 3).i), .int .i64 ((l88 4).i), .int .u16 ((l88 5).i)]))
        (.rd (Instr.loadAt 43 (.pointer (some ⟨(l89 0).n, 0, none⟩))) (.one (.agg [.int .u32, .int .i64, .int .i64, .int .i64, .int .i64, .int .u16])) fun l90 =>
         (.call 20 [.agg #[.int .u32 ((l90 0).i), .int .i64 ((l90 1).i), .int .i64 ((l90 2).i), .int .i64 ((l90 3).i), .int .i64 ((l90 4).i), .int .u16 ((l90 5).i)]] (.one (.sc (.sl))) fun l91 => -- dualpkt_put
          (.nx (builtin .append #[27, 27] 27 #[false, false] #[.slice A6 n6 c6, .slice ((l91 0).A) ((l91 0).n) ((l91 0).c)]) (.one (.sc (.sl))) fun l92 =>
           (.stop k_dualpkt_Encode_1 (t_dualpkt_Encode_1 Ay52 ny52 cy52 y53 ((l92 0).A) ((l92 0).n) ((l92 0).c) (IntKind.wrap .i64 (x54 + 1)) (jl [(0, (u 0)), (1, (u 1)), (2, (u 2)), (3, (u 3)), (4, (u 4)), (5, (u 5)), (8, .pointer (some ⟨(l89 0).n, 0, none⟩)), (9, (u 9)), (10, (u 10)), (11, (u 11)), (12, (u 12)), (13, (u 13)), (14, (u 14)), (15, (u 15)), (16, (u 16)), (17, (u 17)), (18, (u 18)), (19, (u 19)), (20, (u 20)), (21, (u 21)), (22, (u 22)), (23, (u 23)), (24, (u 24)), (25, (u 25)), (26, (u 26)), (27, (u 27)), (28, (u 28)), (29, (u 29)), (30, (u 30)), (31, (u 31)), (32, (u 32)), (33, (u 33)), (34, (u 34)), (35, (u 35)), (36, (u 36)), (37, (u 37)), (38, (u 38)), (39, (u 39)), (40, (u 40)), (41, (u 41)), (42, (u 42)), (43, (u 43)), (44, (u 44)), (45, (u 45)), (46, (u 46)), (47, (u 47)), (48, (u 48)), (49, (u 49)), (50, (u 50)), (51, (u 51)), (55, .bool (decide ((x54 : Int) < y53))), (56, .pointer (some ((l87 0).a))), (57, .agg #[.int .u32 ((l88 0).i), .int .i64 ((l88 1).i), .int .i64 ((l88 2).i), .int .i64 ((l88 3).i), .int .i64 ((l88 4).i), .int .u16 ((l88 5).i)]), (58, .slice A6 n6 c6), (59, .agg #[.int .u32 ((l90 0).i), .int .i64 ((l90 1).i), .int .i64 ((l90 2).i), .int .i64 ((l90 3).i), .int .i64 ((l90 4).i), .int .u16 ((l90 5).i)]), (60, .slice ((l91 0).A) ((l91 0).n) ((l91 0).c)), (61, .slice ((l92 0).A) ((l92 0).n) ((l92 0).c)), (62, .int .i64 (IntKind.wrap .i64 (x54 + 1))), (63, (u 63)), (64, (u 64)), (65, (u 65)), (66, (u 66)), (67, (u 67)), (68, (u 68))]))))))))))
    (.rd (Instr.sliceAt 27 (.slice A6 n6 c6) (some (.int .i64 2)) none none) (.one (.sc (.sl))) fun l93 =>
     (.call 21 [.slice A6 n6 c6] (.one (.sc (.sl))) fun l94 => -- dualpkt_sum
      (.pin (vN (Instr.sliceAt 27 (.slice A6 n6 c6) (some (.int .i64 2)) none none)) (.slice ((l93 0).A) ((l93 0).n) ((l93 0).c))
       (.nx (builtin .copy #[27, 27] 3 #[false, false] #[.slice ((l93 0).A) ((l93 0).n) ((l93 0).c), .slice ((l94 0).A) ((l94 0).n) ((l94 0).c)]) (.one (.sc (.int .i64))) fun l95 =>
        (.done (.tuple #[.slice A6 n6 c6, .int .i64 0]))))))) h) : Wp Try.prog 10 k_dualpkt_Encode_1 (t_dualpkt_Encode_1 Ay52 ny52 cy52 y53 A6 n6 c6 x54 u) I h Q :=
  of_tree (cfg := g_dualpkt_Encode) 1000 (by kernel_rfl) Try.func10 rfl Try.checked.mixed hh
/-! ### octroiref07_Encode: function 11 of Go -/
abbrev F_octroiref07_Encode : FuncId := 11
noncomputable def c_octroiref07_Encode : Code := (Try.f11.body).getD .skip
def p_octroiref07_Encode : Nat → List (List Nat) := fun r => match r with | 11 => [[], [], [1], [1, 2], [0, 1, 2, 3], [0, 1, 2, 3, 4], [0, 1, 2, 3, 4, 5]] | _ => []
noncomputable def g_octroiref07_Encode : Cfg := { sh := shs, fsh := fshs, results := [.tmp 2, .tmp 3], hint := fun _ _ => none, ord := fun r => match r with | 11 => some [0, 1, 2, 3, 4, 5, 6] | _ => none, pre := p_octroiref07_Encode, un := unOf p_octroiref07_Encode }
noncomputable def k_octroiref07_Encode_1 : List Item := [.code (bd (bd (sr (sl (sr (sr (sr c_octroiref07_Encode))))))), .inLoop (bd (bd (sr (sl (sr (sr (sr c_octroiref07_Encode))))))), .inBlock 0, .code (sr (sr (sr (sr c_octroiref07_Encode))))]
noncomputable def t_octroiref07_Encode_1 (y1 : Nat) (x4 : Int) (u : Nat → Value) : List Value := [(u 0), .pointer (some ⟨y1, 0, none⟩), (u 2), (u 3), .int .i64 x4, (u 5), (u 6), (u 7), (u 8), (u 9), (u 10), (u 11), (u 12), (u 13), (u 14), (u 15), (u 16), (u 17), (u 18), (u 19), (u 20), (u 21), (u 22), (u 23), (u 24), (u 25), (u 26), (u 27), (u 28), (u 29), (u 30), (u 31), (u 32), (u 33), (u 34), (u 35), (u 36), (u 37), (u 38), (u 39), (u 40), (u 41), (u 42), (u 43), (u 44), (u 45), (u 46), (u 47), (u 48)]
set_option maxRecDepth 100000 in
theorem r_octroiref07_Encode (a0_0 : Int) (a0_1 : Bool) (a0_2 : Int) (a0_3 : Int) (Aa0_4 : Option Addr) (na0_4 : Nat) (ca0_4 : Nat) {I : Ctx} {h : Mem} {Q : Value → Mem → Prop}
  (hh : holds Try.prog 11 I (cl_ Q)
   (.sem (Instr.box 25 (.agg #[.int .i64 a0_0, .bool a0_1, .int .u32 a0_2, .int .u32 a0_3, .slice Aa0_4 na0_4 ca0_4])) shBlk fun l1 =>
    (.rd (Instr.loadAt 23 (.pointer (some ⟨(l1 0).n, 4, none⟩))) (.one (.sc (.sl))) fun l2 =>
     (.ite (decide (((((l2 0).n : Nat) : Int) : Int) > 40))
      (.done (.tuple #[.slice none 0 0, .int .i64 9]))
      (.rd (Instr.loadAt 3 (.pointer (some ⟨(l1 0).n, 0, none⟩))) (.one (.sc (.int .i64))) fun l3 =>
       (.ite (decide (((l3 0).i : Int) < 0))
        (.done (.tuple #[.slice none 0 0, .int .i64 1]))
        (.rd (Instr.loadAt 3 (.pointer (some ⟨(l1 0).n, 0, none⟩))) (.one (.sc (.int .i64))) fun l4 =>
         (.ite (decide (((l4 0).i : Int) > 3))
          (.done (.tuple #[.slice none 0 0, .int .i64 1]))
          (.rd (Instr.loadAt 3 (.pointer (some ⟨(l1 0).n, 0, none⟩))) (.one (.sc (.int .i64))) fun l5 =>
           (.ite (((l5 0).i : Int) == 0)
            (.rd (Instr.loadAt 23 (.pointer (some ⟨(l1 0).n, 4, none⟩))) (.one (.sc (.sl))) fun l6 =>
             (.ite (decide (((((l6 0).n : Nat) : Int) : Int) > 0))
              (.done (.tuple #[.slice none 0 0, .int .i64 1]))
              (.stop k_octroiref07_Encode_1 (t_octroiref07_Encode_1 ((l1 0).n) 0 (jl [(0, .agg #[.int .i64 a0_0, .bool a0_1, .int .u32 a0_2, .int .u32 a0_3, .slice Aa0_4 na0_4 ca0_4]), (2, .slice none 0 0), (3, .int .i64 0), (5, undef), (6, .pointer (some ⟨(l1 0).n, 4, none⟩)), (7, .slice ((l2 0).A) ((l2 0).n) ((l2 0).c)), (8, .int .i64 (((l2 0).n : Nat) : Int)), (9, .bool (decide (((((l2 0).n : Nat) : Int) : Int) > 40))), (10, .pointer (some ⟨(l1 0).n, 0, none⟩)), (11, .int .i64 ((l3 0).i)), (12, .bool (decide (((l3 0).i : Int) < 0))), (13, .bool false), (14, .pointer (some ⟨(l1 0).n, 0, none⟩)), (15, .int .i64 ((l4 0).i)), (16, .bool (decide (((l4 0).i : Int) > 3))), (17, .bool (decide (((l4 0).i : Int) > 3))), (18, .bool false), (19, .pointer (some ⟨(l1 0).n, 0, none⟩)), (20, .int .i64 ((l5 0).i)), (21, .bool (((l5 0).i : Int) == 0)), (22, .bool true), (23, .pointer (some ⟨(l1 0).n, 4, none⟩)), (24, .slice ((l6 0).A) ((l6 0).n) ((l6 0).c)), (25, .int .i64 (((l6 0).n : Nat) : Int)), (26, .bool (decide (((((l6 0).n : Nat) : Int) : Int) > 0))), (27, .bool (decide (((((l6 0).n : Nat) : Int) : Int) > 0))), (28, .bool (decide (((((l6 0).n : Nat) : Int) : Int) > 0))), (29, undef), (30, undef), (31, undef), (32, undef), (33, undef), (34, undef), (35, undef), (36, undef), (37, undef), (38, undef), (39, undef), (40, undef), (41, undef), (42, undef), (43, undef), (44, undef), (45, undef), (46, undef), (47, undef), (48, undef)])))))
            (.stop k_octroiref07_Encode_1 (t_octroiref07_Encode_1 ((l1 0).n) 0 (jl [(0, .agg #[.int .i64 a0_0, .bool a0_1, .int .u32 a0_2, .int .u32 a0_3, .slice Aa0_4 na0_4 ca0_4]), (2, .slice none 0 0), (3, .int .i64 0), (5, undef), (6, .pointer (some ⟨(l1 0).n, 4, none⟩)), (7, .slice ((l2 0).A) ((l2 0).n) ((l2 0).c)), (8, .int .i64 (((l2 0).n : Nat) : Int)), (9, .bool (decide (((((l2 0).n : Nat) : Int) : Int) > 40))), (10, .pointer (some ⟨(l1 0).n, 0, none⟩)), (11, .int .i64 ((l3 0).i)), (12, .bool (decide (((l3 0).i : Int) < 0))), (13, .bool false), (14, .pointer (some ⟨(l1 0).n, 0, none⟩)), (15, .int .i64 ((l4 0).i)), (16, .bool (decide (((l4 0).i : Int) > 3))), (17, .bool (decide (((l4 0).i : Int) > 3))), (18, .bool false), (19, .pointer (some ⟨(l1 0).n, 0, none⟩)), (20, .int .i64 ((l5 0).i)), (21, .bool (((l5 0).i : Int) == 0)), (22, .bool false), (23, undef), (24, undef), (25, undef), (26, undef), (27, .bool false), (28, .bool false), (29, undef), (30, undef), (31, undef), (32, undef), (33, undef), (34, undef), (35, undef), (36, undef), (37, undef), (38, undef), (39, undef), (40, undef), (41, undef), (42, undef), (43, undef), (44, undef), (45, undef), (46, undef), (47, undef), (48, undef)])))))))))))) h) : Fn Try.prog 11 #[.agg #[.int .i64 a0_0, .bool a0_1, .int .u32 a0_2, .int .u32 a0_3, .slice Aa0_4 na0_4 ca0_4]] I h Q :=
  Wp.fn (args := [.agg #[.int .i64 a0_0, .bool a0_1, .int .u32 a0_2, .int .u32 a0_3, .slice Aa0_4 na0_4 ca0_4]]) Try.func11 rfl (by kernel_rfl) (of_tree (cfg := g_octroiref07_Encode) 1000 (by kernel_rfl) Try.func11 rfl Try.checked.mixed hh)
theorem ca_octroiref07_Encode : callable Try.prog 11 := ⟨_, Try.func11, by kernel_rfl, by kernel_rfl⟩
set_option maxRecDepth 100000 in
theorem r_octroiref07_Encode_1 (y1 : Nat) (x4 : Int) (u : Nat → Value) {I : Ctx} {h : Mem} {Q : Value → Mem → Prop}
  (hh : holds Try.prog 11 I Q
   (.rd (Instr.loadAt 23 (.pointer (some ⟨y1, 4, none⟩))) (.one (.sc (.sl))) fun l7 =>
    (.ite (decide ((x4 : Int) < (((l7 0).n : Nat) : Int)))
     (.rd (Instr.loadAt 23 (.pointer (some ⟨y1, 4, none⟩))) (.one (.sc (.sl))) fun l8 =>
      (.rd (Instr.indexAt 23 (.slice ((l8 0).A) ((l8 0).n) ((l8 0).c)) (.int .i64 x4)) (.one (.sc (.padr))) fun l9 =>
       (.rd (Instr.loadAt 43 (.pointer (some ((l9 0).a)))) (.one (.agg [.int .u32, .int .i64, .int .i64, .int .i64, .int .i64, .int .u16])) fun l10 =>
        (.call 22 [.agg #[.int .u32 ((l10 0).i), .int .i64 ((l10 1).i), .int .i64 ((l10 2).i), .int .i64 ((l10 3).i), .int .i64 ((l10 4).i), .int .u16 ((l10 5).i)]] (.one (.sc (.bool))) fun l11 => -- octroiref07_entry
         (.ite (!((l11 0).b))
          (.done (.tuple #[.slice none 0 0, .int .i64 1]))
          (.stop k_octroiref07_Encode_1 (t_octroiref07_Encode_1 y1 (IntKind.wrap .i64 (x4 + 1)) (jl [(0, (u 0)), (2, (u 2)), (3, (u 3)), (5, .bool ((l11 0).b)), (6, (u 6)), (7, (u 7)), (8, (u 8)), (9, (u 9)), (10, (u 10)), (11, (u 11)), (12, (u 12)), (13, (u 13)), (14, (u 14)), (15, (u 15)), (16, (u 16)), (17, (u 17)), (18, (u 18)), (19, (u 19)), (20, (u 20)), (21, (u 21)), (22, (u 22)), (23, (u 23)), (24, (u 24)), (25, (u 25)), (26, (u 26)), (27, (u 27)), (28, (u 28)), (29, .int .i64 x4), (30, .pointer (some ⟨y1, 4, none⟩)), (31, .slice ((l7 0).A) ((l7 0).n) ((l7 0).c)), (32, .int .i64 (((l7 0).n : Nat) : Int)), (33, .bool (decide ((x4 : Int) < (((l7 0).n : Nat) : Int)))), (34, .int .i64 x4), (35, .int .i64 (IntKind.wrap .i64 (x4 + 1))), (36, .pointer (some ⟨y1, 4, none⟩)), (37, .slice ((l8 0).A) ((l8 0).n) ((l8 0).c)), (38, .int .i64 x4), (39, .pointer (some ((l9 0).a))), (40, .agg #[.int .u32 ((l10 0).i), .int .i64 ((l10 1).i), .int .i64 ((l10 2).i), .int .i64 ((l10 3).i), .int .i64 ((l10 4).i), .int .u16 ((l10 5).i)]), (41, .bool ((l11 0).b)), (42, .bool ((l11 0).b)), (43, .bool (!((l11 0).b))), (44, (u 44)), (45, (u 45)), (46, (u 46)), (47, (u 47)), (48, (u 48))]))))))))
     (.rd (Instr.loadAt 25 (.pointer (some ⟨y1, 0, none⟩))) (.one (.agg [.int .i64, .bool, .int .u32, .int .u32, .sl])) fun l12 =>
      (.rd (Instr.loadAt 25 (.pointer (some ⟨y1, 0, none⟩))) (.one (.agg [.int .i64, .bool, .int .u32, .int .u32, .sl])) fun l13 =>
       (.call 23 [.agg #[.int .i64 ((l13 0).i), .bool ((l13 1).b), .int .u32 ((l13 2).i), .int .u32 ((l13 3).i), .slice ((l13 4).A) ((l13 4).n) ((l13 4).c)], .int .u16 0] (.one (.sc (.sl))) fun l14 => -- octroiref07_bytes
        (.pin (vN (Instr.loadAt 25 (.pointer (some ⟨y1, 0, none⟩)))) (.agg #[.int .i64 ((l12 0).i), .bool ((l12 1).b), .int .u32 ((l12 2).i), .int .u32 ((l12 3).i), .slice ((l12 4).A) ((l12 4).n) ((l12 4).c)])
         (.call 24 [.slice ((l14 0).A) ((l14 0).n) ((l14 0).c)] (.one (.sc (.int .u16))) fun l15 => -- octroiref01_Sum
          (.pin (vN (Instr.loadAt 25 (.pointer (some ⟨y1, 0, none⟩)))) (.agg #[.int .i64 ((l12 0).i), .bool ((l12 1).b), .int .u32 ((l12 2).i), .int .u32 ((l12 3).i), .slice ((l12 4).A) ((l12 4).n) ((l12 4).c)])
           (.call 23 [.agg #[.int .i64 ((l12 0).i), .bool ((l12 1).b), .int .u32 ((l12 2).i), .int .u32 ((l12 3).i), .slice ((l12 4).A) ((l12 4).n) ((l12 4).c)], .int .u16 ((l15 0).i)] (.one (.sc (.sl))) fun l16 => -- octroiref07_bytes
            (.done (.tuple #[.slice ((l16 0).A) ((l16 0).n) ((l16 0).c), .int .i64 0]))))))))))) h) : Wp Try.prog 11 k_octroiref07_Encode_1 (t_octroiref07_Encode_1 y1 x4 u) I h Q :=
  of_tree (cfg := g_octroiref07_Encode) 1000 (by kernel_rfl) Try.func11 rfl Try.checked.mixed hh
/-! ### octroiref07_Same: function 12 of Go -/
abbrev F_octroiref07_Same : FuncId := 12
noncomputable def c_octroiref07_Same : Code := (Try.f12.body).getD .skip
def p_octroiref07_Same : Nat → List (List Nat) := fun r => match r with | 6 => [[], [0], [], [0, 1, 2], [0, 1, 2, 3], [], [5], [], [5, 6, 7], [5, 6, 7, 8], [0, 1, 2, 3, 4, 5, 6, 7, 8, 9]] | _ => []
noncomputable def g_octroiref07_Same : Cfg := { sh := shs, fsh := fshs, results := [.tmp 4], hint := fun r i => match r, i with | 6, 10 => some (true, .one (.sc (.bool))) | _, _ => none, ord := fun r => match r with | 6 => some [0, 1, 2, 3, 4, 5, 6, 7, 8, 9, 10] | _ => none, pre := p_octroiref07_Same, un := unOf p_octroiref07_Same }
noncomputable def k_octroiref07_Same_1 : List Item := [.code (bd (bd (sr (sl (sr (sr c_octroiref07_Same)))))), .inLoop (bd (bd (sr (sl (sr (sr c_octroiref07_Same)))))), .inBlock 0, .code (sr (sr (sr c_octroiref07_Same)))]
noncomputable def t_octroiref07_Same_1 (y2 : Nat) (y3 : Nat) (x5 : Int) (u : Nat → Value) : List Value := [(u 0), (u 1), .pointer (some ⟨y2, 0, none⟩), .pointer (some ⟨y3, 0, none⟩), (u 4), .int .i64 x5, (u 6), (u 7), (u 8), (u 9), (u 10), (u 11), (u 12), (u 13), (u 14), (u 15), (u 16), (u 17), (u 18), (u 19), (u 20), (u 21), (u 22), (u 23), (u 24), (u 25), (u 26), (u 27), (u 28), (u 29), (u 30), (u 31), (u 32), (u 33), (u 34), (u 35), (u 36), (u 37), (u 38), (u 39), (u 40), (u 41), (u 42), (u 43), (u 44), (u 45), (u 46), (u 47), (u 48), (u 49), (u 50), (u 51), (u 52), (u 53), (u 54), (u 55), (u 56), (u 57), (u 58)]
set_option maxRecDepth 100000 in
theorem r_octroiref07_Same (a0_0 : Int) (a0_1 : Bool) (a0_2 : Int) (a0_3 : Int) (Aa0_4 : Option Addr) (na0_4 : Nat) (ca0_4 : Nat) (a1_0 : Int) (a1_1 : Bool) (a1_2 : Int) (a1_3 : Int) (Aa1_4 : Option Addr) (na1_4 : Nat) (ca1_4 : Nat) {I : Ctx} {h : Mem} {Q : Value → Mem → Prop}
  (hh : holds Try.prog 12 I (cl_ Q)
   (.sem (Instr.box 25 (.agg #[.int .i64 a0_0, .bool a0_1, .int .u32 a0_2, .int .u32 a0_3, .slice Aa0_4 na0_4 ca0_4])) shBlk fun l1 =>
    (.sem (Instr.box 25 (.agg #[.int .i64 a1_0, .bool a1_1, .int .u32 a1_2, .int .u32 a1_3, .slice Aa1_4 na1_4 ca1_4])) shBlk fun l2 =>
     (.rd (Instr.loadAt 3 (.pointer (some ⟨(l1 0).n, 0, none⟩))) (.one (.sc (.int .i64))) fun l3 =>
      (.rd (Instr.loadAt 3 (.pointer (some ⟨(l2 0).n, 0, none⟩))) (.one (.sc (.int .i64))) fun l4 =>
       (.ite (((l3 0).i : Int) != ((l4 0).i))
        (.done (.bool false))
        (.rd (Instr.loadAt 4 (.pointer (some ⟨(l1 0).n, 1, none⟩))) (.one (.sc (.bool))) fun l5 =>
         (.rd (Instr.loadAt 4 (.pointer (some ⟨(l2 0).n, 1, none⟩))) (.one (.sc (.bool))) fun l6 =>
          (.ite (!(((l5 0).b) == ((l6 0).b)))
           (.done (.bool false))
           (.rd (Instr.loadAt 22 (.pointer (some ⟨(l1 0).n, 2, none⟩))) (.one (.sc (.int .u32))) fun l7 =>
            (.rd (Instr.loadAt 22 (.pointer (some ⟨(l2 0).n, 2, none⟩))) (.one (.sc (.int .u32))) fun l8 =>
             (.ite (((l7 0).i : Int) != ((l8 0).i))
              (.done (.bool false))
              (.rd (Instr.loadAt 22 (.pointer (some ⟨(l1 0).n, 3, none⟩))) (.one (.sc (.int .u32))) fun l9 =>
               (.rd (Instr.loadAt 22 (.pointer (some ⟨(l2 0).n, 3, none⟩))) (.one (.sc (.int .u32))) fun l10 =>
                (.ite (((l9 0).i : Int) != ((l10 0).i))
                 (.done (.bool false))
                 (.rd (Instr.loadAt 23 (.pointer (some ⟨(l1 0).n, 4, none⟩))) (.one (.sc (.sl))) fun l11 =>
                  (.rd (Instr.loadAt 23 (.pointer (some ⟨(l2 0).n, 4, none⟩))) (.one (.sc (.sl))) fun l12 =>
                   (.ite (((((l11 0).n : Nat) : Int) : Int) != (((l12 0).n : Nat) : Int))
                    (.done (.bool false))
                    (.stop k_octroiref07_Same_1 (t_octroiref07_Same_1 ((l1 0).n) ((l2 0).n) 0 (jl [(0, .agg #[.int .i64 a0_0, .bool a0_1, .int .u32 a0_2, .int .u32 a0_3, .slice Aa0_4 na0_4 ca0_4]), (1, .agg #[.int .i64 a1_0, .bool a1_1, .int .u32 a1_2, .int .u32 a1_3, .slice Aa1_4 na1_4 ca1_4]), (4, .bool false), (6, .pointer (some ⟨(l1 0).n, 0, none⟩)), (7, .int .i64 ((l3 0).i)), (8, .pointer (some ⟨(l2 0).n, 0, none⟩)), (9, .int .i64 ((l4 0).i)), (10, .bool (((l3 0).i : Int) != ((l4 0).i))), (11, .bool false), (12, .pointer (some ⟨(l1 0).n, 1, none⟩)), (13, .bool ((l5 0).b)), (14, .pointer (some ⟨(l2 0).n, 1, none⟩)), (15, .bool ((l6 0).b)), (16, .bool (!(((l5 0).b) == ((l6 0).b)))), (17, .bool (!(((l5 0).b) == ((l6 0).b)))), (18, .bool false), (19, .pointer (some ⟨(l1 0).n, 2, none⟩)), (20, .int .u32 ((l7 0).i)), (21, .pointer (some ⟨(l2 0).n, 2, none⟩)), (22, .int .u32 ((l8 0).i)), (23, .bool (((l7 0).i : Int) != ((l8 0).i))), (24, .bool (((l7 0).i : Int) != ((l8 0).i))), (25, .bool false), (26, .pointer (some ⟨(l1 0).n, 3, none⟩)), (27, .int .u32 ((l9 0).i)), (28, .pointer (some ⟨(l2 0).n, 3, none⟩)), (29, .int .u32 ((l10 0).i)), (30, .bool (((l9 0).i : Int) != ((l10 0).i))), (31, .bool (((l9 0).i : Int) != ((l10 0).i))), (32, .bool false), (33, .pointer (some ⟨(l1 0).n, 4, none⟩)), (34, .slice ((l11 0).A) ((l11 0).n) ((l11 0).c)), (35, .int .i64 (((l11 0).n : Nat) : Int)), (36, .pointer (some ⟨(l2 0).n, 4, none⟩)), (37, .slice ((l12 0).A) ((l12 0).n) ((l12 0).c)), (38, .int .i64 (((l12 0).n : Nat) : Int)), (39, .bool (((((l11 0).n : Nat) : Int) : Int) != (((l12 0).n : Nat) : Int))), (40, .bool (((((l11 0).n : Nat) : Int) : Int) != (((l12 0).n : Nat) : Int))), (41, undef), (42, undef), (43, undef), (44, undef), (45, undef), (46, undef), (47, undef), (48, undef), (49, undef), (50, undef), (51, undef), (52, undef), (53, undef), (54, undef), (55, undef), (56, undef), (57, undef), (58, undef)])))))))))))))))))))) h) : Fn Try.prog 12 #[.agg #[.int .i64 a0_0, .bool a0_1, .int .u32 a0_2, .int .u32 a0_3, .slice Aa0_4 na0_4 ca0_4], .agg #[.int .i64 a1_0, .bool a1_1, .int .u32 a1_2, .int .u32 a1_3, .slice Aa1_4 na1_4 ca1_4]] I h Q :=
  Wp.fn (args := [.agg #[.int .i64 a0_0, .bool a0_1, .int .u32 a0_2, .int .u32 a0_3, .slice Aa0_4 na0_4 ca0_4], .agg #[.int .i64 a1_0, .bool a1_1, .int .u32 a1_2, .int .u32 a1_3, .slice Aa1_4 na1_4 ca1_4]]) Try.func12 rfl (by kernel_rfl) (of_tree (cfg := g_octroiref07_Same) 1000 (by kernel_rfl) Try.func12 rfl Try.checked.mixed hh)
theorem ca_octroiref07_Same : callable Try.prog 12 := ⟨_, Try.func12, by kernel_rfl, by kernel_rfl⟩
set_option maxRecDepth 100000 in
theorem r_octroiref07_Same_1 (y2 : Nat) (y3 : Nat) (x5 : Int) (u : Nat → Value) {I : Ctx} {h : Mem} {Q : Value → Mem → Prop}
  (hh : holds Try.prog 12 I Q
   (.rd (Instr.loadAt 23 (.pointer (some ⟨y2, 4, none⟩))) (.one (.sc (.sl))) fun l13 =>
    (.ite (decide ((x5 : Int) < (((l13 0).n : Nat) : Int)))
     (.rd (Instr.loadAt 23 (.pointer (some ⟨y2, 4, none⟩))) (.one (.sc (.sl))) fun l14 =>
      (.rd (Instr.indexAt 23 (.slice ((l14 0).A) ((l14 0).n) ((l14 0).c)) (.int .i64 x5)) (.one (.sc (.padr))) fun l15 =>
       (.rd (Instr.loadAt 43 (.pointer (some ((l15 0).a)))) (.one (.agg [.int .u32, .int .i64, .int .i64, .int .i64, .int .i64, .int .u16])) fun l16 =>
        (.rd (Instr.loadAt 23 (.pointer (some ⟨y3, 4, none⟩))) (.one (.sc (.sl))) fun l17 =>
         (.rd (Instr.indexAt 23 (.slice ((l17 0).A) ((l17 0).n) ((l17 0).c)) (.int .i64 x5)) (.one (.sc (.padr))) fun l18 =>
          (.rd (Instr.loadAt 43 (.pointer (some ((l18 0).a)))) (.one (.agg [.int .u32, .int .i64, .int .i64, .int .i64, .int .i64, .int .u16])) fun l19 =>
           (.rdn (eqN .neq 43 (.tmp 0) (.tmp 0) (.agg #[.int .u32 ((l16 0).i), .int .i64 ((l16 1).i), .int .i64 ((l16 2).i), .int .i64 ((l16 3).i), .int .i64 ((l16 4).i), .int .u16 ((l16 5).i)]) (.agg #[.int .u32 ((l19 0).i), .int .i64 ((l19 1).i), .int .i64 ((l19 2).i), .int .i64 ((l19 3).i), .int .i64 ((l19 4).i), .int .u16 ((l19 5).i)])) (.one (.sc (.bool))) fun l20 =>
            (.ite ((l20 0).b)
             (.done (.bool false))
             (.stop k_octroiref07_Same_1 (t_octroiref07_Same_1 y2 y3 (IntKind.wrap .i64 (x5 + 1)) (jl [(0, (u 0)), (1, (u 1)), (4, (u 4)), (6, (u 6)), (7, (u 7)), (8, (u 8)), (9, (u 9)), (10, (u 10)), (11, (u 11)), (12, (u 12)), (13, (u 13)), (14, (u 14)), (15, (u 15)), (16, (u 16)), (17, (u 17)), (18, (u 18)), (19, (u 19)), (20, (u 20)), (21, (u 21)), (22, (u 22)), (23, (u 23)), (24, (u 24)), (25, (u 25)), (26, (u 26)), (27, (u 27)), (28, (u 28)), (29, (u 29)), (30, (u 30)), (31, (u 31)), (32, (u 32)), (33, (u 33)), (34, (u 34)), (35, (u 35)), (36, (u 36)), (37, (u 37)), (38, (u 38)), (39, (u 39)), (40, (u 40)), (41, .int .i64 x5), (42, .pointer (some ⟨y2, 4, none⟩)), (43, .slice ((l13 0).A) ((l13 0).n) ((l13 0).c)), (44, .int .i64 (((l13 0).n : Nat) : Int)), (45, .bool (decide ((x5 : Int) < (((l13 0).n : Nat) : Int)))), (46, .int .i64 x5), (47, .int .i64 (IntKind.wrap .i64 (x5 + 1))), (48, .pointer (some ⟨y2, 4, none⟩)), (49, .slice ((l14 0).A) ((l14 0).n) ((l14 0).c)), (50, .int .i64 x5), (51, .pointer (some ((l15 0).a))), (52, .agg #[.int .u32 ((l16 0).i), .int .i64 ((l16 1).i), .int .i64 ((l16 2).i), .int .i64 ((l16 3).i), .int .i64 ((l16 4).i), .int .u16 ((l16 5).i)]), (53, .pointer (some ⟨y3, 4, none⟩)), (54, .slice ((l17 0).A) ((l17 0).n) ((l17 0).c)), (55, .int .i64 x5), (56, .pointer (some ((l18 0).a))), (57, .agg #[.int .u32 ((l19 0).i), .int .i64 ((l19 1).i), .int .i64 ((l19 2).i), .int .i64 ((l19 3).i), .int .i64 ((l19 4).i), .int .u16 ((l19 5).i)]), (58, .bool ((l20 0).b))])))))))))))
     (.done (.bool true)))) h) : Wp Try.prog 12 k_octroiref07_Same_1 (t_octroiref07_Same_1 y2 y3 x5 u) I h Q :=
  of_tree (cfg := g_octroiref07_Same) 1000 (by kernel_rfl) Try.func12 rfl Try.checked.mixed hh
/-! ### dualpkt_Decode: function 13 of Go -/
abbrev F_dualpkt_Decode : FuncId := 13
noncomputable def c_dualpkt_Decode : Code := (Try.f13.body).getD .skip
def p_dualpkt_Decode : Nat → List (List Nat) := fun r => match r with | 3 => [[], [0], [], [2], [0, 1, 2, 3], [0, 1, 2, 3, 4], [0, 1, 2, 3, 4, 5]] | 7 => [[], [0], [0, 1], [0, 1, 2], [], [4], [4, 5], [4, 5, 6], [0, 1, 2, 3, 4, 5, 6, 7], [], [0, 1, 2, 3, 4, 5, 6, 7, 8, 9]] | 12 => [[], [0], [], [2], [2, 3], [2, 3, 4], [0, 1, 2, 3, 4, 5], [0, 1, 2, 3, 4, 5, 6], [0, 1, 2, 3, 4, 5, 6, 7]] | _ => []
noncomputable def g_dualpkt_Decode : Cfg := { sh := shs, fsh := fshs, results := [.cell 2 25, .tmp 3], hint := fun _ _ => none, ord := fun r => match r with | 3 => some [0, 2, 3, 1, 4, 5, 6] | 7 => some [0, 1, 2, 3, 4, 5, 6, 7, 8, 9, 10] | 12 => some [0, 1, 2, 3, 4, 5, 6, 7, 8] | _ => none, pre := p_dualpkt_Decode, un := unOf p_dualpkt_Decode }
noncomputable def k_dualpkt_Decode_1 : List Item := [.code (sr (sr (sr (sr (sr (sr (bd (sr c_dualpkt_Decode)))))))), .inScope (bd (sr c_dualpkt_Decode))]
noncomputable def t_dualpkt_Decode_1 (Aa0 : Option Addr) (na0 : Nat) (ca0 : Nat) (y2 : Nat) (y4 : Nat) (A5 : Option Addr) (n5 : Nat) (c5 : Nat) (u : Nat → Value) : List Value := [.slice Aa0 na0 ca0, undef, .pointer (some ⟨y2, 0, none⟩), (u 3), .pointer (some ⟨y4, 0, none⟩), .slice A5 n5 c5, (u 6), (u 7), (u 8), (u 9), (u 10), (u 11), (u 12), (u 13), (u 14), (u 15), (u 16), (u 17), (u 18), (u 19), (u 20), (u 21), (u 22), (u 23), (u 24), (u 25), (u 26), (u 27), (u 28), (u 29), (u 30), (u 31), (u 32), (u 33), (u 34), (u 35), (u 36), (u 37), (u 38), (u 39), (u 40), (u 41), (u 42), (u 43), (u 44), (u 45), (u 46), (u 47), (u 48), (u 49), (u 50), (u 51), (u 52), (u 53), (u 54), (u 55), (u 56), (u 57), (u 58), (u 59), (u 60), (u 61), (u 62), (u 63), (u 64), (u 65), (u 66), (u 67), (u 68), (u 69), (u 70), (u 71), (u 72), (u 73), (u 74), (u 75), (u 76), (u 77), (u 78), (u 79), (u 80), (u 81), (u 82), (u 83), (u 84), (u 85), (u 86), (u 87), (u 88), (u 89)]
noncomputable def k_dualpkt_Decode_2 : List Item := [.code (sl (sl (sr (sr (sr (sr (sr (sr (bd (sr c_dualpkt_Decode)))))))))), .code (sr (sl (sr (sr (sr (sr (sr (sr (bd (sr c_dualpkt_Decode)))))))))), .code (sr (sr (sr (sr (sr (sr (sr (bd (sr c_dualpkt_Decode))))))))), .inScope (bd (sr c_dualpkt_Decode))]
noncomputable def t_dualpkt_Decode_2 (Aa0 : Option Addr) (na0 : Nat) (ca0 : Nat) (y2 : Nat) (y4 : Nat) (A5 : Option Addr) (n5 : Nat) (c5 : Nat) (u : Nat → Value) : List Value := [.slice Aa0 na0 ca0, undef, .pointer (some ⟨y2, 0, none⟩), (u 3), .pointer (some ⟨y4, 0, none⟩), .slice A5 n5 c5, (u 6), (u 7), (u 8), (u 9), (u 10), (u 11), (u 12), (u 13), (u 14), (u 15), (u 16), (u 17), (u 18), (u 19), (u 20), (u 21), (u 22), (u 23), (u 24), (u 25), (u 26), (u 27), (u 28), (u 29), (u 30), (u 31), (u 32), (u 33), (u 34), (u 35), (u 36), (u 37), (u 38), (u 39), (u 40), (u 41), (u 42), (u 43), (u 44), (u 45), (u 46), (u 47), (u 48), (u 49), (u 50), (u 51), (u 52), (u 53), (u 54), (u 55), (u 56), (u 57), (u 58), (u 59), (u 60), (u 61), (u 62), (u 63), (u 64), (u 65), (u 66), (u 67), (u 68), (u 69), (u 70), (u 71), (u 72), (u 73), (u 74), (u 75), (u 76), (u 77), (u 78), (u 79), (u 80), (u 81), (u 82), (u 83), (u 84), (u 85), (u 86), (u 87), (u 88), (u 89)]
set_option maxRecDepth 100000 in
theorem r_dualpkt_Decode (Aa0 : Option Addr) (na0 : Nat) (ca0 : Nat) {I : Ctx} {h : Mem} {Q : Value → Mem → Prop}
  (hh : holds Try.prog 13 I (cl_ Q)
   (.sem (Instr.alloc 25 true (.tuple #[])) shBlk fun l1 =>
    (.ite (decide ((((na0 : Nat) : Int) : Int) < 16))
     (.unit (Instr.storeAt 25 (.pointer (some ⟨(l1 0).n, 0, none⟩)) (.agg #[.int .i64 0, .bool false, .int .u32 0, .int .u32 0, .slice none 0 0]))
      (.rd (loadVar 25 ⟨(l1 0).n, 0, none⟩) (.one (.agg [.int .i64, .bool, .int .u32, .int .u32, .sl])) fun l2 =>
       (.done (.tuple #[.agg #[.int .i64 ((l2 0).i), .bool ((l2 1).b), .int .u32 ((l2 2).i), .int .u32 ((l2 3).i), .slice ((l2 4).A) ((l2 4).n) ((l2 4).c)], .int .i64 2]))))
     (.ite ((Int.tmod (IntKind.wrap .i64 (((na0 : Nat) : Int) - 16)) 20 : Int) != 0)
      (.unit (Instr.storeAt 25 (.pointer (some ⟨(l1 0).n, 0, none⟩)) (.agg #[.int .i64 0, .bool false, .int .u32 0, .int .u32 0, .slice none 0 0]))
       (.rd (loadVar 25 ⟨(l1 0).n, 0, none⟩) (.one (.agg [.int .i64, .bool, .int .u32, .int .u32, .sl])) fun l3 =>
        (.done (.tuple #[.agg #[.int .i64 ((l3 0).i), .bool ((l3 1).b), .int .u32 ((l3 2).i), .int .u32 ((l3 3).i), .slice ((l3 4).A) ((l3 4).n) ((l3 4).c)], .int .i64 2]))))
      (.rd (Instr.indexAt 27 (.slice Aa0 na0 ca0) (.int .i64 0)) (.one (.sc (.padr))) fun l4 =>
       (.rd (Instr.loadAt 5 (.pointer (some ((l4 0).a)))) (.one (.sc (.int .u8))) fun l5 =>
        (.ite (((l5 0).i : Int) != 2)
         (.unit (Instr.storeAt 25 (.pointer (some ⟨(l1 0).n, 0, none⟩)) (.agg #[.int .i64 0, .bool false, .int .u32 0, .int .u32 0, .slice none 0 0]))
          (.rd (loadVar 25 ⟨(l1 0).n, 0, none⟩) (.one (.agg [.int .i64, .bool, .int .u32, .int .u32, .sl])) fun l6 =>
           (.done (.tuple #[.agg #[.int .i64 ((l6 0).i), .bool ((l6 1).b), .int .u32 ((l6 2).i), .int .u32 ((l6 3).i), .slice ((l6 4).A) ((l6 4).n) ((l6 4).c)], .int .i64 2]))))
         (.rd (Instr.sliceAt 27 (.slice Aa0 na0 ca0) (some (.int .i64 2)) (some (.int .i64 4)) none) (.one (.sc (.sl))) fun l7 =>
          (.call 21 [.slice Aa0 na0 ca0] (.one (.sc (.sl))) fun l8 => -- dualpkt_sum
           (.pin (vN (Instr.sliceAt 27 (.slice Aa0 na0 ca0) (some (.int .i64 2)) (some (.int .i64 4)) none)) (.slice ((l7 0).A) ((l7 0).n) ((l7 0).c))
            (.call 25 [.slice ((l8 0).A) ((l8 0).n) ((l8 0).c), .slice ((l7 0).A) ((l7 0).n) ((l7 0).c)] (.one (.sc (.bool))) fun l9 => -- slices_Equal_byte
             (.ite (!((l9 0).b))
              (.unit (Instr.storeAt 25 (.pointer (some ⟨(l1 0).n, 0, none⟩)) (.agg #[.int .i64 0, .bool false, .int .u32 0, .int .u32 0, .slice none 0 0]))
               (.rd (loadVar 25 ⟨(l1 0).n, 0, none⟩) (.one (.agg [.int .i64, .bool, .int .u32, .int .u32, .sl])) fun l10 =>
                (.done (.tuple #[.agg #[.int .i64 ((l10 0).i), .bool ((l10 1).b), .int .u32 ((l10 2).i), .int .u32 ((l10 3).i), .slice ((l10 4).A) ((l10 4).n) ((l10 4).c)], .int .i64 8]))))
              (.ite (decide ((((na0 : Nat) : Int) : Int) > 816))
               (.unit (Instr.storeAt 25 (.pointer (some ⟨(l1 0).n, 0, none⟩)) (.agg #[.int .i64 0, .bool false, .int .u32 0, .int .u32 0, .slice none 0 0]))
                (.rd (loadVar 25 ⟨(l1 0).n, 0, none⟩) (.one (.agg [.int .i64, .bool, .int .u32, .int .u32, .sl])) fun l11 =>
                 (.done (.tuple #[.agg #[.int .i64 ((l11 0).i), .bool ((l11 1).b), .int .u32 ((l11 2).i), .int .u32 ((l11 3).i), .slice ((l11 4).A) ((l11 4).n) ((l11 4).c)], .int .i64 9]))))
               (.rd (Instr.indexAt 27 (.slice Aa0 na0 ca0) (.int .i64 1)) (.one (.sc (.padr))) fun l12 =>
                (.rd (Instr.loadAt 5 (.pointer (some ((l12 0).a)))) (.one (.sc (.int .u8))) fun l13 =>
                 (.rd (Instr.indexAt 27 (.slice Aa0 na0 ca0) (.int .i64 4)) (.one (.sc (.padr))) fun l14 =>
                  (.rd (Instr.loadAt 5 (.pointer (some ((l14 0).a)))) (.one (.sc (.int .u8))) fun l15 =>
                   (.sem (Instr.alloc 25 true (.tuple #[])) shBlk fun l16 =>
                    (.unit (Instr.storeAt 25 (.pointer (some ⟨(l16 0).n, 0, none⟩)) (.agg #[.int .i64 (IntKind.wrap .i64 ((l13 0).i)), .bool (((l15 0).i : Int) == 1), .int .u32 0, .int .u32 0, .slice none 0 0]))
                     (.call 26 [.slice Aa0 na0 ca0, .int .i64 8] (.tup [(.sc (.int .u32)), (.sc (.bool))]) fun l17 => -- num_Get32
                      (.unit (Instr.storeAt 22 (.pointer (some ⟨(l16 0).n, 2, none⟩)) (.int .u32 ((l17 0).i)))
                       (.call 26 [.slice Aa0 na0 ca0, .int .i64 12] (.tup [(.sc (.int .u32)), (.sc (.bool))]) fun l18 => -- num_Get32
                        (.unit (Instr.storeAt 22 (.pointer (some ⟨(l16 0).n, 3, none⟩)) (.int .u32 ((l18 0).i)))
                         (.rd (Instr.sliceAt 27 (.slice Aa0 na0 ca0) (some (.int .i64 16)) none none) (.one (.sc (.sl))) fun l19 =>
                          (.stop k_dualpkt_Decode_1 (t_dualpkt_Decode_1 Aa0 na0 ca0 ((l1 0).n) ((l16 0).n) ((l19 0).A) ((l19 0).n) ((l19 0).c) (jl [(3, .int .i64 0), (6, undef), (7, undef), (8, .bool (((l5 0).i : Int) != 2)), (9, .slice Aa0 na0 ca0), (10, .int .i64 ((na0 : Nat) : Int)), (11, .bool (decide ((((na0 : Nat) : Int) : Int) < 16))), (12, .bool false), (13, .slice Aa0 na0 ca0), (14, .int .i64 ((na0 : Nat) : Int)), (15, .int .i64 (IntKind.wrap .i64 (((na0 : Nat) : Int) - 16))), (16, .int .i64 (Int.tmod (IntKind.wrap .i64 (((na0 : Nat) : Int) - 16)) 20)), (17, .bool ((Int.tmod (IntKind.wrap .i64 (((na0 : Nat) : Int) - 16)) 20 : Int) != 0)), (18, .bool ((Int.tmod (IntKind.wrap .i64 (((na0 : Nat) : Int) - 16)) 20 : Int) != 0)), (19, .bool false), (20, .slice Aa0 na0 ca0), (21, .pointer (some ((l4 0).a))), (22, .int .u8 ((l5 0).i)), (23, .bool (((l5 0).i : Int) != 2)), (24, .bool (((l5 0).i : Int) != 2)), (25, undef), (26, .bool (!((l9 0).b))), (27, .slice Aa0 na0 ca0), (28, .slice ((l8 0).A) ((l8 0).n) ((l8 0).c)), (29, .slice Aa0 na0 ca0), (30, .slice ((l7 0).A) ((l7 0).n) ((l7 0).c)), (31, .bool ((l9 0).b)), (32, .bool (!((l9 0).b))), (33, undef), (34, .bool (decide ((((na0 : Nat) : Int) : Int) > 816))), (35, .slice Aa0 na0 ca0), (36, .int .i64 ((na0 : Nat) : Int)), (37, .bool (decide ((((na0 : Nat) : Int) : Int) > 816))), (38, undef), (39, .slice Aa0 na0 ca0), (40, .pointer (some ((l12 0).a))), (41, .int .u8 ((l13 0).i)), (42, .int .i64 (IntKind.wrap .i64 ((l13 0).i))), (43, .slice Aa0 na0 ca0), (44, .pointer (some ((l14 0).a))), (45, .int .u8 ((l15 0).i)), (46, .bool (((l15 0).i : Int) == 1)), (47, .agg #[.int .i64 (IntKind.wrap .i64 ((l13 0).i)), .bool (((l15 0).i : Int) == 1), .int .u32 0, .int .u32 0, .slice none 0 0]), (48, .tuple #[.int .u32 ((l17 0).i), .bool ((l17 1).b)]), (49, .slice Aa0 na0 ca0), (50, .tuple #[.int .u32 ((l17 0).i), .bool ((l17 1).b)]), (51, .int .u32 ((l17 0).i)), (52, .bool ((l17 1).b)), (53, .pointer (some ⟨(l16 0).n, 2, none⟩)), (54, .tuple #[.int .u32 ((l18 0).i), .bool ((l18 1).b)]), (55, .slice Aa0 na0 ca0), (56, .tuple #[.int .u32 ((l18 0).i), .bool ((l18 1).b)]), (57, .int .u32 ((l18 0).i)), (58, .bool ((l18 1).b)), (59, .pointer (some ⟨(l16 0).n, 3, none⟩)), (60, .slice Aa0 na0 ca0), (61, .slice ((l19 0).A) ((l19 0).n) ((l19 0).c)), (62, undef), (63, undef), (64, undef), (65, undef), (66, undef), (67, undef), (68, undef), (69, undef), (70, undef), (71, undef), (72, undef), (73, undef), (74, undef), (75, undef), (76, undef), (77, undef), (78, undef), (79, undef), (80, undef), (81, undef), (82, undef), (83, undef), (84, undef), (85, undef), (86, undef), (87, undef), (88, undef), (89, undef)])))))))))))))))))))))))))) h) : Fn Try.prog 13 #[.slice Aa0 na0 ca0] I h Q :=
  Wp.fn (args := [.slice Aa0 na0 ca0]) Try.func13 rfl (by kernel_rfl) (of_tree (cfg := g_dualpkt_Decode) 1000 (by kernel_rfl) Try.func13 rfl Try.checked.mixed hh)
theorem ca_dualpkt_Decode : callable Try.prog 13 := ⟨_, Try.func13, by kernel_rfl, by kernel_rfl⟩
set_option maxRecDepth 100000 in
theorem r_dualpkt_Decode_1 (Aa0 : Option Addr) (na0 : Nat) (ca0 : Nat) (y2 : Nat) (y4 : Nat) (A5 : Option Addr) (n5 : Nat) (c5 : Nat) (u : Nat → Value) {I : Ctx} {h : Mem} {Q : Value → Mem → Prop}
  (hh : holds Try.prog 13 I Q
   (.ite (decide ((((n5 : Nat) : Int) : Int) > 0))
    (.rd (Instr.loadAt 23 (.pointer (some ⟨y4, 4, none⟩))) (.one (.sc (.sl))) fun l20 =>
     (.rd (Instr.sliceAt 27 (.slice A5 n5 c5) none (some (.int .i64 20)) (some (.int .i64 20))) (.one (.sc (.sl))) fun l21 =>
      (.call 27 [.slice ((l21 0).A) ((l21 0).n) ((l21 0).c)] (.one (.agg [.int .u32, .int .i64, .int .i64, .int .i64, .int .i64, .int .u16])) fun l22 => -- dualpkt_get
       (.pin (vN (Instr.loadAt 23 (.pointer (some ⟨y4, 4, none⟩)))) (.slice ((l20 0).A) ((l20 0).n) ((l20 0).c))
        (.sem (Instr.buildSlice 23 1 #[(0, .agg #[.int .u32 ((l22 0).i), .int .i64 ((l22 1).i), .int .i64 ((l22 2).i), .int .i64 ((l22 3).i), .int .i64 ((l22 4).i), .int .u16 ((l22 5).i)])]) (.one (.sc (.row 1))) fun l23 =>
         (.nx (builtin .append #[23, 23] 23 #[false, false] #[.slice ((l20 0).A) ((l20 0).n) ((l20 0).c), .slice (some ⟨(l23 0).n, 0, none⟩) 1 1]) (.one (.sc (.sl))) fun l24 =>
          (.unit (Instr.storeAt 23 (.pointer (some ⟨y4, 4, none⟩)) (.slice ((l24 0).A) ((l24 0).n) ((l24 0).c)))
           (.rd (Instr.sliceAt 27 (.slice A5 n5 c5) (some (.int .i64 20)) none none) (.one (.sc (.sl))) fun l25 =>
            (.stop k_dualpkt_Decode_2 (t_dualpkt_Decode_2 Aa0 na0 ca0 y2 y4 ((l25 0).A) ((l25 0).n) ((l25 0).c) (jl [(3, (u 3)), (6, (u 6)), (7, (u 7)), (8, (u 8)), (9, (u 9)), (10, (u 10)), (11, (u 11)), (12, (u 12)), (13, (u 13)), (14, (u 14)), (15, (u 15)), (16, (u 16)), (17, (u 17)), (18, (u 18)), (19, (u 19)), (20, (u 20)), (21, (u 21)), (22, (u 22)), (23, (u 23)), (24, (u 24)), (25, (u 25)), (26, (u 26)), (27, (u 27)), (28, (u 28)), (29, (u 29)), (30, (u 30)), (31, (u 31)), (32, (u 32)), (33, (u 33)), (34, (u 34)), (35, (u 35)), (36, (u 36)), (37, (u 37)), (38, (u 38)), (39, (u 39)), (40, (u 40)), (41, (u 41)), (42, (u 42)), (43, (u 43)), (44, (u 44)), (45, (u 45)), (46, (u 46)), (47, (u 47)), (48, (u 48)), (49, (u 49)), (50, (u 50)), (51, (u 51)), (52, (u 52)), (53, (u 53)), (54, (u 54)), (55, (u 55)), (56, (u 56)), (57, (u 57)), (58, (u 58)), (59, (u 59)), (60, (u 60)), (61, (u 61)), (62, .slice A5 n5 c5), (63, .int .i64 ((n5 : Nat) : Int)), (64, .bool (decide ((((n5 : Nat) : Int) : Int) > 0))), (65, .pointer (some ⟨y4, 4, none⟩)), (66, .slice ((l20 0).A) ((l20 0).n) ((l20 0).c)), (67, .slice A5 n5 c5), (68, .slice ((l21 0).A) ((l21 0).n) ((l21 0).c)), (69, .agg #[.int .u32 ((l22 0).i), .int .i64 ((l22 1).i), .int .i64 ((l22 2).i), .int .i64 ((l22 3).i), .int .i64 ((l22 4).i), .int .u16 ((l22 5).i)]), (70, .slice (some ⟨(l23 0).n, 0, none⟩) 1 1), (71, .slice ((l24 0).A) ((l24 0).n) ((l24 0).c)), (72, .pointer (some ⟨y4, 4, none⟩)), (73, .slice A5 n5 c5), (74, .slice ((l25 0).A) ((l25 0).n) ((l25 0).c)), (75, (u 75)), (76, (u 76)), (77, (u 77)), (78, (u 78)), (79, (u 79)), (80, (u 80)), (81, (u 81)), (82, (u 82)), (83, (u 83)), (84, (u 84)), (85, (u 85)), (86, (u 86)), (87, (u 87)), (88, (u 88)), (89, (u 89))])))))))))))
    (.rd (Instr.loadAt 25 (.pointer (some ⟨y4, 0, none⟩))) (.one (.agg [.int .i64, .bool, .int .u32, .int .u32, .sl])) fun l26 =>
     (.call 10 [.agg #[.int .i64 ((l26 0).i), .bool ((l26 1).b), .int .u32 ((l26 2).i), .int .u32 ((l26 3).i), .slice ((l26 4).A) ((l26 4).n) ((l26 4).c)]] (.tup [(.sc (.sl)), (.sc (.int .i64))]) fun l27 => -- dualpkt_Encode
      (.ite (((l27 1).i : Int) != 0)
       (.unit (Instr.storeAt 25 (.pointer (some ⟨y2, 0, none⟩)) (.agg #[.int .i64 0, .bool false, .int .u32 0, .int .u32 0, .slice none 0 0]))
        (.rd (loadVar 25 ⟨y2, 0, none⟩) (.one (.agg [.int .i64, .bool, .int .u32, .int .u32, .sl])) fun l28 =>
         (.done (.tuple #[.agg #[.int .i64 ((l28 0).i), .bool ((l28 1).b), .int .u32 ((l28 2).i), .int .u32 ((l28 3).i), .slice ((l28 4).A) ((l28 4).n) ((l28 4).c)], .int .i64 2]))))
       (.call 25 [.slice ((l27 0).A) ((l27 0).n) ((l27 0).c), .slice Aa0 na0 ca0] (.one (.sc (.bool))) fun l29 => -- slices_Equal_byte
        (.ite (!((l29 0).b))
         (.unit (Instr.storeAt 25 (.pointer (some ⟨y2, 0, none⟩)) (.agg #[.int .i64 0, .bool false, .int .u32 0, .int .u32 0, .slice none 0 0]))
          (.rd (loadVar 25 ⟨y2, 0, none⟩) (.one (.agg [.int .i64, .bool, .int .u32, .int .u32, .sl])) fun l30 =>
           (.done (.tuple #[.agg #[.int .i64 ((l30 0).i), .bool ((l30 1).b), .int .u32 ((l30 2).i), .int .u32 ((l30 3).i), .slice ((l30 4).A) ((l30 4).n) ((l30 4).c)], .int .i64 2]))))
         (.rd (Instr.loadAt 25 (.pointer (some ⟨y4, 0, none⟩))) (.one (.agg [.int .i64, .bool, .int .u32, .int .u32, .sl])) fun l31 =>
          (.unit (Instr.storeAt 25 (.pointer (some ⟨y2, 0, none⟩)) (.agg #[.int .i64 ((l31 0).i), .bool ((l31 1).b), .int .u32 ((l31 2).i), .int .u32 ((l31 3).i), .slice ((l31 4).A) ((l31 4).n) ((l31 4).c)]))
           (.rd (loadVar 25 ⟨y2, 0, none⟩) (.one (.agg [.int .i64, .bool, .int .u32, .int .u32, .sl])) fun l32 =>
            (.done (.tuple #[.agg #[.int .i64 ((l32 0).i), .bool ((l32 1).b), .int .u32 ((l32 2).i), .int .u32 ((l32 3).i), .slice ((l32 4).A) ((l32 4).n) ((l32 4).c)], .int .i64 0]))))))))))) h) : Wp Try.prog 13 k_dualpkt_Decode_1 (t_dualpkt_Decode_1 Aa0 na0 ca0 y2 y4 A5 n5 c5 u) I h Q :=
  of_tree (cfg := g_dualpkt_Decode) 1000 (by kernel_rfl) Try.func13 rfl Try.checked.mixed hh
set_option maxRecDepth 100000 in
theorem r_dualpkt_Decode_2 (Aa0 : Option Addr) (na0 : Nat) (ca0 : Nat) (y2 : Nat) (y4 : Nat) (A5 : Option Addr) (n5 : Nat) (c5 : Nat) (u : Nat → Value) {I : Ctx} {h : Mem} {Q : Value → Mem → Prop}
  (hh : holds Try.prog 13 I Q
   (.ite (decide ((((n5 : Nat) : Int) : Int) > 0))
    (.rd (Instr.loadAt 23 (.pointer (some ⟨y4, 4, none⟩))) (.one (.sc (.sl))) fun l33 =>
     (.rd (Instr.sliceAt 27 (.slice A5 n5 c5) none (some (.int .i64 20)) (some (.int .i64 20))) (.one (.sc (.sl))) fun l34 =>
      (.call 27 [.slice ((l34 0).A) ((l34 0).n) ((l34 0).c)] (.one (.agg [.int .u32, .int .i64, .int .i64, .int .i64, .int .i64, .int .u16])) fun l35 => -- dualpkt_get
       (.pin (vN (Instr.loadAt 23 (.pointer (some ⟨y4, 4, none⟩)))) (.slice ((l33 0).A) ((l33 0).n) ((l33 0).c))
        (.sem (Instr.buildSlice 23 1 #[(0, .agg #[.int .u32 ((l35 0).i), .int .i64 ((l35 1).i), .int .i64 ((l35 2).i), .int .i64 ((l35 3).i), .int .i64 ((l35 4).i), .int .u16 ((l35 5).i)])]) (.one (.sc (.row 1))) fun l36 =>
         (.nx (builtin .append #[23, 23] 23 #[false, false] #[.slice ((l33 0).A) ((l33 0).n) ((l33 0).c), .slice (some ⟨(l36 0).n, 0, none⟩) 1 1]) (.one (.sc (.sl))) fun l37 =>
          (.unit (Instr.storeAt 23 (.pointer (some ⟨y4, 4, none⟩)) (.slice ((l37 0).A) ((l37 0).n) ((l37 0).c)))
           (.rd (Instr.sliceAt 27 (.slice A5 n5 c5) (some (.int .i64 20)) none none) (.one (.sc (.sl))) fun l38 =>
            (.stop k_dualpkt_Decode_2 (t_dualpkt_Decode_2 Aa0 na0 ca0 y2 y4 ((l38 0).A) ((l38 0).n) ((l38 0).c) (jl [(3, (u 3)), (6, (u 6)), (7, (u 7)), (8, (u 8)), (9, (u 9)), (10, (u 10)), (11, (u 11)), (12, (u 12)), (13, (u 13)), (14, (u 14)), (15, (u 15)), (16, (u 16)), (17, (u 17)), (18, (u 18)), (19, (u 19)), (20, (u 20)), (21, (u 21)), (22, (u 22)), (23, (u 23)), (24, (u 24)), (25, (u 25)), (26, (u 26)), (27, (u 27)), (28, (u 28)), (29, (u 29)), (30, (u 30)), (31, (u 31)), (32, (u 32)), (33, (u 33)), (34, (u 34)), (35, (u 35)), (36, (u 36)), (37, (u 37)), (38, (u 38)), (39, (u 39)), (40, (u 40)), (41, (u 41)), (42, (u 42)), (43, (u 43)), (44, (u 44)), (45, (u 45)), (46, (u 46)), (47, (u 47)), (48, (u 48)), (49, (u 49)), (50, (u 50)), (51, (u 51)), (52, (u 52)), (53, (u 53)), (54, (u 54)), (55, (u 55)), (56, (u 56)), (57, (u 57)), (58, (u 58)), (59, (u 59)), (60, (u 60)), (61, (u 61)), (62, .slice A5 n5 c5), (63, .int .i64 ((n5 : Nat) : Int)), (64, .bool (decide ((((n5 : Nat) : Int) : Int) > 0))), (65, .pointer (some ⟨y4, 4, none⟩)), (66, .slice ((l33 0).A) ((l33 0).n) ((l33 0).c)), (67, .slice A5 n5 c5), (68, .slice ((l34 0).A) ((l34 0).n) ((l34 0).c)), (69, .agg #[.int .u32 ((l35 0).i), .int .i64 ((l35 1).i), .int .i64 ((l35 2).i), .int .i64 ((l35 3).i), .int .i64 ((l35 4).i), .int .u16 ((l35 5).i)]), (70, .slice (some ⟨(l36 0).n, 0, none⟩) 1 1), (71, .slice ((l37 0).A) ((l37 0).n) ((l37 0).c)), (72, .pointer (some ⟨y4, 4, none⟩)), (73, .slice A5 n5 c5), (74, .slice ((l38 0).A) ((l38 0).n) ((l38 0).c)), (75, (u 75)), (76, (u 76)), (77, (u 77)), (78, (u 78)), (79, (u 79)), (80, (u 80)), (81, (u 81)), (82, (u 82)), (83, (u 83)), (84, (u 84)), (85, (u 85)), (86, (u 86)), (87, (u 87)), (88, (u 88)), (89, (u 89))])))))))))))
    (.rd (Instr.loadAt 25 (.pointer (some ⟨y4, 0, none⟩))) (.one (.agg [.int .i64, .bool, .int .u32, .int .u32, .sl])) fun l39 =>
     (.call 10 [.agg #[.int .i64 ((l39 0).i), .bool ((l39 1).b), .int .u32 ((l39 2).i), .int .u32 ((l39 3).i), .slice ((l39 4).A) ((l39 4).n) ((l39 4).c)]] (.tup [(.sc (.sl)), (.sc (.int .i64))]) fun l40 => -- dualpkt_Encode
      (.ite (((l40 1).i : Int) != 0)
       (.unit (Instr.storeAt 25 (.pointer (some ⟨y2, 0, none⟩)) (.agg #[.int .i64 0, .bool false, .int .u32 0, .int .u32 0, .slice none 0 0]))
        (.rd (loadVar 25 ⟨y2, 0, none⟩) (.one (.agg [.int .i64, .bool, .int .u32, .int .u32, .sl])) fun l41 =>
         (.done (.tuple #[.agg #[.int .i64 ((l41 0).i), .bool ((l41 1).b), .int .u32 ((l41 2).i), .int .u32 ((l41 3).i), .slice ((l41 4).A) ((l41 4).n) ((l41 4).c)], .int .i64 2]))))
       (.call 25 [.slice ((l40 0).A) ((l40 0).n) ((l40 0).c), .slice Aa0 na0 ca0] (.one (.sc (.bool))) fun l42 => -- slices_Equal_byte
        (.ite (!((l42 0).b))
         (.unit (Instr.storeAt 25 (.pointer (some ⟨y2, 0, none⟩)) (.agg #[.int .i64 0, .bool false, .int .u32 0, .int .u32 0, .slice none 0 0]))
          (.rd (loadVar 25 ⟨y2, 0, none⟩) (.one (.agg [.int .i64, .bool, .int .u32, .int .u32, .sl])) fun l43 =>
           (.done (.tuple #[.agg #[.int .i64 ((l43 0).i), .bool ((l43 1).b), .int .u32 ((l43 2).i), .int .u32 ((l43 3).i), .slice ((l43 4).A) ((l43 4).n) ((l43 4).c)], .int .i64 2]))))
         (.rd (Instr.loadAt 25 (.pointer (some ⟨y4, 0, none⟩))) (.one (.agg [.int .i64, .bool, .int .u32, .int .u32, .sl])) fun l44 =>
          (.unit (Instr.storeAt 25 (.pointer (some ⟨y2, 0, none⟩)) (.agg #[.int .i64 ((l44 0).i), .bool ((l44 1).b), .int .u32 ((l44 2).i), .int .u32 ((l44 3).i), .slice ((l44 4).A) ((l44 4).n) ((l44 4).c)]))
           (.rd (loadVar 25 ⟨y2, 0, none⟩) (.one (.agg [.int .i64, .bool, .int .u32, .int .u32, .sl])) fun l45 =>
            (.done (.tuple #[.agg #[.int .i64 ((l45 0).i), .bool ((l45 1).b), .int .u32 ((l45 2).i), .int .u32 ((l45 3).i), .slice ((l45 4).A) ((l45 4).n) ((l45 4).c)], .int .i64 0]))))))))))) h) : Wp Try.prog 13 k_dualpkt_Decode_2 (t_dualpkt_Decode_2 Aa0 na0 ca0 y2 y4 A5 n5 c5 u) I h Q :=
  of_tree (cfg := g_dualpkt_Decode) 1000 (by kernel_rfl) Try.func13 rfl Try.checked.mixed hh
/-! ### octroiref07_Decode: function 14 of Go -/
abbrev F_octroiref07_Decode : FuncId := 14
noncomputable def c_octroiref07_Decode : Code := (Try.f14.body).getD .skip
def p_octroiref07_Decode : Nat → List (List Nat) := fun r => match r with | 12 => [[], [0], [0, 1], [0, 1, 2], [], [4], [4, 5], [4, 5, 6], [], [8], [], [8, 9, 10], [0, 1, 2, 3, 4, 5, 6, 7, 8, 9, 10, 11], [], [0, 1, 2, 3, 4, 5, 6, 7, 8, 9, 10, 11, 12, 13]] | 17 => [[], [], [0, 1], [], [], [4], [3, 4, 5], [3, 4, 5, 6], [3, 4, 5, 6, 7], [0, 1, 2, 3, 4, 5, 6, 7, 8], [], [10], [0, 1, 2, 3, 4, 5, 6, 7, 8, 9, 10, 11], [], [0, 1, 2, 3, 4, 5, 6, 7, 8, 9, 10, 11, 12, 13]] | 18 => [[], [], [1], [0, 1, 2], [0, 1, 2, 3], [0, 1, 2, 3, 4], [], [], [7], [6, 7, 8], [6, 7, 8, 9], [], [], [12], [6, 7, 8, 9, 11, 12, 13], [6, 7, 8, 9, 11, 12, 13, 14], [0, 1, 2, 3, 4, 5, 6, 7, 8, 9, 10, 11, 12, 13, 14, 15], [0, 1, 2, 3, 4, 5, 6, 7, 8, 9, 10, 11, 12, 13, 14, 15, 16], [0, 1, 2, 3, 4, 5, 6, 7, 8, 9, 10, 11, 12, 13, 14, 15, 16, 17]] | _ => []
noncomputable def g_octroiref07_Decode : Cfg := { sh := shs, fsh := fshs, results := [.cell 2 25, .tmp 3], hint := fun r i => match r, i with | 21, 4 => some (true, .one (.sc (.str))) | 21, 6 => some (true, .one (.sc (.str))) | _, _ => none, ord := fun r => match r with | 12 => some [0, 1, 2, 3, 4, 5, 6, 7, 8, 10, 9, 11, 12, 13, 14] | 17 => some [0, 1, 3, 4, 5, 6, 7, 8, 10, 11, 2, 9, 12, 13, 14] | 18 => some [0, 1, 2, 3, 4, 5, 6, 7, 8, 11, 12, 13, 9, 10, 14, 15, 16, 17, 18] | _ => none, pre := p_octroiref07_Decode, un := unOf p_octroiref07_Decode }
noncomputable def k_octroiref07_Decode_1 : List Item := [.code (bd (bd (sr (sl (sr (sr (sr (sr (sr (sr (sr (sr (sr (sr c_octroiref07_Decode)))))))))))))), .inLoop (bd (bd (sr (sl (sr (sr (sr (sr (sr (sr (sr (sr (sr (sr c_octroiref07_Decode)))))))))))))), .inBlock 0, .code (sr (sr (sr (sr (sr (sr (sr (sr (sr (sr (sr c_octroiref07_Decode)))))))))))]
noncomputable def t_octroiref07_Decode_1 (Aa0 : Option Addr) (na0 : Nat) (ca0 : Nat) (y2 : Nat) (y4 : Nat) (y8 : Nat) (x9 : Int) (u : Nat → Value) : List Value := [.slice Aa0 na0 ca0, undef, .pointer (some ⟨y2, 0, none⟩), (u 3), .pointer (some ⟨y4, 0, none⟩), (u 5), (u 6), (u 7), .pointer (some ⟨y8, 0, none⟩), .int .i64 x9, (u 10), (u 11), (u 12), (u 13), (u 14), (u 15), (u 16), (u 17), (u 18), (u 19), (u 20), (u 21), (u 22), (u 23), (u 24), (u 25), (u 26), (u 27), (u 28), (u 29), (u 30), (u 31), (u 32), (u 33), (u 34), (u 35), (u 36), (u 37), (u 38), (u 39), (u 40), (u 41), (u 42), (u 43), (u 44), (u 45), (u 46), (u 47), (u 48), (u 49), (u 50), (u 51), (u 52), (u 53), (u 54), (u 55), (u 56), (u 57), (u 58), (u 59), (u 60), (u 61), (u 62), (u 63), (u 64), (u 65), (u 66), (u 67), (u 68), (u 69), (u 70), (u 71), (u 72), (u 73), (u 74), (u 75), (u 76), (u 77), (u 78), (u 79), (u 80), (u 81), (u 82), (u 83), (u 84), (u 85), (u 86), (u 87), (u 88), (u 89), (u 90), (u 91), (u 92), (u 93), (u 94), (u 95), (u 96), (u 97), (u 98), (u 99), (u 100), (u 101), (u 102), (u 103), (u 104), (u 105), (u 106), (u 107), (u 108), (u 109), (u 110), (u 111), (u 112), (u 113), (u 114), (u 115), (u 116), (u 117), (u 118), (u 119), (u 120), (u 121), (u 122), (u 123), (u 124), (u 125), (u 126), (u 127), (u 128), (u 129), (u 130), (u 131), (u 132), (u 133), (u 134)]
set_option maxRecDepth 100000 in
theorem r_octroiref07_Decode (Aa0 : Option Addr) (na0 : Nat) (ca0 : Nat) {I : Ctx} {h : Mem} {Q : Value → Mem → Prop}
  (hh : holds Try.prog 14 I (cl_ Q)
   (.sem (Instr.alloc 25 true (.tuple #[])) shBlk fun l1 =>
    (.sem (Instr.alloc 25 true (.tuple #[])) shBlk fun l2 =>
     (.unit (Instr.storeAt 25 (.pointer (some ⟨(l2 0).n, 0, none⟩)) (.agg #[.int .i64 0, .bool false, .int .u32 0, .int .u32 0, .slice none 0 0]))
      (.ite (decide ((((na0 : Nat) : Int) : Int) < 16))
       (.rd (Instr.loadAt 25 (.pointer (some ⟨(l2 0).n, 0, none⟩))) (.one (.agg [.int .i64, .bool, .int .u32, .int .u32, .sl])) fun l3 =>
        (.unit (Instr.storeAt 25 (.pointer (some ⟨(l1 0).n, 0, none⟩)) (.agg #[.int .i64 ((l3 0).i), .bool ((l3 1).b), .int .u32 ((l3 2).i), .int .u32 ((l3 3).i), .slice ((l3 4).A) ((l3 4).n) ((l3 4).c)]))
         (.rd (loadVar 25 ⟨(l1 0).n, 0, none⟩) (.one (.agg [.int .i64, .bool, .int .u32, .int .u32, .sl])) fun l4 =>
          (.done (.tuple #[.agg #[.int .i64 ((l4 0).i), .bool ((l4 1).b), .int .u32 ((l4 2).i), .int .u32 ((l4 3).i), .slice ((l4 4).A) ((l4 4).n) ((l4 4).c)], .int .i64 2])))))
       (.ite ((Int.tmod (IntKind.wrap .i64 (((na0 : Nat) : Int) - 16)) 20 : Int) != 0)
        (.rd (Instr.loadAt 25 (.pointer (some ⟨(l2 0).n, 0, none⟩))) (.one (.agg [.int .i64, .bool, .int .u32, .int .u32, .sl])) fun l5 =>
         (.unit (Instr.storeAt 25 (.pointer (some ⟨(l1 0).n, 0, none⟩)) (.agg #[.int .i64 ((l5 0).i), .bool ((l5 1).b), .int .u32 ((l5 2).i), .int .u32 ((l5 3).i), .slice ((l5 4).A) ((l5 4).n) ((l5 4).c)]))
          (.rd (loadVar 25 ⟨(l1 0).n, 0, none⟩) (.one (.agg [.int .i64, .bool, .int .u32, .int .u32, .sl])) fun l6 =>
           (.done (.tuple #[.agg #[.int .i64 ((l6 0).i), .bool ((l6 1).b), .int .u32 ((l6 2).i), .int .u32 ((l6 3).i), .slice ((l6 4).A) ((l6 4).n) ((l6 4).c)], .int .i64 2])))))
        (.rd (Instr.indexAt 27 (.slice Aa0 na0 ca0) (.int .i64 0)) (.one (.sc (.padr))) fun l7 =>
         (.rd (Instr.loadAt 5 (.pointer (some ((l7 0).a)))) (.one (.sc (.int .u8))) fun l8 =>
          (.ite (((l8 0).i : Int) != 2)
           (.rd (Instr.loadAt 25 (.pointer (some ⟨(l2 0).n, 0, none⟩))) (.one (.agg [.int .i64, .bool, .int .u32, .int .u32, .sl])) fun l9 =>
            (.unit (Instr.storeAt 25 (.pointer (some ⟨(l1 0).n, 0, none⟩)) (.agg #[.int .i64 ((l9 0).i), .bool ((l9 1).b), .int .u32 ((l9 2).i), .int .u32 ((l9 3).i), .slice ((l9 4).A) ((l9 4).n) ((l9 4).c)]))
             (.rd (loadVar 25 ⟨(l1 0).n, 0, none⟩) (.one (.agg [.int .i64, .bool, .int .u32, .int .u32, .sl])) fun l10 =>
              (.done (.tuple #[.agg #[.int .i64 ((l10 0).i), .bool ((l10 1).b), .int .u32 ((l10 2).i), .int .u32 ((l10 3).i), .slice ((l10 4).A) ((l10 4).n) ((l10 4).c)], .int .i64 2])))))
           (.nx (builtin .append #[27, 27] 27 #[true, false] #[.slice none 0 0, .slice Aa0 na0 ca0]) (.one (.sc (.sl))) fun l11 =>
            (.rd (Instr.indexAt 27 (.slice ((l11 0).A) ((l11 0).n) ((l11 0).c)) (.int .i64 2)) (.one (.sc (.padr))) fun l12 =>
             (.unit (Instr.storeAt 5 (.pointer (some ((l12 0).a))) (.int .u8 0))
              (.rd (Instr.indexAt 27 (.slice ((l11 0).A) ((l11 0).n) ((l11 0).c)) (.int .i64 3)) (.one (.sc (.padr))) fun l13 =>
               (.unit (Instr.storeAt 5 (.pointer (some ((l13 0).a))) (.int .u8 0))
                (.call 28 [.slice Aa0 na0 ca0, .int .i64 2, .int .i64 2] (.tup [(.sc (.int .u32)), (.sc (.bool))]) fun l14 => -- octroiref01_Get
                 (.call 24 [.slice ((l11 0).A) ((l11 0).n) ((l11 0).c)] (.one (.sc (.int .u16))) fun l15 => -- octroiref01_Sum
                  (.ite ((IntKind.wrap .u32 ((l15 0).i) : Int) != ((l14 0).i))
                   (.rd (Instr.loadAt 25 (.pointer (some ⟨(l2 0).n, 0, none⟩))) (.one (.agg [.int .i64, .bool, .int .u32, .int .u32, .sl])) fun l16 =>
                    (.unit (Instr.storeAt 25 (.pointer (some ⟨(l1 0).n, 0, none⟩)) (.agg #[.int .i64 ((l16 0).i), .bool ((l16 1).b), .int .u32 ((l16 2).i), .int .u32 ((l16 3).i), .slice ((l16 4).A) ((l16 4).n) ((l16 4).c)]))
                     (.rd (loadVar 25 ⟨(l1 0).n, 0, none⟩) (.one (.agg [.int .i64, .bool, .int .u32, .int .u32, .sl])) fun l17 =>
                      (.done (.tuple #[.agg #[.int .i64 ((l17 0).i), .bool ((l17 1).b), .int .u32 ((l17 2).i), .int .u32 ((l17 3).i), .slice ((l17 4).A) ((l17 4).n) ((l17 4).c)], .int .i64 8])))))
                   (.ite (decide ((IntKind.wrap .i64 (Int.tdiv (IntKind.wrap .i64 (((na0 : Nat) : Int) - 16)) 20) : Int) > 40))
                    (.rd (Instr.loadAt 25 (.pointer (some ⟨(l2 0).n, 0, none⟩))) (.one (.agg [.int .i64, .bool, .int .u32, .int .u32, .sl])) fun l18 =>
                     (.unit (Instr.storeAt 25 (.pointer (some ⟨(l1 0).n, 0, none⟩)) (.agg #[.int .i64 ((l18 0).i), .bool ((l18 1).b), .int .u32 ((l18 2).i), .int .u32 ((l18 3).i), .slice ((l18 4).A) ((l18 4).n) ((l18 4).c)]))
                      (.rd (loadVar 25 ⟨(l1 0).n, 0, none⟩) (.one (.agg [.int .i64, .bool, .int .u32, .int .u32, .sl])) fun l19 =>
                       (.done (.tuple #[.agg #[.int .i64 ((l19 0).i), .bool ((l19 1).b), .int .u32 ((l19 2).i), .int .u32 ((l19 3).i), .slice ((l19 4).A) ((l19 4).n) ((l19 4).c)], .int .i64 9])))))
                    (.rd (Instr.indexAt 27 (.slice Aa0 na0 ca0) (.int .i64 1)) (.one (.sc (.padr))) fun l20 =>
                     (.rd (Instr.loadAt 5 (.pointer (some ((l20 0).a)))) (.one (.sc (.int .u8))) fun l21 =>
                      (.rd (Instr.indexAt 27 (.slice Aa0 na0 ca0) (.int .i64 4)) (.one (.sc (.padr))) fun l22 =>
                       (.rd (Instr.loadAt 5 (.pointer (some ((l22 0).a)))) (.one (.sc (.int .u8))) fun l23 =>
                        (.call 29 [.slice Aa0 na0 ca0, .int .i64 8] (.one (.sc (.int .u32))) fun l24 => -- octroiref07_get
                         (.pin (vN (Instr.loadAt 5 (.pointer (some ((l22 0).a))))) (.int .u8 ((l23 0).i))
                          (.pin (vN (Instr.indexAt 27 (.slice Aa0 na0 ca0) (.int .i64 4))) (.pointer (some ((l22 0).a)))
                           (.pin (vN (Instr.loadAt 5 (.pointer (some ((l20 0).a))))) (.int .u8 ((l21 0).i))
                            (.pin (vN (Instr.indexAt 27 (.slice Aa0 na0 ca0) (.int .i64 1))) (.pointer (some ((l20 0).a)))
                             (.call 29 [.slice Aa0 na0 ca0, .int .i64 12] (.one (.sc (.int .u32))) fun l25 => -- octroiref07_get
                              (.pin (vN (Instr.loadAt 5 (.pointer (some ((l22 0).a))))) (.int .u8 ((l23 0).i))
                               (.pin (vN (Instr.indexAt 27 (.slice Aa0 na0 ca0) (.int .i64 4))) (.pointer (some ((l22 0).a)))
                                (.pin (vN (Instr.loadAt 5 (.pointer (some ((l20 0).a))))) (.int .u8 ((l21 0).i))
                                 (.pin (vN (Instr.indexAt 27 (.slice Aa0 na0 ca0) (.int .i64 1))) (.pointer (some ((l20 0).a)))
                                  (.sem (Instr.alloc 25 true (.tuple #[])) shBlk fun l26 =>
                                   (.unit (Instr.storeAt 25 (.pointer (some ⟨(l26 0).n, 0, none⟩)) (.agg #[.int .i64 (IntKind.wrap .i64 ((l21 0).i)), .bool (((l23 0).i : Int) == 1), .int .u32 ((l24 0).i), .int .u32 ((l25 0).i), .slice none 0 0]))
                                    (.stop k_octroiref07_Decode_1 (t_octroiref07_Decode_1 Aa0 na0 ca0 ((l1 0).n) ((l2 0).n) ((l26 0).n) 16 (jl [(3, .int .i64 0), (5, .slice ((l11 0).A) ((l11 0).n) ((l11 0).c)), (6, .int .u32 ((l14 0).i)), (7, .bool ((l14 1).b)), (10, undef), (11, undef), (12, undef), (13, undef), (14, undef), (15, .agg #[.int .i64 0, .bool false, .int .u32 0, .int .u32 0, .slice none 0 0]), (16, .slice Aa0 na0 ca0), (17, .int .i64 ((na0 : Nat) : Int)), (18, .bool (decide ((((na0 : Nat) : Int) : Int) < 16))), (19, .bool false), (20, .slice Aa0 na0 ca0), (21, .int .i64 ((na0 : Nat) : Int)), (22, .int .i64 (IntKind.wrap .i64 (((na0 : Nat) : Int) - 16))), (23, .int .i64 (Int.tmod (IntKind.wrap .i64 (((na0 : Nat) : Int) - 16)) 20)), (24, .bool ((Int.tmod (IntKind.wrap .i64 (((na0 : Nat) : Int) - 16)) 20 : Int) != 0)), (25, .bool ((Int.tmod (IntKind.wrap .i64 (((na0 : Nat) : Int) - 16)) 20 : Int) != 0)), (26, .bool false), (27, .slice Aa0 na0 ca0), (28, .pointer (some ((l7 0).a))), (29, .int .u8 ((l8 0).i)), (30, .bool (((l8 0).i : Int) != 2)), (31, .bool (((l8 0).i : Int) != 2)), (32, undef), (33, .slice Aa0 na0 ca0), (34, .slice ((l11 0).A) ((l11 0).n) ((l11 0).c)), (35, .slice ((l11 0).A) ((l11 0).n) ((l11 0).c)), (36, .pointer (some ((l12 0).a))), (37, .slice ((l11 0).A) ((l11 0).n) ((l11 0).c)), (38, .pointer (some ((l13 0).a))), (39, .tuple #[.int .u32 ((l14 0).i), .bool ((l14 1).b)]), (40, .slice Aa0 na0 ca0), (41, .tuple #[.int .u32 ((l14 0).i), .bool ((l14 1).b)]), (42, .int .u32 ((l14 0).i)), (43, .bool ((l14 1).b)), (44, .slice ((l11 0).A) ((l11 0).n) ((l11 0).c)), (45, .int .u16 ((l15 0).i)), (46, .int .u32 (IntKind.wrap .u32 ((l15 0).i))), (47, .int .u32 ((l14 0).i)), (48, .bool ((IntKind.wrap .u32 ((l15 0).i) : Int) != ((l14 0).i))), (49, undef), (50, .slice Aa0 na0 ca0), (51, .int .i64 ((na0 : Nat) : Int)), (52, .int .i64 (IntKind.wrap .i64 (((na0 : Nat) : Int) - 16))), (53, .int .i64 (IntKind.wrap .i64 (Int.tdiv (IntKind.wrap .i64 (((na0 : Nat) : Int) - 16)) 20))), (54, .bool (decide ((IntKind.wrap .i64 (Int.tdiv (IntKind.wrap .i64 (((na0 : Nat) : Int) - 16)) 20) : Int) > 40))), (55, undef), (56, .slice Aa0 na0 ca0), (57, .pointer (some ((l20 0).a))), (58, .int .u8 ((l21 0).i)), (59, .int .i64 (IntKind.wrap .i64 ((l21 0).i))), (60, .slice Aa0 na0 ca0), (61, .pointer (some ((l22 0).a))), (62, .int .u8 ((l23 0).i)), (63, .bool (((l23 0).i : Int) == 1)), (64, .slice Aa0 na0 ca0), (65, .int .u32 ((l24 0).i)), (66, .slice Aa0 na0 ca0), (67, .int .u32 ((l25 0).i)), (68, .agg #[.int .i64 (IntKind.wrap .i64 ((l21 0).i)), .bool (((l23 0).i : Int) == 1), .int .u32 ((l24 0).i), .int .u32 ((l25 0).i), .slice none 0 0]), (69, undef), (70, undef), (71, undef), (72, undef), (73, undef), (74, undef), (75, undef), (76, undef), (77, undef), (78, undef), (79, undef), (80, undef), (81, undef), (82, undef), (83, undef), (84, undef), (85, undef), (86, undef), (87, undef), (88, undef), (89, undef), (90, undef), (91, undef), (92, undef), (93, undef), (94, undef), (95, undef), (96, undef), (97, undef), (98, undef), (99, undef), (100, undef), (101, undef), (102, undef), (103, undef), (104, undef), (105, undef), (106, undef), (107, undef), (108, undef), (109, undef), (110, undef), (111, undef), (112, undef), (113, undef), (114, undef), (115, undef), (116, undef), (117, undef), (118, undef), (119, undef), (120, undef), (121, undef), (122, undef), (123, undef), (124, undef), (125, undef), (126, undef), (127, undef), (128, undef), (129, undef), (130, undef), (131, undef), (132, undef), (133, undef), (134, undef)])))))))))))))))))))))))))))))))))))) h) : Fn Try.prog 14 #[.slice Aa0 na0 ca0] I h Q :=
  Wp.fn (args := [.slice Aa0 na0 ca0]) Try.func14 rfl (by kernel_rfl) (of_tree (cfg := g_octroiref07_Decode) 1000 (by kernel_rfl) Try.func14 rfl Try.checked.mixed hh)
theorem ca_octroiref07_Decode : callable Try.prog 14 := ⟨_, Try.func14, by kernel_rfl, by kernel_rfl⟩
set_option maxRecDepth 100000 in
theorem r_octroiref07_Decode_1 (Aa0 : Option Addr) (na0 : Nat) (ca0 : Nat) (y2 : Nat) (y4 : Nat) (y8 : Nat) (x9 : Int) (u : Nat → Value) {I : Ctx} {h : Mem} {Q : Value → Mem → Prop}
  (hh : holds Try.prog 14 I Q
   (.ite (decide ((x9 : Int) < ((na0 : Nat) : Int)))
    (.call 28 [.slice Aa0 na0 ca0, .int .i64 (IntKind.wrap .i64 (x9 + 6)), .int .i64 2] (.tup [(.sc (.int .u32)), (.sc (.bool))]) fun l27 => -- octroiref01_Get
     (.rd (Instr.indexAt 27 (.slice Aa0 na0 ca0) (.int .i64 (IntKind.wrap .i64 (x9 + 4)))) (.one (.sc (.padr))) fun l28 =>
      (.rd (Instr.loadAt 5 (.pointer (some ((l28 0).a)))) (.one (.sc (.int .u8))) fun l29 =>
       (.call 29 [.slice Aa0 na0 ca0, .int .i64 x9] (.one (.sc (.int .u32))) fun l30 => -- octroiref07_get
        (.pin (vN (Instr.loadAt 5 (.pointer (some ((l28 0).a))))) (.int .u8 ((l29 0).i))
         (.pin (vN (Instr.indexAt 27 (.slice Aa0 na0 ca0) (.int .i64 (IntKind.wrap .i64 (x9 + 4))))) (.pointer (some ((l28 0).a)))
          (.sem (Instr.alloc 43 true (.tuple #[])) shBlk fun l31 =>
           (.unit (Instr.storeAt 43 (.pointer (some ⟨(l31 0).n, 0, none⟩)) (.agg #[.int .u32 ((l30 0).i), .int .i64 (IntKind.wrap .i64 ((l29 0).i)), .int .i64 0, .int .i64 0, .int .i64 0, .int .u16 (IntKind.wrap .u16 ((l27 0).i))]))
            (.rd (Instr.indexAt 27 (.slice Aa0 na0 ca0) (.int .i64 (IntKind.wrap .i64 (x9 + 5)))) (.one (.sc (.padr))) fun l32 =>
             (.rd (Instr.loadAt 5 (.pointer (some ((l32 0).a)))) (.one (.sc (.int .u8))) fun l33 =>
              (.call 29 [.slice Aa0 na0 ca0, .int .i64 (IntKind.wrap .i64 (x9 + 8))] (.one (.sc (.int .u32))) fun l34 => -- octroiref07_get
               (.pin (vN (Instr.loadAt 5 (.pointer (some ((l32 0).a))))) (.int .u8 ((l33 0).i))
                (.pin (vN (Instr.indexAt 27 (.slice Aa0 na0 ca0) (.int .i64 (IntKind.wrap .i64 (x9 + 5))))) (.pointer (some ((l32 0).a)))
                 (.call 29 [.slice Aa0 na0 ca0, .int .i64 (IntKind.wrap .i64 (x9 + 12))] (.one (.sc (.int .u32))) fun l35 => -- octroiref07_get
                  (.pin (vN (Instr.loadAt 5 (.pointer (some ((l32 0).a))))) (.int .u8 ((l33 0).i))
                   (.pin (vN (Instr.indexAt 27 (.slice Aa0 na0 ca0) (.int .i64 (IntKind.wrap .i64 (x9 + 5))))) (.pointer (some ((l32 0).a)))
                    (.unit (Instr.storeAt 40 (.pointer (some ⟨(l31 0).n, 2, none⟩)) (.agg #[.int .i64 (IntKind.wrap .i64 ((l34 0).i)), .int .i64 (IntKind.wrap .i64 ((l35 0).i)), .int .i64 (IntKind.wrap .i64 ((l33 0).i))]))
                     (.rd (Instr.loadAt 23 (.pointer (some ⟨y8, 4, none⟩))) (.one (.sc (.sl))) fun l36 =>
                      (.rd (Instr.loadAt 43 (.pointer (some ⟨(l31 0).n, 0, none⟩))) (.one (.agg [.int .u32, .int .i64, .int .i64, .int .i64, .int .i64, .int .u16])) fun l37 =>
                       (.sem (Instr.buildSlice 23 1 #[(0, .agg #[.int .u32 ((l37 0).i), .int .i64 ((l37 1).i), .int .i64 ((l37 2).i), .int .i64 ((l37 3).i), .int .i64 ((l37 4).i), .int .u16 ((l37 5).i)])]) (.one (.sc (.row 1))) fun l38 =>
                        (.nx (builtin .append #[23, 23] 23 #[false, false] #[.slice ((l36 0).A) ((l36 0).n) ((l36 0).c), .slice (some ⟨(l38 0).n, 0, none⟩) 1 1]) (.one (.sc (.sl))) fun l39 =>
                         (.unit (Instr.storeAt 23 (.pointer (some ⟨y8, 4, none⟩)) (.slice ((l39 0).A) ((l39 0).n) ((l39 0).c)))
                          (.stop k_octroiref07_Decode_1 (t_octroiref07_Decode_1 Aa0 na0 ca0 y2 y4 y8 (IntKind.wrap .i64 (x9 + 20)) (jl [(3, (u 3)), (5, (u 5)), (6, (u 6)), (7, (u 7)), (10, .int .u32 ((l27 0).i)), (11, .bool ((l27 1).b)), (12, .pointer (some ⟨(l31 0).n, 0, none⟩)), (13, (u 13)), (14, (u 14)), (15, (u 15)), (16, (u 16)), (17, (u 17)), (18, (u 18)), (19, (u 19)), (20, (u 20)), (21, (u 21)), (22, (u 22)), (23, (u 23)), (24, (u 24)), (25, (u 25)), (26, (u 26)), (27, (u 27)), (28, (u 28)), (29, (u 29)), (30, (u 30)), (31, (u 31)), (32, (u 32)), (33, (u 33)), (34, (u 34)), (35, (u 35)), (36, (u 36)), (37, (u 37)), (38, (u 38)), (39, (u 39)), (40, (u 40)), (41, (u 41)), (42, (u 42)), (43, (u 43)), (44, (u 44)), (45, (u 45)), (46, (u 46)), (47, (u 47)), (48, (u 48)), (49, (u 49)), (50, (u 50)), (51, (u 51)), (52, (u 52)), (53, (u 53)), (54, (u 54)), (55, (u 55)), (56, (u 56)), (57, (u 57)), (58, (u 58)), (59, (u 59)), (60, (u 60)), (61, (u 61)), (62, (u 62)), (63, (u 63)), (64, (u 64)), (65, (u 65)), (66, (u 66)), (67, (u 67)), (68, (u 68)), (69, .int .i64 x9), (70, .slice Aa0 na0 ca0), (71, .int .i64 ((na0 : Nat) : Int)), (72, .bool (decide ((x9 : Int) < ((na0 : Nat) : Int)))), (73, .int .i64 x9), (74, .int .i64 (IntKind.wrap .i64 (x9 + 20))), (75, .tuple #[.int .u32 ((l27 0).i), .bool ((l27 1).b)]), (76, .slice Aa0 na0 ca0), (77, .int .i64 x9), (78, .int .i64 (IntKind.wrap .i64 (x9 + 6))), (79, .tuple #[.int .u32 ((l27 0).i), .bool ((l27 1).b)]), (80, .int .u32 ((l27 0).i)), (81, .bool ((l27 1).b)), (82, .slice Aa0 na0 ca0), (83, .int .i64 x9), (84, .int .u32 ((l30 0).i)), (85, .slice Aa0 na0 ca0), (86, .int .i64 x9), (87, .int .i64 (IntKind.wrap .i64 (x9 + 4))), (88, .pointer (some ((l28 0).a))), (89, .int .u8 ((l29 0).i)), (90, .int .i64 (IntKind.wrap .i64 ((l29 0).i))), (91, .agg #[.int .u32 ((l30 0).i), .int .i64 (IntKind.wrap .i64 ((l29 0).i))]), (92, .int .u32 ((l27 0).i)), (93, .int .u16 (IntKind.wrap .u16 ((l27 0).i))), (94, .agg #[.int .u32 ((l30 0).i), .int .i64 (IntKind.wrap .i64 ((l29 0).i)), .int .i64 0, .int .i64 0, .int .i64 0, .int .u16 (IntKind.wrap .u16 ((l27 0).i))]), (95, .slice Aa0 na0 ca0), (96, .int .i64 x9), (97, .int .i64 (IntKind.wrap .i64 (x9 + 5))), (98, .pointer (some ((l32 0).a))), (99, .int .u8 ((l33 0).i)), (100, .int .i64 (IntKind.wrap .i64 ((l33 0).i))), (101, .slice Aa0 na0 ca0), (102, .int .i64 x9), (103, .int .i64 (IntKind.wrap .i64 (x9 + 8))), (104, .int .u32 ((l34 0).i)), (105, .int .i64 (IntKind.wrap .i64 ((l34 0).i))), (106, .slice Aa0 na0 ca0), (107, .int .i64 x9), (108, .int .i64 (IntKind.wrap .i64 (x9 + 12))), (109, .int .u32 ((l35 0).i)), (110, .int .i64 (IntKind.wrap .i64 ((l35 0).i))), (111, .agg #[.int .i64 (IntKind.wrap .i64 ((l34 0).i)), .int .i64 (IntKind.wrap .i64 ((l35 0).i)), .int .i64 (IntKind.wrap .i64 ((l33 0).i))]), (112, .pointer (some ⟨(l31 0).n, 2, none⟩)), (113, .pointer (some ⟨y8, 4, none⟩)), (114, .slice ((l36 0).A) ((l36 0).n) ((l36 0).c)), (115, .agg #[.int .u32 ((l37 0).i), .int .i64 ((l37 1).i), .int .i64 ((l37 2).i), .int .i64 ((l37 3).i), .int .i64 ((l37 4).i), .int .u16 ((l37 5).i)]), (116, .slice (some ⟨(l38 0).n, 0, none⟩) 1 1), (117, .slice ((l39 0).A) ((l39 0).n) ((l39 0).c)), (118, .pointer (some ⟨y8, 4, none⟩)), (119, (u 119)), (120, (u 120)), (121, (u 121)), (122, (u 122)), (123, (u 123)), (124, (u 124)), (125, (u 125)), (126, (u 126)), (127, (u 127)), (128, (u 128)), (129, (u 129)), (130, (u 130)), (131, (u 131)), (132, (u 132)), (133, (u 133)), (134, (u 134))])))))))))))))))))))))))))
    (.rd (Instr.loadAt 25 (.pointer (some ⟨y8, 0, none⟩))) (.one (.agg [.int .i64, .bool, .int .u32, .int .u32, .sl])) fun l40 =>
     (.call 11 [.agg #[.int .i64 ((l40 0).i), .bool ((l40 1).b), .int .u32 ((l40 2).i), .int .u32 ((l40 3).i), .slice ((l40 4).A) ((l40 4).n) ((l40 4).c)]] (.tup [(.sc (.sl)), (.sc (.int .i64))]) fun l41 => -- octroiref07_Encode
      (.ite (((l41 1).i : Int) != 0)
       (.rd (Instr.loadAt 25 (.pointer (some ⟨y4, 0, none⟩))) (.one (.agg [.int .i64, .bool, .int .u32, .int .u32, .sl])) fun l42 =>
        (.unit (Instr.storeAt 25 (.pointer (some ⟨y2, 0, none⟩)) (.agg #[.int .i64 ((l42 0).i), .bool ((l42 1).b), .int .u32 ((l42 2).i), .int .u32 ((l42 3).i), .slice ((l42 4).A) ((l42 4).n) ((l42 4).c)]))
         (.rd (loadVar 25 ⟨y2, 0, none⟩) (.one (.agg [.int .i64, .bool, .int .u32, .int .u32, .sl])) fun l43 =>
          (.done (.tuple #[.agg #[.int .i64 ((l43 0).i), .bool ((l43 1).b), .int .u32 ((l43 2).i), .int .u32 ((l43 3).i), .slice ((l43 4).A) ((l43 4).n) ((l43 4).c)], .int .i64 2])))))
       (.rdn (convN 27 9 (.slice ((l41 0).A) ((l41 0).n) ((l41 0).c))) (.one (.sc (.str))) fun l44 =>
        (.rdn (convN 27 9 (.slice Aa0 na0 ca0)) (.one (.sc (.str))) fun l45 =>
         (.ite (!(((l44 0).s).toList == ((l45 0).s).toList))
          (.rd (Instr.loadAt 25 (.pointer (some ⟨y4, 0, none⟩))) (.one (.agg [.int .i64, .bool, .int .u32, .int .u32, .sl])) fun l46 =>
           (.unit (Instr.storeAt 25 (.pointer (some ⟨y2, 0, none⟩)) (.agg #[.int .i64 ((l46 0).i), .bool ((l46 1).b), .int .u32 ((l46 2).i), .int .u32 ((l46 3).i), .slice ((l46 4).A) ((l46 4).n) ((l46 4).c)]))
            (.rd (loadVar 25 ⟨y2, 0, none⟩) (.one (.agg [.int .i64, .bool, .int .u32, .int .u32, .sl])) fun l47 =>
             (.done (.tuple #[.agg #[.int .i64 ((l47 0).i), .bool ((l47 1).b), .int .u32 ((l47 2).i), .int .u32 ((l47 3).i), .slice ((l47 4).A) ((l47 4).n) ((l47 4).c)], .int .i64 2])))))
          (.rd (Instr.loadAt 25 (.pointer (some ⟨y8, 0, none⟩))) (.one (.agg [.int .i64, .bool, .int .u32, .int .u32, .sl])) fun l48 =>
           (.unit (Instr.storeAt 25 (.pointer (some ⟨y2, 0, none⟩)) (.agg #[.int .i64 ((l48 0).i), .bool ((l48 1).b), .int .u32 ((l48 2).i), .int .u32 ((l48 3).i), .slice ((l48 4).A) ((l48 4).n) ((l48 4).c)]))
            (.rd (loadVar 25 ⟨y2, 0, none⟩) (.one (.agg [.int .i64, .bool, .int .u32, .int .u32, .sl])) fun l49 =>
             (.done (.tuple #[.agg #[.int .i64 ((l49 0).i), .bool ((l49 1).b), .int .u32 ((l49 2).i), .int .u32 ((l49 3).i), .slice ((l49 4).A) ((l49 4).n) ((l49 4).c)], .int .i64 0])))))))))))) h) : Wp Try.prog 14 k_octroiref07_Decode_1 (t_octroiref07_Decode_1 Aa0 na0 ca0 y2 y4 y8 x9 u) I h Q :=
  of_tree (cfg := g_octroiref07_Decode) 1000 (by kernel_rfl) Try.func14 rfl Try.checked.mixed hh
/-! ### dualpkt_Encode_fn1: function 15 of Go -/
abbrev F_dualpkt_Encode_fn1 : FuncId := 15
noncomputable def c_dualpkt_Encode_fn1 : Code := (Try.f15.body).getD .skip
noncomputable def g_dualpkt_Encode_fn1 : Cfg := { sh := shs, fsh := fshs, results := [.tmp 2], hint := fun _ _ => none, ord := fun _ => none, pre := fun _ => [], un := fun _ _ _ => false }
set_option maxRecDepth 100000 in
theorem r_dualpkt_Encode_fn1 (a0_0 : Int) (a0_1 : Int) (a0_2 : Int) (a0_3 : Int) (a0_4 : Int) (a0_5 : Int) {I : Ctx} {h : Mem} {Q : Value → Mem → Prop}
  (hh : holds Try.prog 15 I (cl_ Q)
   (.sem (Instr.box 43 (.agg #[.int .u32 a0_0, .int .i64 a0_1, .int .i64 a0_2, .int .i64 a0_3, .int .i64 a0_4, .int .u16 a0_5])) shBlk fun l1 =>
    (.rd (Instr.loadAt 43 (.pointer (some ⟨(l1 0).n, 0, none⟩))) (.one (.agg [.int .u32, .int .i64, .int .i64, .int .i64, .int .i64, .int .u16])) fun l2 =>
     (.call 16 [.agg #[.int .u32 ((l2 0).i), .int .i64 ((l2 1).i), .int .i64 ((l2 2).i), .int .i64 ((l2 3).i), .int .i64 ((l2 4).i), .int .u16 ((l2 5).i)]] (.one (.sc (.bool))) fun l3 => -- dualpkt_may
      (.done (.bool (!((l3 0).b))))))) h) : Fn Try.prog 15 #[.agg #[.int .u32 a0_0, .int .i64 a0_1, .int .i64 a0_2, .int .i64 a0_3, .int .i64 a0_4, .int .u16 a0_5]] I h Q :=
  Wp.fn (args := [.agg #[.int .u32 a0_0, .int .i64 a0_1, .int .i64 a0_2, .int .i64 a0_3, .int .i64 a0_4, .int .u16 a0_5]]) Try.func15 rfl (by kernel_rfl) (of_tree (cfg := g_dualpkt_Encode_fn1) 1000 (by kernel_rfl) Try.func15 rfl Try.checked.mixed hh)
theorem ca_dualpkt_Encode_fn1 : callable Try.prog 15 := ⟨_, Try.func15, by kernel_rfl, by kernel_rfl⟩
/-! ### dualpkt_may: function 16 of Go -/
abbrev F_dualpkt_may : FuncId := 16
noncomputable def c_dualpkt_may : Code := (Try.f16.body).getD .skip
noncomputable def g_dualpkt_may : Cfg := { sh := shs, fsh := fshs, results := [.tmp 2], hint := fun r i => match r, i with | 1, 11 => some (true, .one (.sc (.bool))) | _, _ => none, ord := fun _ => none, pre := fun _ => [], un := fun _ _ _ => false }
set_option maxRecDepth 100000 in
theorem r_dualpkt_may (a0_0 : Int) (a0_1 : Int) (a0_2 : Int) (a0_3 : Int) (a0_4 : Int) (a0_5 : Int) {I : Ctx} {h : Mem} {Q : Value → Mem → Prop}
  (hh : holds Try.prog 16 I (cl_ Q)
   (.sem (Instr.box 43 (.agg #[.int .u32 a0_0, .int .i64 a0_1, .int .i64 a0_2, .int .i64 a0_3, .int .i64 a0_4, .int .u16 a0_5])) shBlk fun l1 =>
    (.rd (Instr.loadAt 38 (.pointer (some ⟨(l1 0).n, 0, none⟩))) (.one (.agg [.int .u32, .int .i64])) fun l2 =>
     (.call 30 [.agg #[.int .u32 ((l2 0).i), .int .i64 ((l2 1).i)]] (.one (.sc (.bool))) fun l3 => -- prefix_May
      (.ite ((l3 0).b)
       (.rd (Instr.loadAt 40 (.pointer (some ⟨(l1 0).n, 2, none⟩))) (.one (.agg [.int .i64, .int .i64, .int .i64])) fun l4 =>
        (.call 31 [.agg #[.int .i64 ((l4 0).i), .int .i64 ((l4 1).i), .int .i64 ((l4 2).i)]] (.one (.sc (.bool))) fun l5 => -- metric_May
         (.ite ((l5 0).b)
          (.done (.bool true))
          (.rd (Instr.loadAt 40 (.pointer (some ⟨(l1 0).n, 2, none⟩))) (.one (.agg [.int .i64, .int .i64, .int .i64])) fun l6 =>
           (.rdn (eqN .eql 40 (.tmp 0) (.tmp 0) (.agg #[.int .i64 ((l6 0).i), .int .i64 ((l6 1).i), .int .i64 ((l6 2).i)]) (.agg #[.int .i64 0, .int .i64 0, .int .i64 0])) (.one (.sc (.bool))) fun l7 =>
            (.done (.bool ((l7 0).b))))))))
       (.done (.bool false)))))) h) : Fn Try.prog 16 #[.agg #[.int .u32 a0_0, .int .i64 a0_1, .int .i64 a0_2, .int .i64 a0_3, .int .i64 a0_4, .int .u16 a0_5]] I h Q :=
  Wp.fn (args := [.agg #[.int .u32 a0_0, .int .i64 a0_1, .int .i64 a0_2, .int .i64 a0_3, .int .i64 a0_4, .int .u16 a0_5]]) Try.func16 rfl (by kernel_rfl) (of_tree (cfg := g_dualpkt_may) 1000 (by kernel_rfl) Try.func16 rfl Try.checked.mixed hh)
theorem ca_dualpkt_may : callable Try.prog 16 := ⟨_, Try.func16, by kernel_rfl, by kernel_rfl⟩
/-! ### slices_ContainsFunc_DualEntry: function 17 of Go -/
abbrev F_slices_ContainsFunc_DualEntry : FuncId := 17
noncomputable def c_slices_ContainsFunc_DualEntry : Code := (Try.f17.body).getD .skip
noncomputable def g_slices_ContainsFunc_DualEntry : Cfg := { sh := shs, fsh := fshs, results := [.tmp 4], hint := fun _ _ => none, ord := fun _ => none, pre := fun _ => [], un := fun _ _ _ => false }
set_option maxRecDepth 100000 in
theorem r_slices_ContainsFunc_DualEntry (Aa0 : Option Addr) (na0 : Nat) (ca0 : Nat) {I : Ctx} {h : Mem} {Q : Value → Mem → Prop}
  (hh : holds Try.prog 17 I (cl_ Q)
   (.call 32 [.slice Aa0 na0 ca0, .func (.func 15) #[] #[]] (.one (.sc (.int .i64))) fun l1 => -- slices_IndexFunc_DualEntry
    (.done (.bool (decide (((l1 0).i : Int) ≥ 0))))) h) : Fn Try.prog 17 #[.slice Aa0 na0 ca0, .func (.func 15) #[] #[]] I h Q :=
  Wp.fn (args := [.slice Aa0 na0 ca0, .func (.func 15) #[] #[]]) Try.func17 rfl (by kernel_rfl) (of_tree (cfg := g_slices_ContainsFunc_DualEntry) 1000 (by kernel_rfl) Try.func17 rfl Try.checked.mixed hh)
theorem ca_slices_ContainsFunc_DualEntry : callable Try.prog 17 := ⟨_, Try.func17, by kernel_rfl, by kernel_rfl⟩
/-! ### slices_Concat_byte: function 18 of Go -/
abbrev F_slices_Concat_byte : FuncId := 18
noncomputable def c_slices_Concat_byte : Code := (Try.f18.body).getD .skip
noncomputable def g_slices_Concat_byte : Cfg := { sh := shs, fsh := fshs, results := [.tmp 2], hint := fun _ _ => none, ord := fun _ => none, pre := fun _ => [], un := fun _ _ _ => false }
noncomputable def k_slices_Concat_byte_1 : List Item := [.code (bd (bd (sr (sl (sr (sr c_slices_Concat_byte)))))), .inLoop (bd (bd (sr (sl (sr (sr c_slices_Concat_byte)))))), .inBlock 0, .code (sr (sr (sr c_slices_Concat_byte)))]
noncomputable def t_slices_Concat_byte_1 (Aa0 : Option Addr) (na0 : Nat) (ca0 : Nat) (x3 : Int) (x11 : Int) (u : Nat → Value) : List Value := [.slice Aa0 na0 ca0, undef, (u 2), .int .i64 x3, undef, (u 5), (u 6), undef, (u 8), .slice Aa0 na0 ca0, .int .i64 ((na0 : Nat) : Int), .int .i64 x11, (u 12), (u 13), (u 14), (u 15), (u 16), (u 17), (u 18), (u 19), (u 20), (u 21), (u 22), (u 23), (u 24), (u 25), (u 26), (u 27), (u 28), (u 29), (u 30), (u 31), (u 32), (u 33), (u 34), (u 35)]
noncomputable def k_slices_Concat_byte_2 : List Item := [.code (bd (bd (sr (sl (sr (sr (sr (sr c_slices_Concat_byte)))))))), .inLoop (bd (bd (sr (sl (sr (sr (sr (sr c_slices_Concat_byte)))))))), .inBlock 2, .code (sr (sr (sr (sr (sr c_slices_Concat_byte)))))]
noncomputable def t_slices_Concat_byte_2 (Aa0 : Option Addr) (na0 : Nat) (ca0 : Nat) (A6 : Option Addr) (n6 : Nat) (c6 : Nat) (x27 : Int) (u : Nat → Value) : List Value := [(u 0), undef, (u 2), (u 3), undef, (u 5), .slice A6 n6 c6, undef, (u 8), (u 9), (u 10), (u 11), (u 12), (u 13), (u 14), (u 15), (u 16), (u 17), (u 18), (u 19), (u 20), (u 21), (u 22), (u 23), (u 24), .slice Aa0 na0 ca0, .int .i64 ((na0 : Nat) : Int), .int .i64 x27, (u 28), (u 29), (u 30), (u 31), (u 32), (u 33), (u 34), (u 35)]
set_option maxRecDepth 100000 in
theorem r_slices_Concat_byte (Aa0 : Option Addr) (na0 : Nat) (ca0 : Nat) {I : Ctx} {h : Mem} {Q : Value → Mem → Prop}
  (hh : holds Try.prog 18 I (cl_ Q)
   (.stop k_slices_Concat_byte_1 (t_slices_Concat_byte_1 Aa0 na0 ca0 0 0 (jl [(2, .slice none 0 0), (5, undef), (6, undef), (8, undef), (12, undef), (13, undef), (14, undef), (15, undef), (16, undef), (17, undef), (18, undef), (19, undef), (20, undef), (21, undef), (22, undef), (23, undef), (24, undef), (25, undef), (26, undef), (27, undef), (28, undef), (29, undef), (30, undef), (31, undef), (32, undef), (33, undef), (34, undef), (35, undef)]))) h) : Fn Try.prog 18 #[.slice Aa0 na0 ca0] I h Q :=
  Wp.fn (args := [.slice Aa0 na0 ca0]) Try.func18 rfl (by kernel_rfl) (of_tree (cfg := g_slices_Concat_byte) 1000 (by kernel_rfl) Try.func18 rfl Try.checked.mixed hh)
theorem ca_slices_Concat_byte : callable Try.prog 18 := ⟨_, Try.func18, by kernel_rfl, by kernel_rfl⟩
set_option maxRecDepth 100000 in
theorem r_slices_Concat_byte_1 (Aa0 : Option Addr) (na0 : Nat) (ca0 : Nat) (x3 : Int) (x11 : Int) (u : Nat → Value) {I : Ctx} {h : Mem} {Q : Value → Mem → Prop}
  (hh : holds Try.prog 18 I Q
   (.ite (decide ((x11 : Int) < ((na0 : Nat) : Int)))
    (.rd (Instr.indexAt 61 (.slice Aa0 na0 ca0) (.int .i64 x11)) (.one (.sc (.padr))) fun l1 =>
     (.rd (Instr.loadAt 27 (.pointer (some ((l1 0).a)))) (.one (.sc (.sl))) fun l2 =>
      (.ite (decide ((IntKind.wrap .i64 (x3 + (((l2 0).n : Nat) : Int)) : Int) < 0))
       (.stuck)
       (.stop k_slices_Concat_byte_1 (t_slices_Concat_byte_1 Aa0 na0 ca0 (IntKind.wrap .i64 (x3 + (((l2 0).n : Nat) : Int))) (IntKind.wrap .i64 (x11 + 1)) (jl [(2, (u 2)), (5, .slice ((l2 0).A) ((l2 0).n) ((l2 0).c)), (6, (u 6)), (8, (u 8)), (12, .bool (decide ((x11 : Int) < ((na0 : Nat) : Int)))), (13, .pointer (some ((l1 0).a))), (14, .slice ((l2 0).A) ((l2 0).n) ((l2 0).c)), (15, .int .i64 x3), (16, .slice ((l2 0).A) ((l2 0).n) ((l2 0).c)), (17, .int .i64 (((l2 0).n : Nat) : Int)), (18, .int .i64 (IntKind.wrap .i64 (x3 + (((l2 0).n : Nat) : Int)))), (19, .int .i64 (IntKind.wrap .i64 (x3 + (((l2 0).n : Nat) : Int)))), (20, .bool (decide ((IntKind.wrap .i64 (x3 + (((l2 0).n : Nat) : Int)) : Int) < 0))), (21, (u 21)), (22, .int .i64 (IntKind.wrap .i64 (x11 + 1))), (23, (u 23)), (24, (u 24)), (25, (u 25)), (26, (u 26)), (27, (u 27)), (28, (u 28)), (29, (u 29)), (30, (u 30)), (31, (u 31)), (32, (u 32)), (33, (u 33)), (34, (u 34)), (35, (u 35))]))))))
    (.call 33 [.slice none 0 0, .int .i64 x3] (.one (.sc (.sl))) fun l3 => -- slices_Grow_byte
     (.stop k_slices_Concat_byte_2 (t_slices_Concat_byte_2 Aa0 na0 ca0 ((l3 0).A) ((l3 0).n) ((l3 0).c) 0 (jl [(0, .slice Aa0 na0 ca0), (2, (u 2)), (3, .int .i64 x3), (5, (u 5)), (8, (u 8)), (9, .slice Aa0 na0 ca0), (10, .int .i64 ((na0 : Nat) : Int)), (11, .int .i64 x11), (12, .bool (decide ((x11 : Int) < ((na0 : Nat) : Int)))), (13, (u 13)), (14, (u 14)), (15, (u 15)), (16, (u 16)), (17, (u 17)), (18, (u 18)), (19, (u 19)), (20, (u 20)), (21, (u 21)), (22, (u 22)), (23, .int .i64 x3), (24, .slice ((l3 0).A) ((l3 0).n) ((l3 0).c)), (28, (u 28)), (29, (u 29)), (30, (u 30)), (31, (u 31)), (32, (u 32)), (33, (u 33)), (34, (u 34)), (35, (u 35))]))))) h) : Wp Try.prog 18 k_slices_Concat_byte_1 (t_slices_Concat_byte_1 Aa0 na0 ca0 x3 x11 u) I h Q :=
  of_tree (cfg := g_slices_Concat_byte) 1000 (by kernel_rfl) Try.func18 rfl Try.checked.mixed hh
set_option maxRecDepth 100000 in
theorem r_slices_Concat_byte_2 (Aa0 : Option Addr) (na0 : Nat) (ca0 : Nat) (A6 : Option Addr) (n6 : Nat) (c6 : Nat) (x27 : Int) (u : Nat → Value) {I : Ctx} {h : Mem} {Q : Value → Mem → Prop}
  (hh : holds Try.prog 18 I Q
   (.ite (decide ((x27 : Int) < ((na0 : Nat) : Int)))
    (.rd (Instr.indexAt 61 (.slice Aa0 na0 ca0) (.int .i64 x27)) (.one (.sc (.padr))) fun l4 =>
     (.rd (Instr.loadAt 27 (.pointer (some ((l4 0).a)))) (.one (.sc (.sl))) fun l5 =>
      (.nx (builtin .append #[27, 27] 27 #[false, false] #[.slice A6 n6 c6, .slice ((l5 0).A) ((l5 0).n) ((l5 0).c)]) (.one (.sc (.sl))) fun l6 =>
       (.stop k_slices_Concat_byte_2 (t_slices_Concat_byte_2 Aa0 na0 ca0 ((l6 0).A) ((l6 0).n) ((l6 0).c) (IntKind.wrap .i64 (x27 + 1)) (jl [(0, (u 0)), (2, (u 2)), (3, (u 3)), (5, (u 5)), (8, .slice ((l5 0).A) ((l5 0).n) ((l5 0).c)), (9, (u 9)), (10, (u 10)), (11, (u 11)), (12, (u 12)), (13, (u 13)), (14, (u 14)), (15, (u 15)), (16, (u 16)), (17, (u 17)), (18, (u 18)), (19, (u 19)), (20, (u 20)), (21, (u 21)), (22, (u 22)), (23, (u 23)), (24, (u 24)), (28, .bool (decide ((x27 : Int) < ((na0 : Nat) : Int)))), (29, .pointer (some ((l4 0).a))), (30, .slice ((l5 0).A) ((l5 0).n) ((l5 0).c)), (31, .slice A6 n6 c6), (32, .slice ((l5 0).A) ((l5 0).n) ((l5 0).c)), (33, .slice ((l6 0).A) ((l6 0).n) ((l6 0).c)), (34, .int .i64 (IntKind.wrap .i64 (x27 + 1))), (35, (u 35))]))))))
    (.done (.slice A6 n6 c6))) h) : Wp Try.prog 18 k_slices_Concat_byte_2 (t_slices_Concat_byte_2 Aa0 na0 ca0 A6 n6 c6 x27 u) I h Q :=
  of_tree (cfg := g_slices_Concat_byte) 1000 (by kernel_rfl) Try.func18 rfl Try.checked.mixed hh
/-! ### num_Put32: function 19 of Go -/
abbrev F_num_Put32 : FuncId := 19
noncomputable def c_num_Put32 : Code := (Try.f19.body).getD .skip
noncomputable def g_num_Put32 : Cfg := { sh := shs, fsh := fshs, results := [.tmp 2], hint := fun _ _ => none, ord := fun _ => none, pre := fun _ => [], un := fun _ _ _ => false }
set_option maxRecDepth 100000 in
theorem r_num_Put32 (a0 : Int) {I : Ctx} {h : Mem} {Q : Value → Mem → Prop}
  (hh : holds Try.prog 19 I (cl_ Q)
   (.call 34 [.int .u32 a0, .int .i64 4] (.one (.sc (.sl))) fun l1 => -- num_put
    (.done (.slice ((l1 0).A) ((l1 0).n) ((l1 0).c)))) h) : Fn Try.prog 19 #[.int .u32 a0] I h Q :=
  Wp.fn (args := [.int .u32 a0]) Try.func19 rfl (by kernel_rfl) (of_tree (cfg := g_num_Put32) 1000 (by kernel_rfl) Try.func19 rfl Try.checked.mixed hh)
theorem ca_num_Put32 : callable Try.prog 19 := ⟨_, Try.func19, by kernel_rfl, by kernel_rfl⟩
/-! ### dualpkt_put: function 20 of Go -/
abbrev F_dualpkt_put : FuncId := 20
noncomputable def c_dualpkt_put : Code := (Try.f20.body).getD .skip
def p_dualpkt_put : Nat → List (List Nat) := fun r => match r with | 1 => [[], [0], [0, 1], [0, 1, 2], [], [4], [4, 5], [4, 5, 6], [], [8], [8, 9], [8, 9, 10], [4, 5, 6, 7, 8, 9, 10, 11], [], [13], [0, 1, 2, 3, 13, 14], [], [16], [16, 17], [16, 17, 18], [0, 1, 2, 3, 13, 14, 15, 16, 17, 18, 19], [], [21], [21, 22], [21, 22, 23], [0, 1, 2, 3, 13, 14, 15, 16, 17, 18, 19, 20, 21, 22, 23, 24], [], [0, 1, 2, 3, 4, 5, 6, 7, 8, 9, 10, 11, 12, 13, 14, 15, 16, 17, 18, 19, 20, 21, 22, 23, 24, 25, 26], [0, 1, 2, 3, 4, 5, 6, 7, 8, 9, 10, 11, 12, 13, 14, 15, 16, 17, 18, 19, 20, 21, 22, 23, 24, 25, 26, 27], [0, 1, 2, 3, 4, 5, 6, 7, 8, 9, 10, 11, 12, 13, 14, 15, 16, 17, 18, 19, 20, 21, 22, 23, 24, 25, 26, 27, 28]] | _ => []
noncomputable def g_dualpkt_put : Cfg := { sh := shs, fsh := fshs, results := [.tmp 2], hint := fun _ _ => none, ord := fun r => match r with | 1 => some [0, 1, 2, 4, 5, 6, 7, 8, 9, 10, 11, 13, 14, 16, 17, 18, 19, 21, 22, 23, 24, 3, 15, 20, 25, 12, 26, 27, 28, 29] | _ => none, pre := p_dualpkt_put, un := unOf p_dualpkt_put }
set_option maxRecDepth 100000 in
theorem r_dualpkt_put (a0_0 : Int) (a0_1 : Int) (a0_2 : Int) (a0_3 : Int) (a0_4 : Int) (a0_5 : Int) {I : Ctx} {h : Mem} {Q : Value → Mem → Prop}
  (hh : holds Try.prog 20 I (cl_ Q)
   (.sem (Instr.box 43 (.agg #[.int .u32 a0_0, .int .i64 a0_1, .int .i64 a0_2, .int .i64 a0_3, .int .i64 a0_4, .int .u16 a0_5])) shBlk fun l1 =>
    (.rd (Instr.loadAt 22 (.pointer (some ⟨(l1 0).n, 0, none⟩))) (.one (.sc (.int .u32))) fun l2 =>
     (.rd (Instr.loadAt 3 (.pointer (some ⟨(l1 0).n, 1, none⟩))) (.one (.sc (.int .i64))) fun l3 =>
      (.rd (Instr.loadAt 3 (.pointer (some ⟨(l1 0).n, 4, none⟩))) (.one (.sc (.int .i64))) fun l4 =>
       (.rd (Instr.loadAt 41 (.pointer (some ⟨(l1 0).n, 5, none⟩))) (.one (.sc (.int .u16))) fun l5 =>
        (.rd (Instr.loadAt 3 (.pointer (some ⟨(l1 0).n, 2, none⟩))) (.one (.sc (.int .i64))) fun l6 =>
         (.rd (Instr.loadAt 3 (.pointer (some ⟨(l1 0).n, 3, none⟩))) (.one (.sc (.int .i64))) fun l7 =>
          (.call 19 [.int .u32 ((l2 0).i)] (.one (.sc (.sl))) fun l8 => -- num_Put32
           (.pin (vN (Instr.loadAt 3 (.pointer (some ⟨(l1 0).n, 3, none⟩)))) (.int .i64 ((l7 0).i))
            (.pin (vN (Instr.loadAt 3 (.pointer (some ⟨(l1 0).n, 2, none⟩)))) (.int .i64 ((l6 0).i))
             (.pin (vN (Instr.loadAt 41 (.pointer (some ⟨(l1 0).n, 5, none⟩)))) (.int .u16 ((l5 0).i))
              (.pin (vN (Instr.loadAt 3 (.pointer (some ⟨(l1 0).n, 4, none⟩)))) (.int .i64 ((l4 0).i))
               (.pin (vN (Instr.loadAt 3 (.pointer (some ⟨(l1 0).n, 1, none⟩)))) (.int .i64 ((l3 0).i))
                (.call 35 [.int .u16 ((l5 0).i)] (.one (.sc (.sl))) fun l9 => -- num_Put16
                 (.pin (vN (Instr.loadAt 3 (.pointer (some ⟨(l1 0).n, 3, none⟩)))) (.int .i64 ((l7 0).i))
                  (.pin (vN (Instr.loadAt 3 (.pointer (some ⟨(l1 0).n, 2, none⟩)))) (.int .i64 ((l6 0).i))
                   (.pin (vN (Instr.loadAt 3 (.pointer (some ⟨(l1 0).n, 4, none⟩)))) (.int .i64 ((l4 0).i))
                    (.pin (vN (Instr.loadAt 3 (.pointer (some ⟨(l1 0).n, 1, none⟩)))) (.int .i64 ((l3 0).i))
                     (.call 19 [.int .u32 (IntKind.wrap .u32 ((l6 0).i))] (.one (.sc (.sl))) fun l10 => -- num_Put32
                      (.pin (vN (Instr.loadAt 3 (.pointer (some ⟨(l1 0).n, 3, none⟩)))) (.int .i64 ((l7 0).i))
                       (.pin (vN (Instr.loadAt 3 (.pointer (some ⟨(l1 0).n, 4, none⟩)))) (.int .i64 ((l4 0).i))
                        (.pin (vN (Instr.loadAt 3 (.pointer (some ⟨(l1 0).n, 1, none⟩)))) (.int .i64 ((l3 0).i))
                         (.call 19 [.int .u32 (IntKind.wrap .u32 ((l7 0).i))] (.one (.sc (.sl))) fun l11 => -- num_Put32
                          (.pin (vN (Instr.loadAt 3 (.pointer (some ⟨(l1 0).n, 4, none⟩)))) (.int .i64 ((l4 0).i))
                           (.pin (vN (Instr.loadAt 3 (.pointer (some ⟨(l1 0).n, 1, none⟩)))) (.int .i64 ((l3 0).i))
                            (.sem (Instr.buildSlice 27 2 #[(0, .int .u8 (IntKind.wrap .u8 ((l3 0).i))), (1, .int .u8 (IntKind.wrap .u8 ((l4 0).i)))]) (.one (.sc (.row 2))) fun l12 =>
                             (.sem (Instr.makeSlice 27 (.int .i64 4) (.int .i64 4)) (.one (.sc (.sl))) fun l13 =>
                              (.sem (Instr.buildSlice 61 6 #[(0, .slice ((l8 0).A) ((l8 0).n) ((l8 0).c)), (1, .slice (some ⟨(l12 0).n, 0, none⟩) 2 2), (2, .slice ((l9 0).A) ((l9 0).n) ((l9 0).c)), (3, .slice ((l10 0).A) ((l10 0).n) ((l10 0).c)), (4, .slice ((l11 0).A) ((l11 0).n) ((l11 0).c)), (5, .slice ((l13 0).A) ((l13 0).n) ((l13 0).c))]) (.one (.sc (.row 6))) fun l14 =>
                               (.call 18 [.slice (some ⟨(l14 0).n, 0, none⟩) 6 6] (.one (.sc (.sl))) fun l15 => -- slices_Concat_byte
                                (.done (.slice ((l15 0).A) ((l15 0).n) ((l15 0).c)))))))))))))))))))))))))))))))) h) : Fn Try.prog 20 #[.agg #[.int .u32 a0_0, .int .i64 a0_1, .int .i64 a0_2, .int .i64 a0_3, .int .i64 a0_4, .int .u16 a0_5]] I h Q :=
  Wp.fn (args := [.agg #[.int .u32 a0_0, .int .i64 a0_1, .int .i64 a0_2, .int .i64 a0_3, .int .i64 a0_4, .int .u16 a0_5]]) Try.func20 rfl (by kernel_rfl) (of_tree (cfg := g_dualpkt_put) 1000 (by kernel_rfl) Try.func20 rfl Try.checked.mixed hh)
theorem ca_dualpkt_put : callable Try.prog 20 := ⟨_, Try.func20, by kernel_rfl, by kernel_rfl⟩
/-! ### dualpkt_sum: function 21 of Go -/
abbrev F_dualpkt_sum : FuncId := 21
noncomputable def c_dualpkt_sum : Code := (Try.f21.body).getD .skip
noncomputable def g_dualpkt_sum : Cfg := { sh := shs, fsh := fshs, results := [.tmp 2], hint := fun _ _ => none, ord := fun _ => none, pre := fun _ => [], un := fun _ _ _ => false }
set_option maxRecDepth 100000 in
theorem r_dualpkt_sum (Aa0 : Option Addr) (na0 : Nat) (ca0 : Nat) {I : Ctx} {h : Mem} {Q : Value → Mem → Prop}
  (hh : holds Try.prog 21 I (cl_ Q)
   (.call 36 [.slice Aa0 na0 ca0] (.one (.sc (.sl))) fun l1 => -- slices_Clone_byte
    (.rd (Instr.indexAt 27 (.slice ((l1 0).A) ((l1 0).n) ((l1 0).c)) (.int .i64 2)) (.one (.sc (.padr))) fun l2 =>
     (.unit (Instr.storeAt 5 (.pointer (some ((l2 0).a))) (.int .u8 0))
      (.rd (Instr.indexAt 27 (.slice ((l1 0).A) ((l1 0).n) ((l1 0).c)) (.int .i64 3)) (.one (.sc (.padr))) fun l3 =>
       (.unit (Instr.storeAt 5 (.pointer (some ((l3 0).a))) (.int .u8 0))
        (.call 37 [.slice ((l1 0).A) ((l1 0).n) ((l1 0).c)] (.one (.sc (.int .u16))) fun l4 => -- num_Sum
         (.call 35 [.int .u16 ((l4 0).i)] (.one (.sc (.sl))) fun l5 => -- num_Put16
          (.done (.slice ((l5 0).A) ((l5 0).n) ((l5 0).c)))))))))) h) : Fn Try.prog 21 #[.slice Aa0 na0 ca0] I h Q :=
  Wp.fn (args := [.slice Aa0 na0 ca0]) Try.func21 rfl (by kernel_rfl) (of_tree (cfg := g_dualpkt_sum) 1000 (by kernel_rfl) Try.func21 rfl Try.checked.mixed hh)
theorem ca_dualpkt_sum : callable Try.prog 21 := ⟨_, Try.func21, by kernel_rfl, by kernel_rfl⟩
/-! ### octroiref07_entry: function 22 of Go -/
abbrev F_octroiref07_entry : FuncId := 22
noncomputable def c_octroiref07_entry : Code := (Try.f22.body).getD .skip
noncomputable def g_octroiref07_entry : Cfg := { sh := shs, fsh := fshs, results := [.tmp 2], hint := fun r i => match r, i with | 3, 3 => some (true, .one (.sc (.bool))) | _, _ => none, ord := fun _ => none, pre := fun _ => [], un := fun _ _ _ => false }
set_option maxRecDepth 100000 in
theorem r_octroiref07_entry (a0_0 : Int) (a0_1 : Int) (a0_2 : Int) (a0_3 : Int) (a0_4 : Int) (a0_5 : Int) {I : Ctx} {h : Mem} {Q : Value → Mem → Prop}
  (hh : holds Try.prog 22 I (cl_ Q)
   (.sem (Instr.box 43 (.agg #[.int .u32 a0_0, .int .i64 a0_1, .int .i64 a0_2, .int .i64 a0_3, .int .i64 a0_4, .int .u16 a0_5])) shBlk fun l1 =>
    (.rd (Instr.loadAt 38 (.pointer (some ⟨(l1 0).n, 0, none⟩))) (.one (.agg [.int .u32, .int .i64])) fun l2 =>
     (.call 38 [.agg #[.int .u32 ((l2 0).i), .int .i64 ((l2 1).i)]] (.one (.sc (.bool))) fun l3 => -- octroiref02_May
      (.rd (Instr.loadAt 40 (.pointer (some ⟨(l1 0).n, 2, none⟩))) (.one (.agg [.int .i64, .int .i64, .int .i64])) fun l4 =>
       (.call 39 [.agg #[.int .i64 ((l4 0).i), .int .i64 ((l4 1).i), .int .i64 ((l4 2).i)]] (.one (.sc (.bool))) fun l5 => -- octroiref04_May
        (.rd (Instr.loadAt 40 (.pointer (some ⟨(l1 0).n, 2, none⟩))) (.one (.agg [.int .i64, .int .i64, .int .i64])) fun l6 =>
         (.rdn (eqN .eql 40 (.tmp 0) (.tmp 0) (.agg #[.int .i64 ((l6 0).i), .int .i64 ((l6 1).i), .int .i64 ((l6 2).i)]) (.agg #[.int .i64 0, .int .i64 0, .int .i64 0])) (.one (.sc (.bool))) fun l7 =>
          (.ite ((l3 0).b)
           (.ite ((l5 0).b)
            (.done (.bool true))
            (.done (.bool ((l7 0).b))))
           (.done (.bool false)))))))))) h) : Fn Try.prog 22 #[.agg #[.int .u32 a0_0, .int .i64 a0_1, .int .i64 a0_2, .int .i64 a0_3, .int .i64 a0_4, .int .u16 a0_5]] I h Q :=
  Wp.fn (args := [.agg #[.int .u32 a0_0, .int .i64 a0_1, .int .i64 a0_2, .int .i64 a0_3, .int .i64 a0_4, .int .u16 a0_5]]) Try.func22 rfl (by kernel_rfl) (of_tree (cfg := g_octroiref07_entry) 1000 (by kernel_rfl) Try.func22 rfl Try.checked.mixed hh)
theorem ca_octroiref07_entry : callable Try.prog 22 := ⟨_, Try.func22, by kernel_rfl, by kernel_rfl⟩
/-! ### octroiref07_bytes: function 23 of Go -/
abbrev F_octroiref07_bytes : FuncId := 23
noncomputable def c_octroiref07_bytes : Code := (Try.f23.body).getD .skip
noncomputable def g_octroiref07_bytes : Cfg := { sh := shs, fsh := fshs, results := [.tmp 4], hint := fun _ _ => none, ord := fun _ => none, pre := fun _ => [], un := fun _ _ _ => false }
noncomputable def k_octroiref07_bytes_1 : List Item := [.code (bd (bd (sr (sl (sr (sr (sr (sr (sr (sr (sr (sr c_octroiref07_bytes)))))))))))), .inLoop (bd (bd (sr (sl (sr (sr (sr (sr (sr (sr (sr (sr c_octroiref07_bytes)))))))))))), .inBlock 0, .code (sr (sr (sr (sr (sr (sr (sr (sr (sr c_octroiref07_bytes)))))))))]
noncomputable def t_octroiref07_bytes_1 (y2 : Nat) (A6 : Option Addr) (n6 : Nat) (c6 : Nat) (x7 : Int) (u : Nat → Value) : List Value := [(u 0), (u 1), .pointer (some ⟨y2, 0, none⟩), undef, (u 4), (u 5), .slice A6 n6 c6, .int .i64 x7, (u 8), (u 9), (u 10), (u 11), (u 12), (u 13), (u 14), (u 15), (u 16), (u 17), (u 18), (u 19), (u 20), (u 21), (u 22), (u 23), (u 24), (u 25), (u 26), (u 27), (u 28), (u 29), (u 30), (u 31), (u 32), (u 33), (u 34), (u 35), (u 36), (u 37), (u 38), (u 39), (u 40), (u 41), (u 42), (u 43), (u 44), (u 45), (u 46), (u 47), (u 48), (u 49), (u 50), (u 51), (u 52), (u 53), (u 54), (u 55), (u 56), (u 57), (u 58), (u 59), (u 60), (u 61), (u 62), (u 63), (u 64), (u 65), (u 66), (u 67), (u 68), (u 69), (u 70), (u 71), (u 72), (u 73), (u 74), (u 75), (u 76), (u 77), (u 78), (u 79), (u 80), (u 81), (u 82), (u 83), (u 84), (u 85), (u 86)]
set_option maxRecDepth 100000 in
theorem r_octroiref07_bytes (a0_0 : Int) (a0_1 : Bool) (a0_2 : Int) (a0_3 : Int) (Aa0_4 : Option Addr) (na0_4 : Nat) (ca0_4 : Nat) (a1 : Int) {I : Ctx} {h : Mem} {Q : Value → Mem → Prop}
  (hh : holds Try.prog 23 I (cl_ Q)
   (.sem (Instr.box 25 (.agg #[.int .i64 a0_0, .bool a0_1, .int .u32 a0_2, .int .u32 a0_3, .slice Aa0_4 na0_4 ca0_4])) shBlk fun l1 =>
    (.rd (Instr.loadAt 4 (.pointer (some ⟨(l1 0).n, 1, none⟩))) (.one (.sc (.bool))) fun l2 =>
     (.ite ((l2 0).b)
      (.rd (Instr.loadAt 3 (.pointer (some ⟨(l1 0).n, 0, none⟩))) (.one (.sc (.int .i64))) fun l3 =>
       (.sem (Instr.buildSlice 27 2 #[(0, .int .u8 2), (1, .int .u8 (IntKind.wrap .u8 ((l3 0).i)))]) (.one (.sc (.row 2))) fun l4 =>
        (.call 40 [.int .u32 (IntKind.wrap .u32 a1), .int .i64 2] (.one (.sc (.sl))) fun l5 => -- octroiref01_Put
         (.nx (builtin .append #[27, 27] 27 #[false, false] #[.slice (some ⟨(l4 0).n, 0, none⟩) 2 2, .slice ((l5 0).A) ((l5 0).n) ((l5 0).c)]) (.one (.sc (.sl))) fun l6 =>
          (.sem (Instr.buildSlice 27 4 #[(0, .int .u8 1), (1, .int .u8 0), (2, .int .u8 0), (3, .int .u8 0)]) (.one (.sc (.row 4))) fun l7 =>
           (.nx (builtin .append #[27, 27] 27 #[false, false] #[.slice ((l6 0).A) ((l6 0).n) ((l6 0).c), .slice (some ⟨(l7 0).n, 0, none⟩) 4 4]) (.one (.sc (.sl))) fun l8 =>
            (.rd (Instr.loadAt 22 (.pointer (some ⟨(l1 0).n, 2, none⟩))) (.one (.sc (.int .u32))) fun l9 =>
             (.call 40 [.int .u32 ((l9 0).i), .int .i64 4] (.one (.sc (.sl))) fun l10 => -- octroiref01_Put
              (.nx (builtin .append #[27, 27] 27 #[false, false] #[.slice ((l8 0).A) ((l8 0).n) ((l8 0).c), .slice ((l10 0).A) ((l10 0).n) ((l10 0).c)]) (.one (.sc (.sl))) fun l11 =>
               (.rd (Instr.loadAt 22 (.pointer (some ⟨(l1 0).n, 3, none⟩))) (.one (.sc (.int .u32))) fun l12 =>
                (.call 40 [.int .u32 ((l12 0).i), .int .i64 4] (.one (.sc (.sl))) fun l13 => -- octroiref01_Put
                 (.nx (builtin .append #[27, 27] 27 #[false, false] #[.slice ((l11 0).A) ((l11 0).n) ((l11 0).c), .slice ((l13 0).A) ((l13 0).n) ((l13 0).c)]) (.one (.sc (.sl))) fun l14 =>
                  (.stop k_octroiref07_bytes_1 (t_octroiref07_bytes_1 ((l1 0).n) ((l14 0).A) ((l14 0).n) ((l14 0).c) 0 (jl [(0, .agg #[.int .i64 a0_0, .bool a0_1, .int .u32 a0_2, .int .u32 a0_3, .slice Aa0_4 na0_4 ca0_4]), (1, .int .u16 a1), (4, .slice none 0 0), (5, .int .u8 1), (8, undef), (9, .pointer (some ⟨(l1 0).n, 1, none⟩)), (10, .bool ((l2 0).b)), (11, .pointer (some ⟨(l1 0).n, 0, none⟩)), (12, .int .i64 ((l3 0).i)), (13, .int .u8 (IntKind.wrap .u8 ((l3 0).i))), (14, .slice (some ⟨(l4 0).n, 0, none⟩) 2 2), (15, .slice (some ⟨(l4 0).n, 0, none⟩) 2 2), (16, .int .u16 a1), (17, .int .u32 (IntKind.wrap .u32 a1)), (18, .slice ((l5 0).A) ((l5 0).n) ((l5 0).c)), (19, .slice ((l6 0).A) ((l6 0).n) ((l6 0).c)), (20, .slice ((l6 0).A) ((l6 0).n) ((l6 0).c)), (21, .int .u8 1), (22, .slice (some ⟨(l7 0).n, 0, none⟩) 4 4), (23, .slice ((l8 0).A) ((l8 0).n) ((l8 0).c)), (24, .slice ((l8 0).A) ((l8 0).n) ((l8 0).c)), (25, .pointer (some ⟨(l1 0).n, 2, none⟩)), (26, .int .u32 ((l9 0).i)), (27, .slice ((l10 0).A) ((l10 0).n) ((l10 0).c)), (28, .slice ((l11 0).A) ((l11 0).n) ((l11 0).c)), (29, .slice ((l11 0).A) ((l11 0).n) ((l11 0).c)), (30, .pointer (some ⟨(l1 0).n, 3, none⟩)), (31, .int .u32 ((l12 0).i)), (32, .slice ((l13 0).A) ((l13 0).n) ((l13 0).c)), (33, .slice ((l14 0).A) ((l14 0).n) ((l14 0).c)), (34, undef), (35, undef), (36, undef), (37, undef), (38, undef), (39, undef), (40, undef), (41, undef), (42, undef), (43, undef), (44, undef), (45, undef), (46, undef), (47, undef), (48, undef), (49, undef), (50, undef), (51, undef), (52, undef), (53, undef), (54, undef), (55, undef), (56, undef), (57, undef), (58, undef), (59, undef), (60, undef), (61, undef), (62, undef), (63, undef), (64, undef), (65, undef), (66, undef), (67, undef), (68, undef), (69, undef), (70, undef), (71, undef), (72, undef), (73, undef), (74, undef), (75, undef), (76, undef), (77, undef), (78, undef), (79, undef), (80, undef), (81, undef), (82, undef), (83, undef), (84, undef), (85, undef), (86, undef)])))))))))))))))
      (.rd (Instr.loadAt 3 (.pointer (some ⟨(l1 0).n, 0, none⟩))) (.one (.sc (.int .i64))) fun l15 =>
       (.sem (Instr.buildSlice 27 2 #[(0, .int .u8 2), (1, .int .u8 (IntKind.wrap .u8 ((l15 0).i)))]) (.one (.sc (.row 2))) fun l16 =>
        (.call 40 [.int .u32 (IntKind.wrap .u32 a1), .int .i64 2] (.one (.sc (.sl))) fun l17 => -- octroiref01_Put
         (.nx (builtin .append #[27, 27] 27 #[false, false] #[.slice (some ⟨(l16 0).n, 0, none⟩) 2 2, .slice ((l17 0).A) ((l17 0).n) ((l17 0).c)]) (.one (.sc (.sl))) fun l18 =>
          (.sem (Instr.buildSlice 27 4 #[(0, .int .u8 0), (1, .int .u8 0), (2, .int .u8 0), (3, .int .u8 0)]) (.one (.sc (.row 4))) fun l19 =>
           (.nx (builtin .append #[27, 27] 27 #[false, false] #[.slice ((l18 0).A) ((l18 0).n) ((l18 0).c), .slice (some ⟨(l19 0).n, 0, none⟩) 4 4]) (.one (.sc (.sl))) fun l20 =>
            (.rd (Instr.loadAt 22 (.pointer (some ⟨(l1 0).n, 2, none⟩))) (.one (.sc (.int .u32))) fun l21 =>
             (.call 40 [.int .u32 ((l21 0).i), .int .i64 4] (.one (.sc (.sl))) fun l22 => -- octroiref01_Put
              (.nx (builtin .append #[27, 27] 27 #[false, false] #[.slice ((l20 0).A) ((l20 0).n) ((l20 0).c), .slice ((l22 0).A) ((l22 0).n) ((l22 0).c)]) (.one (.sc (.sl))) fun l23 =>
               (.rd (Instr.loadAt 22 (.pointer (some ⟨(l1 0).n, 3, none⟩))) (.one (.sc (.int .u32))) fun l24 =>
                (.call 40 [.int .u32 ((l24 0).i), .int .i64 4] (.one (.sc (.sl))) fun l25 => -- octroiref01_Put
                 (.nx (builtin .append #[27, 27] 27 #[false, false] #[.slice ((l23 0).A) ((l23 0).n) ((l23 0).c), .slice ((l25 0).A) ((l25 0).n) ((l25 0).c)]) (.one (.sc (.sl))) fun l26 =>
                  (.stop k_octroiref07_bytes_1 (t_octroiref07_bytes_1 ((l1 0).n) ((l26 0).A) ((l26 0).n) ((l26 0).c) 0 (jl [(0, .agg #[.int .i64 a0_0, .bool a0_1, .int .u32 a0_2, .int .u32 a0_3, .slice Aa0_4 na0_4 ca0_4]), (1, .int .u16 a1), (4, .slice none 0 0), (5, .int .u8 0), (8, undef), (9, .pointer (some ⟨(l1 0).n, 1, none⟩)), (10, .bool ((l2 0).b)), (11, .pointer (some ⟨(l1 0).n, 0, none⟩)), (12, .int .i64 ((l15 0).i)), (13, .int .u8 (IntKind.wrap .u8 ((l15 0).i))), (14, .slice (some ⟨(l16 0).n, 0, none⟩) 2 2), (15, .slice (some ⟨(l16 0).n, 0, none⟩) 2 2), (16, .int .u16 a1), (17, .int .u32 (IntKind.wrap .u32 a1)), (18, .slice ((l17 0).A) ((l17 0).n) ((l17 0).c)), (19, .slice ((l18 0).A) ((l18 0).n) ((l18 0).c)), (20, .slice ((l18 0).A) ((l18 0).n) ((l18 0).c)), (21, .int .u8 0), (22, .slice (some ⟨(l19 0).n, 0, none⟩) 4 4), (23, .slice ((l20 0).A) ((l20 0).n) ((l20 0).c)), (24, .slice ((l20 0).A) ((l20 0).n) ((l20 0).c)), (25, .pointer (some ⟨(l1 0).n, 2, none⟩)), (26, .int .u32 ((l21 0).i)), (27, .slice ((l22 0).A) ((l22 0).n) ((l22 0).c)), (28, .slice ((l23 0).A) ((l23 0).n) ((l23 0).c)), (29, .slice ((l23 0).A) ((l23 0).n) ((l23 0).c)), (30, .pointer (some ⟨(l1 0).n, 3, none⟩)), (31, .int .u32 ((l24 0).i)), (32, .slice ((l25 0).A) ((l25 0).n) ((l25 0).c)), (33, .slice ((l26 0).A) ((l26 0).n) ((l26 0).c)), (34, undef), (35, undef), (36, undef), (37, undef), (38, undef), (39, undef), (40, undef), (41, undef), (42, undef), (43, undef), (44, undef), (45, undef), (46, undef), (47, undef), (48, undef), (49, undef), (50, undef), (51, undef), (52, undef), (53, undef), (54, undef), (55, undef), (56, undef), (57, undef), (58, undef), (59, undef), (60, undef), (61, undef), (62, undef), (63, undef), (64, undef), (65, undef), (66, undef), (67, undef), (68, undef), (69, undef), (70, undef), (71, undef), (72, undef), (73, undef), (74, undef), (75, undef), (76, undef), (77, undef), (78, undef), (79, undef), (80, undef), (81, undef), (82, undef), (83, undef), (84, undef), (85, undef), (86, undef)])))))))))))))))))) h) : Fn Try.prog 23 #[.agg #[.int .i64 a0_0, .bool a0_1, .int .u32 a0_2, .int .u32 a0_3, .slice Aa0_4 na0_4 ca0_4], .int .u16 a1] I h Q :=
  Wp.fn (args := [.agg #[.int .i64 a0_0, .bool a0_1, .int .u32 a0_2, .int .u32 a0_3, .slice Aa0_4 na0_4 ca0_4], .int .u16 a1]) Try.func23 rfl (by kernel_rfl) (of_tree (cfg := g_octroiref07_bytes) 1000 (by kernel_rfl) Try.func23 rfl Try.checked.mixed hh)
theorem ca_octroiref07_bytes : callable Try.prog 23 := ⟨_, Try.func23, by kernel_rfl, by kernel_rfl⟩
set_option maxRecDepth 100000 in
theorem r_octroiref07_bytes_1 (y2 : Nat) (A6 : Option Addr) (n6 : Nat) (c6 : Nat) (x7 : Int) (u : Nat → Value) {I : Ctx} {h : Mem} {Q : Value → Mem → Prop}
  (hh : holds Try.prog 23 I Q
   (.rd (Instr.loadAt 23 (.pointer (some ⟨y2, 4, none⟩))) (.one (.sc (.sl))) fun l27 =>
    (.ite (decide ((x7 : Int) < (((l27 0).n : Nat) : Int)))
     (.rd (Instr.loadAt 23 (.pointer (some ⟨y2, 4, none⟩))) (.one (.sc (.sl))) fun l28 =>
      (.rd (Instr.indexAt 23 (.slice ((l28 0).A) ((l28 0).n) ((l28 0).c)) (.int .i64 x7)) (.one (.sc (.padr))) fun l29 =>
       (.rd (Instr.loadAt 43 (.pointer (some ((l29 0).a)))) (.one (.agg [.int .u32, .int .i64, .int .i64, .int .i64, .int .i64, .int .u16])) fun l30 =>
        (.sem (Instr.alloc 43 true (.tuple #[])) shBlk fun l31 =>
         (.unit (Instr.storeAt 43 (.pointer (some ⟨(l31 0).n, 0, none⟩)) (.agg #[.int .u32 ((l30 0).i), .int .i64 ((l30 1).i), .int .i64 ((l30 2).i), .int .i64 ((l30 3).i), .int .i64 ((l30 4).i), .int .u16 ((l30 5).i)]))
          (.rd (Instr.loadAt 22 (.pointer (some ⟨(l31 0).n, 0, none⟩))) (.one (.sc (.int .u32))) fun l32 =>
           (.call 40 [.int .u32 ((l32 0).i), .int .i64 4] (.one (.sc (.sl))) fun l33 => -- octroiref01_Put
            (.nx (builtin .append #[27, 27] 27 #[false, false] #[.slice A6 n6 c6, .slice ((l33 0).A) ((l33 0).n) ((l33 0).c)]) (.one (.sc (.sl))) fun l34 =>
             (.rd (Instr.loadAt 3 (.pointer (some ⟨(l31 0).n, 1, none⟩))) (.one (.sc (.int .i64))) fun l35 =>
              (.rd (Instr.loadAt 3 (.pointer (some ⟨(l31 0).n, 4, none⟩))) (.one (.sc (.int .i64))) fun l36 =>
               (.sem (Instr.buildSlice 27 2 #[(0, .int .u8 (IntKind.wrap .u8 ((l35 0).i))), (1, .int .u8 (IntKind.wrap .u8 ((l36 0).i)))]) (.one (.sc (.row 2))) fun l37 =>
                (.nx (builtin .append #[27, 27] 27 #[false, false] #[.slice ((l34 0).A) ((l34 0).n) ((l34 0).c), .slice (some ⟨(l37 0).n, 0, none⟩) 2 2]) (.one (.sc (.sl))) fun l38 =>
                 (.rd (Instr.loadAt 41 (.pointer (some ⟨(l31 0).n, 5, none⟩))) (.one (.sc (.int .u16))) fun l39 =>
                  (.call 40 [.int .u32 (IntKind.wrap .u32 ((l39 0).i)), .int .i64 2] (.one (.sc (.sl))) fun l40 => -- octroiref01_Put
                   (.nx (builtin .append #[27, 27] 27 #[false, false] #[.slice ((l38 0).A) ((l38 0).n) ((l38 0).c), .slice ((l40 0).A) ((l40 0).n) ((l40 0).c)]) (.one (.sc (.sl))) fun l41 =>
                    (.rd (Instr.loadAt 3 (.pointer (some ⟨(l31 0).n, 2, none⟩))) (.one (.sc (.int .i64))) fun l42 =>
                     (.call 40 [.int .u32 (IntKind.wrap .u32 ((l42 0).i)), .int .i64 4] (.one (.sc (.sl))) fun l43 => -- octroiref01_Put
                      (.nx (builtin .append #[27, 27] 27 #[false, false] #[.slice ((l41 0).A) ((l41 0).n) ((l41 0).c), .slice ((l43 0).A) ((l43 0).n) ((l43 0).c)]) (.one (.sc (.sl))) fun l44 =>
                       (.rd (Instr.loadAt 3 (.pointer (some ⟨(l31 0).n, 3, none⟩))) (.one (.sc (.int .i64))) fun l45 =>
                        (.call 40 [.int .u32 (IntKind.wrap .u32 ((l45 0).i)), .int .i64 4] (.one (.sc (.sl))) fun l46 => -- octroiref01_Put
                         (.nx (builtin .append #[27, 27] 27 #[false, false] #[.slice ((l44 0).A) ((l44 0).n) ((l44 0).c), .slice ((l46 0).A) ((l46 0).n) ((l46 0).c)]) (.one (.sc (.sl))) fun l47 =>
                          (.sem (Instr.buildSlice 27 4 #[(0, .int .u8 0), (1, .int .u8 0), (2, .int .u8 0), (3, .int .u8 0)]) (.one (.sc (.row 4))) fun l48 =>
                           (.nx (builtin .append #[27, 27] 27 #[false, false] #[.slice ((l47 0).A) ((l47 0).n) ((l47 0).c), .slice (some ⟨(l48 0).n, 0, none⟩) 4 4]) (.one (.sc (.sl))) fun l49 =>
                            (.stop k_octroiref07_bytes_1 (t_octroiref07_bytes_1 y2 ((l49 0).A) ((l49 0).n) ((l49 0).c) (IntKind.wrap .i64 (x7 + 1)) (jl [(0, (u 0)), (1, (u 1)), (4, (u 4)), (5, (u 5)), (8, .pointer (some ⟨(l31 0).n, 0, none⟩)), (9, (u 9)), (10, (u 10)), (11, (u 11)), (12, (u 12)), (13, (u 13)), (14, (u 14)), (15, (u 15)), (16, (u 16)), (17, (u 17)), (18, (u 18)), (19, (u 19)), (20, (u 20)), (21, (u 21)), (22, (u 22)), (23, (u 23)), (24, (u 24)), (25, (u 25)), (26, (u 26)), (27, (u 27)), (28, (u 28)), (29, (u 29)), (30, (u 30)), (31, (u 31)), (32, (u 32)), (33, (u 33)), (34, .int .i64 x7), (35, .pointer (some ⟨y2, 4, none⟩)), (36, .slice ((l27 0).A) ((l27 0).n) ((l27 0).c)), (37, .int .i64 (((l27 0).n : Nat) : Int)), (38, .bool (decide ((x7 : Int) < (((l27 0).n : Nat) : Int)))), (39, .int .i64 x7), (40, .int .i64 (IntKind.wrap .i64 (x7 + 1))), (41, .pointer (some ⟨y2, 4, none⟩)), (42, .slice ((l28 0).A) ((l28 0).n) ((l28 0).c)), (43, .int .i64 x7), (44, .pointer (some ((l29 0).a))), (45, .agg #[.int .u32 ((l30 0).i), .int .i64 ((l30 1).i), .int .i64 ((l30 2).i), .int .i64 ((l30 3).i), .int .i64 ((l30 4).i), .int .u16 ((l30 5).i)]), (46, .slice A6 n6 c6), (47, .pointer (some ⟨(l31 0).n, 0, none⟩)), (48, .pointer (some ⟨(l31 0).n, 0, none⟩)), (49, .int .u32 ((l32 0).i)), (50, .slice ((l33 0).A) ((l33 0).n) ((l33 0).c)), (51, .slice ((l34 0).A) ((l34 0).n) ((l34 0).c)), (52, .slice ((l34 0).A) ((l34 0).n) ((l34 0).c)), (53, .pointer (some ⟨(l31 0).n, 0, none⟩)), (54, .pointer (some ⟨(l31 0).n, 1, none⟩)), (55, .int .i64 ((l35 0).i)), (56, .int .u8 (IntKind.wrap .u8 ((l35 0).i))), (57, .pointer (some ⟨(l31 0).n, 2, none⟩)), (58, .pointer (some ⟨(l31 0).n, 4, none⟩)), (59, .int .i64 ((l36 0).i)), (60, .int .u8 (IntKind.wrap .u8 ((l36 0).i))), (61, .slice (some ⟨(l37 0).n, 0, none⟩) 2 2), (62, .slice ((l38 0).A) ((l38 0).n) ((l38 0).c)), (63, .slice ((l38 0).A) ((l38 0).n) ((l38 0).c)), (64, .pointer (some ⟨(l31 0).n, 5, none⟩)), (65, .int .u16 ((l39 0).i)), (66, .int .u32 (IntKind.wrap .u32 ((l39 0).i))), (67, .slice ((l40 0).A) ((l40 0).n) ((l40 0).c)), (68, .slice ((l41 0).A) ((l41 0).n) ((l41 0).c)), (69, .slice ((l41 0).A) ((l41 0).n) ((l41 0).c)), (70, .pointer (some ⟨(l31 0).n, 2, none⟩)), (71, .pointer (some ⟨(l31 0).n, 2, none⟩)), (72, .int .i64 ((l42 0).i)), (73, .int .u32 (IntKind.wrap .u32 ((l42 0).i))), (74, .slice ((l43 0).A) ((l43 0).n) ((l43 0).c)), (75, .slice ((l44 0).A) ((l44 0).n) ((l44 0).c)), (76, .slice ((l44 0).A) ((l44 0).n) ((l44 0).c)), (77, .pointer (some ⟨(l31 0).n, 2, none⟩)), (78, .pointer (some ⟨(l31 0).n, 3, none⟩)), (79, .int .i64 ((l45 0).i)), (80, .int .u32 (IntKind.wrap .u32 ((l45 0).i))), (81, .slice ((l46 0).A) ((l46 0).n) ((l46 0).c)), (82, .slice ((l47 0).A) ((l47 0).n) ((l47 0).c)), (83, .slice ((l47 0).A) ((l47 0).n) ((l47 0).c)), (84, .slice (some ⟨(l48 0).n, 0, none⟩) 4 4), (85, .slice ((l49 0).A) ((l49 0).n) ((l49 0).c)), (86, (u 86))]))))))))))))))))))))))))))
     (.done (.slice A6 n6 c6)))) h) : Wp Try.prog 23 k_octroiref07_bytes_1 (t_octroiref07_bytes_1 y2 A6 n6 c6 x7 u) I h Q :=
  of_tree (cfg := g_octroiref07_bytes) 1000 (by kernel_rfl) Try.func23 rfl Try.checked.mixed hh
/-! ### octroiref01_Sum: function 24 of Go -/
abbrev F_octroiref01_Sum : FuncId := 24
noncomputable def c_octroiref01_Sum : Code := (Try.f24.body).getD .skip
noncomputable def g_octroiref01_Sum : Cfg := { sh := shs, fsh := fshs, results := [.tmp 2], hint := fun _ _ => none, ord := fun _ => none, pre := fun _ => [], un := fun _ _ _ => false }
noncomputable def k_octroiref01_Sum_1 : List Item := [.code (bd (bd (sr (sl (sr (sr c_octroiref01_Sum)))))), .inLoop (bd (bd (sr (sl (sr (sr c_octroiref01_Sum)))))), .inBlock 0, .code (sr (sr (sr c_octroiref01_Sum)))]
noncomputable def t_octroiref01_Sum_1 (Aa0 : Option Addr) (na0 : Nat) (ca0 : Nat) (x3 : Int) (x4 : Int) (u : Nat → Value) : List Value := [.slice Aa0 na0 ca0, undef, (u 2), .int .i64 x3, .int .i64 x4, (u 5), (u 6), (u 7), (u 8), (u 9), (u 10), (u 11), (u 12), (u 13), (u 14), (u 15), (u 16), (u 17), (u 18), (u 19), (u 20), (u 21), (u 22), (u 23), (u 24), (u 25), (u 26), (u 27), (u 28), (u 29), (u 30), (u 31), (u 32), (u 33), (u 34), (u 35), (u 36), (u 37), (u 38), (u 39), (u 40), (u 41)]
noncomputable def k_octroiref01_Sum_2 : List Item := [.code (bd (bd (sl (sr (sr (sr c_octroiref01_Sum)))))), .inLoop (bd (bd (sl (sr (sr (sr c_octroiref01_Sum)))))), .inBlock 2, .code (sr (sr (sr (sr c_octroiref01_Sum))))]
noncomputable def t_octroiref01_Sum_2 (x3 : Int) (u : Nat → Value) : List Value := [(u 0), undef, (u 2), .int .i64 x3, (u 4), (u 5), (u 6), (u 7), (u 8), (u 9), (u 10), (u 11), (u 12), (u 13), (u 14), (u 15), (u 16), (u 17), (u 18), (u 19), (u 20), (u 21), (u 22), (u 23), (u 24), (u 25), (u 26), (u 27), (u 28), (u 29), (u 30), (u 31), (u 32), (u 33), (u 34), (u 35), (u 36), (u 37), (u 38), (u 39), (u 40), (u 41)]
set_option maxRecDepth 100000 in
theorem r_octroiref01_Sum (Aa0 : Option Addr) (na0 : Nat) (ca0 : Nat) {I : Ctx} {h : Mem} {Q : Value → Mem → Prop}
  (hh : holds Try.prog 24 I (cl_ Q)
   (.stop k_octroiref01_Sum_1 (t_octroiref01_Sum_1 Aa0 na0 ca0 0 0 (jl [(2, .int .u16 0), (5, undef), (6, undef), (7, undef), (8, undef), (9, undef), (10, undef), (11, undef), (12, undef), (13, undef), (14, undef), (15, undef), (16, undef), (17, undef), (18, undef), (19, undef), (20, undef), (21, undef), (22, undef), (23, undef), (24, undef), (25, undef), (26, undef), (27, undef), (28, undef), (29, undef), (30, undef), (31, undef), (32, undef), (33, undef), (34, undef), (35, undef), (36, undef), (37, undef), (38, undef), (39, undef), (40, undef), (41, undef)]))) h) : Fn Try.prog 24 #[.slice Aa0 na0 ca0] I h Q :=
  Wp.fn (args := [.slice Aa0 na0 ca0]) Try.func24 rfl (by kernel_rfl) (of_tree (cfg := g_octroiref01_Sum) 1000 (by kernel_rfl) Try.func24 rfl Try.checked.mixed hh)
theorem ca_octroiref01_Sum : callable Try.prog 24 := ⟨_, Try.func24, by kernel_rfl, by kernel_rfl⟩
set_option maxRecDepth 100000 in
theorem r_octroiref01_Sum_1 (Aa0 : Option Addr) (na0 : Nat) (ca0 : Nat) (x3 : Int) (x4 : Int) (u : Nat → Value) {I : Ctx} {h : Mem} {Q : Value → Mem → Prop}
  (hh : holds Try.prog 24 I Q
   (.ite (decide ((x4 : Int) < ((na0 : Nat) : Int)))
    (.rd (Instr.indexAt 27 (.slice Aa0 na0 ca0) (.int .i64 x4)) (.one (.sc (.padr))) fun l1 =>
     (.rd (Instr.loadAt 5 (.pointer (some ((l1 0).a)))) (.one (.sc (.int .u8))) fun l2 =>
      (.ite (decide ((IntKind.wrap .i64 (x4 + 1) : Int) < ((na0 : Nat) : Int)))
       (.rd (Instr.indexAt 27 (.slice Aa0 na0 ca0) (.int .i64 (IntKind.wrap .i64 (x4 + 1)))) (.one (.sc (.padr))) fun l3 =>
        (.rd (Instr.loadAt 5 (.pointer (some ((l3 0).a)))) (.one (.sc (.int .u8))) fun l4 =>
         (.stop k_octroiref01_Sum_1 (t_octroiref01_Sum_1 Aa0 na0 ca0 (IntKind.wrap .i64 ((IntKind.wrap .i64 (x3 + (IntKind.wrap .i64 ((IntKind.wrap .i64 ((l2 0).i)) * 256)))) + (IntKind.wrap .i64 ((l4 0).i)))) (IntKind.wrap .i64 (x4 + 2)) (jl [(2, (u 2)), (5, .int .i64 x4), (6, .slice Aa0 na0 ca0), (7, .int .i64 ((na0 : Nat) : Int)), (8, .bool (decide ((x4 : Int) < ((na0 : Nat) : Int)))), (9, .int .i64 x4), (10, .int .i64 (IntKind.wrap .i64 (x4 + 2))), (11, .int .i64 x3), (12, .slice Aa0 na0 ca0), (13, .int .i64 x4), (14, .pointer (some ((l1 0).a))), (15, .int .u8 ((l2 0).i)), (16, .int .i64 (IntKind.wrap .i64 ((l2 0).i))), (17, .int .i64 (IntKind.wrap .i64 ((IntKind.wrap .i64 ((l2 0).i)) * 256))), (18, .int .i64 (IntKind.wrap .i64 (x3 + (IntKind.wrap .i64 ((IntKind.wrap .i64 ((l2 0).i)) * 256))))), (19, .int .i64 x4), (20, .int .i64 (IntKind.wrap .i64 (x4 + 1))), (21, .slice Aa0 na0 ca0), (22, .int .i64 ((na0 : Nat) : Int)), (23, .bool (decide ((IntKind.wrap .i64 (x4 + 1) : Int) < ((na0 : Nat) : Int)))), (24, .int .i64 (IntKind.wrap .i64 (x3 + (IntKind.wrap .i64 ((IntKind.wrap .i64 ((l2 0).i)) * 256))))), (25, .slice Aa0 na0 ca0), (26, .int .i64 x4), (27, .int .i64 (IntKind.wrap .i64 (x4 + 1))), (28, .pointer (some ((l3 0).a))), (29, .int .u8 ((l4 0).i)), (30, .int .i64 (IntKind.wrap .i64 ((l4 0).i))), (31, .int .i64 (IntKind.wrap .i64 ((IntKind.wrap .i64 (x3 + (IntKind.wrap .i64 ((IntKind.wrap .i64 ((l2 0).i)) * 256)))) + (IntKind.wrap .i64 ((l4 0).i))))), (32, (u 32)), (33, (u 33)), (34, (u 34)), (35, (u 35)), (36, (u 36)), (37, (u 37)), (38, (u 38)), (39, (u 39)), (40, (u 40)), (41, (u 41))])))))
       (.stop k_octroiref01_Sum_1 (t_octroiref01_Sum_1 Aa0 na0 ca0 (IntKind.wrap .i64 (x3 + (IntKind.wrap .i64 ((IntKind.wrap .i64 ((l2 0).i)) * 256)))) (IntKind.wrap .i64 (x4 + 2)) (jl [(2, (u 2)), (5, .int .i64 x4), (6, .slice Aa0 na0 ca0), (7, .int .i64 ((na0 : Nat) : Int)), (8, .bool (decide ((x4 : Int) < ((na0 : Nat) : Int)))), (9, .int .i64 x4), (10, .int .i64 (IntKind.wrap .i64 (x4 + 2))), (11, .int .i64 x3), (12, .slice Aa0 na0 ca0), (13, .int .i64 x4), (14, .pointer (some ((l1 0).a))), (15, .int .u8 ((l2 0).i)), (16, .int .i64 (IntKind.wrap .i64 ((l2 0).i))), (17, .int .i64 (IntKind.wrap .i64 ((IntKind.wrap .i64 ((l2 0).i)) * 256))), (18, .int .i64 (IntKind.wrap .i64 (x3 + (IntKind.wrap .i64 ((IntKind.wrap .i64 ((l2 0).i)) * 256))))), (19, .int .i64 x4), (20, .int .i64 (IntKind.wrap .i64 (x4 + 1))), (21, .slice Aa0 na0 ca0), (22, .int .i64 ((na0 : Nat) : Int)), (23, .bool (decide ((IntKind.wrap .i64 (x4 + 1) : Int) < ((na0 : Nat) : Int)))), (24, (u 24)), (25, (u 25)), (26, (u 26)), (27, (u 27)), (28, (u 28)), (29, (u 29)), (30, (u 30)), (31, (u 31)), (32, (u 32)), (33, (u 33)), (34, (u 34)), (35, (u 35)), (36, (u 36)), (37, (u 37)), (38, (u 38)), (39, (u 39)), (40, (u 40)), (41, (u 41))]))))))
    (.stop k_octroiref01_Sum_2 (t_octroiref01_Sum_2 x3 (jl [(0, .slice Aa0 na0 ca0), (2, (u 2)), (4, .int .i64 x4), (5, .int .i64 x4), (6, .slice Aa0 na0 ca0), (7, .int .i64 ((na0 : Nat) : Int)), (8, .bool (decide ((x4 : Int) < ((na0 : Nat) : Int)))), (9, (u 9)), (10, (u 10)), (11, (u 11)), (12, (u 12)), (13, (u 13)), (14, (u 14)), (15, (u 15)), (16, (u 16)), (17, (u 17)), (18, (u 18)), (19, (u 19)), (20, (u 20)), (21, (u 21)), (22, (u 22)), (23, (u 23)), (24, (u 24)), (25, (u 25)), (26, (u 26)), (27, (u 27)), (28, (u 28)), (29, (u 29)), (30, (u 30)), (31, (u 31)), (32, (u 32)), (33, (u 33)), (34, (u 34)), (35, (u 35)), (36, (u 36)), (37, (u 37)), (38, (u 38)), (39, (u 39)), (40, (u 40)), (41, (u 41))])))) h) : Wp Try.prog 24 k_octroiref01_Sum_1 (t_octroiref01_Sum_1 Aa0 na0 ca0 x3 x4 u) I h Q :=
  of_tree (cfg := g_octroiref01_Sum) 1000 (by kernel_rfl) Try.func24 rfl Try.checked.mixed hh
set_option maxRecDepth 100000 in
theorem r_octroiref01_Sum_2 (x3 : Int) (u : Nat → Value) {I : Ctx} {h : Mem} {Q : Value → Mem → Prop}
  (hh : holds Try.prog 24 I Q
   (.ite (decide ((x3 : Int) > 65535))
    (.stop k_octroiref01_Sum_2 (t_octroiref01_Sum_2 (IntKind.wrap .i64 ((Int.tmod x3 65536) + (IntKind.wrap .i64 (Int.tdiv x3 65536)))) (jl [(0, (u 0)), (2, (u 2)), (4, (u 4)), (5, (u 5)), (6, (u 6)), (7, (u 7)), (8, (u 8)), (9, (u 9)), (10, (u 10)), (11, (u 11)), (12, (u 12)), (13, (u 13)), (14, (u 14)), (15, (u 15)), (16, (u 16)), (17, (u 17)), (18, (u 18)), (19, (u 19)), (20, (u 20)), (21, (u 21)), (22, (u 22)), (23, (u 23)), (24, (u 24)), (25, (u 25)), (26, (u 26)), (27, (u 27)), (28, (u 28)), (29, (u 29)), (30, (u 30)), (31, (u 31)), (32, .int .i64 x3), (33, .bool (decide ((x3 : Int) > 65535))), (34, .int .i64 x3), (35, .int .i64 (Int.tmod x3 65536)), (36, .int .i64 x3), (37, .int .i64 (IntKind.wrap .i64 (Int.tdiv x3 65536))), (38, .int .i64 (IntKind.wrap .i64 ((Int.tmod x3 65536) + (IntKind.wrap .i64 (Int.tdiv x3 65536))))), (39, (u 39)), (40, (u 40)), (41, (u 41))])))
    (.done (.int .u16 (IntKind.wrap .u16 (IntKind.wrap .i64 (65535 - x3)))))) h) : Wp Try.prog 24 k_octroiref01_Sum_2 (t_octroiref01_Sum_2 x3 u) I h Q :=
  of_tree (cfg := g_octroiref01_Sum) 1000 (by kernel_rfl) Try.func24 rfl Try.checked.mixed hh
/-! ### slices_Equal_byte: function 25 of Go -/
abbrev F_slices_Equal_byte : FuncId := 25
noncomputable def c_slices_Equal_byte : Code := (Try.f25.body).getD .skip
def p_slices_Equal_byte : Nat → List (List Nat) := fun r => match r with | 6 => [[], [], [0, 1], [0, 1, 2], [], [], [4, 5], [4, 5, 6], [0, 1, 2, 3, 4, 5, 6, 7]] | _ => []
noncomputable def g_slices_Equal_byte : Cfg := { sh := shs, fsh := fshs, results := [.tmp 4], hint := fun _ _ => none, ord := fun r => match r with | 6 => some [0, 1, 2, 3, 4, 5, 6, 7, 8] | _ => none, pre := p_slices_Equal_byte, un := unOf p_slices_Equal_byte }
noncomputable def k_slices_Equal_byte_1 : List Item := [.code (bd (bd (sr (sl (sr (sr c_slices_Equal_byte)))))), .inLoop (bd (bd (sr (sl (sr (sr c_slices_Equal_byte)))))), .inBlock 0, .code (sr (sr (sr c_slices_Equal_byte)))]
noncomputable def t_slices_Equal_byte_1 (Aa0 : Option Addr) (na0 : Nat) (ca0 : Nat) (Aa1 : Option Addr) (na1 : Nat) (ca1 : Nat) (x13 : Int) (u : Nat → Value) : List Value := [.slice Aa0 na0 ca0, .slice Aa1 na1 ca1, undef, undef, (u 4), (u 5), (u 6), (u 7), (u 8), (u 9), (u 10), (u 11), .int .i64 ((na0 : Nat) : Int), .int .i64 x13, (u 14), (u 15), (u 16), (u 17), (u 18), (u 19), (u 20), (u 21), (u 22), (u 23), (u 24), (u 25)]
set_option maxRecDepth 100000 in
theorem r_slices_Equal_byte (Aa0 : Option Addr) (na0 : Nat) (ca0 : Nat) (Aa1 : Option Addr) (na1 : Nat) (ca1 : Nat) {I : Ctx} {h : Mem} {Q : Value → Mem → Prop}
  (hh : holds Try.prog 25 I (cl_ Q)
   (.ite ((((na0 : Nat) : Int) : Int) != ((na1 : Nat) : Int))
    (.done (.bool false))
    (.stop k_slices_Equal_byte_1 (t_slices_Equal_byte_1 Aa0 na0 ca0 Aa1 na1 ca1 0 (jl [(4, .bool false), (5, undef), (6, .slice Aa0 na0 ca0), (7, .int .i64 ((na0 : Nat) : Int)), (8, .slice Aa1 na1 ca1), (9, .int .i64 ((na1 : Nat) : Int)), (10, .bool ((((na0 : Nat) : Int) : Int) != ((na1 : Nat) : Int))), (11, .slice Aa0 na0 ca0), (14, undef), (15, undef), (16, undef), (17, undef), (18, undef), (19, undef), (20, undef), (21, undef), (22, undef), (23, undef), (24, undef), (25, undef)])))) h) : Fn Try.prog 25 #[.slice Aa0 na0 ca0, .slice Aa1 na1 ca1] I h Q :=
  Wp.fn (args := [.slice Aa0 na0 ca0, .slice Aa1 na1 ca1]) Try.func25 rfl (by kernel_rfl) (of_tree (cfg := g_slices_Equal_byte) 1000 (by kernel_rfl) Try.func25 rfl Try.checked.mixed hh)
theorem ca_slices_Equal_byte : callable Try.prog 25 := ⟨_, Try.func25, by kernel_rfl, by kernel_rfl⟩
set_option maxRecDepth 100000 in
theorem r_slices_Equal_byte_1 (Aa0 : Option Addr) (na0 : Nat) (ca0 : Nat) (Aa1 : Option Addr) (na1 : Nat) (ca1 : Nat) (x13 : Int) (u : Nat → Value) {I : Ctx} {h : Mem} {Q : Value → Mem → Prop}
  (hh : holds Try.prog 25 I Q
   (.ite (decide ((x13 : Int) < ((na0 : Nat) : Int)))
    (.rd (Instr.indexAt 27 (.slice Aa0 na0 ca0) (.int .i64 x13)) (.one (.sc (.padr))) fun l1 =>
     (.rd (Instr.loadAt 5 (.pointer (some ((l1 0).a)))) (.one (.sc (.int .u8))) fun l2 =>
      (.rd (Instr.indexAt 27 (.slice Aa1 na1 ca1) (.int .i64 x13)) (.one (.sc (.padr))) fun l3 =>
       (.rd (Instr.loadAt 5 (.pointer (some ((l3 0).a)))) (.one (.sc (.int .u8))) fun l4 =>
        (.ite (((l2 0).i : Int) != ((l4 0).i))
         (.done (.bool false))
         (.stop k_slices_Equal_byte_1 (t_slices_Equal_byte_1 Aa0 na0 ca0 Aa1 na1 ca1 (IntKind.wrap .i64 (x13 + 1)) (jl [(4, (u 4)), (5, .int .i64 x13), (6, (u 6)), (7, (u 7)), (8, (u 8)), (9, (u 9)), (10, (u 10)), (11, (u 11)), (14, .bool (decide ((x13 : Int) < ((na0 : Nat) : Int)))), (15, .int .i64 x13), (16, .slice Aa0 na0 ca0), (17, .int .i64 x13), (18, .pointer (some ((l1 0).a))), (19, .int .u8 ((l2 0).i)), (20, .slice Aa1 na1 ca1), (21, .int .i64 x13), (22, .pointer (some ((l3 0).a))), (23, .int .u8 ((l4 0).i)), (24, .bool (((l2 0).i : Int) != ((l4 0).i))), (25, .int .i64 (IntKind.wrap .i64 (x13 + 1)))]))))))))
    (.done (.bool true))) h) : Wp Try.prog 25 k_slices_Equal_byte_1 (t_slices_Equal_byte_1 Aa0 na0 ca0 Aa1 na1 ca1 x13 u) I h Q :=
  of_tree (cfg := g_slices_Equal_byte) 1000 (by kernel_rfl) Try.func25 rfl Try.checked.mixed hh
/-! ### num_Get32: function 26 of Go -/
abbrev F_num_Get32 : FuncId := 26
noncomputable def c_num_Get32 : Code := (Try.f26.body).getD .skip
noncomputable def g_num_Get32 : Cfg := { sh := shs, fsh := fshs, results := [.tmp 4, .tmp 5], hint := fun _ _ => none, ord := fun _ => none, pre := fun _ => [], un := fun _ _ _ => false }
set_option maxRecDepth 100000 in
theorem r_num_Get32 (Aa0 : Option Addr) (na0 : Nat) (ca0 : Nat) (a1 : Int) {I : Ctx} {h : Mem} {Q : Value → Mem → Prop}
  (hh : holds Try.prog 26 I (cl_ Q)
   (.call 41 [.slice Aa0 na0 ca0, .int .i64 a1, .int .i64 4] (.tup [(.sc (.int .u32)), (.sc (.bool))]) fun l1 => -- num_get
    (.done (.tuple #[.int .u32 ((l1 0).i), .bool ((l1 1).b)]))) h) : Fn Try.prog 26 #[.slice Aa0 na0 ca0, .int .i64 a1] I h Q :=
  Wp.fn (args := [.slice Aa0 na0 ca0, .int .i64 a1]) Try.func26 rfl (by kernel_rfl) (of_tree (cfg := g_num_Get32) 1000 (by kernel_rfl) Try.func26 rfl Try.checked.mixed hh)
theorem ca_num_Get32 : callable Try.prog 26 := ⟨_, Try.func26, by kernel_rfl, by kernel_rfl⟩
/-! ### dualpkt_get: function 27 of Go -/
abbrev F_dualpkt_get : FuncId := 27
noncomputable def c_dualpkt_get : Code := (Try.f27.body).getD .skip
def p_dualpkt_get : Nat → List (List Nat) := fun r => match r with | 3 => [[], [0], [0, 1], [0, 1, 2], [], [4], [4, 5], [4, 5, 6], [0, 1, 2, 3], [0, 1, 2, 3, 8], [0, 1, 2, 3, 8, 9], [0, 1, 2, 3, 4, 5, 6, 7, 8, 9, 10], [0, 1, 2, 3, 4, 5, 6, 7, 8, 9, 10, 11], [0, 1, 2, 3, 4, 5, 6, 7, 8, 9, 10, 11, 12]] | _ => []
noncomputable def g_dualpkt_get : Cfg := { sh := shs, fsh := fshs, results := [.cell 2 43], hint := fun _ _ => none, ord := fun r => match r with | 3 => some [0, 1, 2, 3, 4, 5, 6, 7, 8, 9, 10, 11, 12, 13] | _ => none, pre := p_dualpkt_get, un := unOf p_dualpkt_get }
set_option maxRecDepth 100000 in
theorem r_dualpkt_get (Aa0 : Option Addr) (na0 : Nat) (ca0 : Nat) {I : Ctx} {h : Mem} {Q : Value → Mem → Prop}
  (hh : holds Try.prog 27 I (cl_ Q)
   (.sem (Instr.alloc 43 true (.tuple #[])) shBlk fun l1 =>
    (.sem (Instr.alloc 43 true (.tuple #[])) shBlk fun l2 =>
     (.call 26 [.slice Aa0 na0 ca0, .int .i64 0] (.tup [(.sc (.int .u32)), (.sc (.bool))]) fun l3 => -- num_Get32
      (.unit (Instr.storeAt 22 (.pointer (some ⟨(l2 0).n, 0, none⟩)) (.int .u32 ((l3 0).i)))
       (.rd (Instr.indexAt 27 (.slice Aa0 na0 ca0) (.int .i64 4)) (.one (.sc (.padr))) fun l4 =>
        (.rd (Instr.loadAt 5 (.pointer (some ((l4 0).a)))) (.one (.sc (.int .u8))) fun l5 =>
         (.rd (Instr.indexAt 27 (.slice Aa0 na0 ca0) (.int .i64 5)) (.one (.sc (.padr))) fun l6 =>
          (.rd (Instr.loadAt 5 (.pointer (some ((l6 0).a)))) (.one (.sc (.int .u8))) fun l7 =>
           (.unit (Instr.storeAt 3 (.pointer (some ⟨(l2 0).n, 1, none⟩)) (.int .i64 (IntKind.wrap .i64 ((l5 0).i))))
            (.pin (vN (Instr.loadAt 5 (.pointer (some ((l6 0).a))))) (.int .u8 ((l7 0).i))
             (.pin (vN (Instr.indexAt 27 (.slice Aa0 na0 ca0) (.int .i64 5))) (.pointer (some ((l6 0).a)))
              (.unit (Instr.storeAt 3 (.pointer (some ⟨(l2 0).n, 4, none⟩)) (.int .i64 (IntKind.wrap .i64 ((l7 0).i))))
               (.call 42 [.slice Aa0 na0 ca0, .int .i64 6] (.tup [(.sc (.int .u16)), (.sc (.bool))]) fun l8 => -- num_Get16
                (.unit (Instr.storeAt 41 (.pointer (some ⟨(l2 0).n, 5, none⟩)) (.int .u16 ((l8 0).i)))
                 (.call 26 [.slice Aa0 na0 ca0, .int .i64 8] (.tup [(.sc (.int .u32)), (.sc (.bool))]) fun l9 => -- num_Get32
                  (.call 26 [.slice Aa0 na0 ca0, .int .i64 12] (.tup [(.sc (.int .u32)), (.sc (.bool))]) fun l10 => -- num_Get32
                   (.unit (Instr.storeAt 3 (.pointer (some ⟨(l2 0).n, 2, none⟩)) (.int .i64 (IntKind.wrap .i64 ((l9 0).i))))
                    (.unit (Instr.storeAt 3 (.pointer (some ⟨(l2 0).n, 3, none⟩)) (.int .i64 (IntKind.wrap .i64 ((l10 0).i))))
                     (.rd (Instr.loadAt 43 (.pointer (some ⟨(l2 0).n, 0, none⟩))) (.one (.agg [.int .u32, .int .i64, .int .i64, .int .i64, .int .i64, .int .u16])) fun l11 =>
                      (.unit (Instr.storeAt 43 (.pointer (some ⟨(l1 0).n, 0, none⟩)) (.agg #[.int .u32 ((l11 0).i), .int .i64 ((l11 1).i), .int .i64 ((l11 2).i), .int .i64 ((l11 3).i), .int .i64 ((l11 4).i), .int .u16 ((l11 5).i)]))
                       (.rd (loadVar 43 ⟨(l1 0).n, 0, none⟩) (.one (.agg [.int .u32, .int .i64, .int .i64, .int .i64, .int .i64, .int .u16])) fun l12 =>
                        (.done (.agg #[.int .u32 ((l12 0).i), .int .i64 ((l12 1).i), .int .i64 ((l12 2).i), .int .i64 ((l12 3).i), .int .i64 ((l12 4).i), .int .u16 ((l12 5).i)]))))))))))))))))))))))) h) : Fn Try.prog 27 #[.slice Aa0 na0 ca0] I h Q :=
  Wp.fn (args := [.slice Aa0 na0 ca0]) Try.func27 rfl (by kernel_rfl) (of_tree (cfg := g_dualpkt_get) 1000 (by kernel_rfl) Try.func27 rfl Try.checked.mixed hh)
theorem ca_dualpkt_get : callable Try.prog 27 := ⟨_, Try.func27, by kernel_rfl, by kernel_rfl⟩
/-! ### octroiref01_Get: function 28 of Go -/
abbrev F_octroiref01_Get : FuncId := 28
noncomputable def c_octroiref01_Get : Code := (Try.f28.body).getD .skip
noncomputable def g_octroiref01_Get : Cfg := { sh := shs, fsh := fshs, results := [.tmp 6, .tmp 7], hint := fun _ _ => none, ord := fun _ => none, pre := fun _ => [], un := fun _ _ _ => false }
noncomputable def k_octroiref01_Get_1 : List Item := [.code (bd (bd (sr (sl (sr (sr (sr c_octroiref01_Get))))))), .inLoop (bd (bd (sr (sl (sr (sr (sr c_octroiref01_Get))))))), .inBlock 0, .code (sr (sr (sr (sr c_octroiref01_Get))))]
noncomputable def t_octroiref01_Get_1 (Aa0 : Option Addr) (na0 : Nat) (ca0 : Nat) (a1 : Int) (a2 : Int) (x8 : Int) (x9 : Int) (u : Nat → Value) : List Value := [.slice Aa0 na0 ca0, .int .i64 a1, .int .i64 a2, undef, undef, undef, (u 6), (u 7), .int .u32 x8, .int .i64 x9, (u 10), (u 11), (u 12), (u 13), (u 14), (u 15), (u 16), (u 17), (u 18), (u 19), (u 20), (u 21), (u 22), (u 23), (u 24), (u 25), (u 26), (u 27), (u 28), (u 29), (u 30), (u 31), (u 32), (u 33), (u 34), (u 35), (u 36), (u 37), (u 38), (u 39), (u 40), (u 41)]
set_option maxRecDepth 100000 in
theorem r_octroiref01_Get (Aa0 : Option Addr) (na0 : Nat) (ca0 : Nat) (a1 : Int) (a2 : Int) {I : Ctx} {h : Mem} {Q : Value → Mem → Prop}
  (hh : holds Try.prog 28 I (cl_ Q)
   (.ite (decide ((a1 : Int) < 0))
    (.done (.tuple #[.int .u32 0, .bool false]))
    (.ite (decide ((a1 : Int) > ((na0 : Nat) : Int)))
     (.done (.tuple #[.int .u32 0, .bool false]))
     (.ite (decide ((IntKind.wrap .i64 (((na0 : Nat) : Int) - a1) : Int) < a2))
      (.done (.tuple #[.int .u32 0, .bool false]))
      (.stop k_octroiref01_Get_1 (t_octroiref01_Get_1 Aa0 na0 ca0 a1 a2 0 0 (jl [(6, .int .u32 0), (7, .bool false), (10, .int .i64 a1), (11, .bool (decide ((a1 : Int) < 0))), (12, .bool false), (13, .int .i64 a1), (14, .slice Aa0 na0 ca0), (15, .int .i64 ((na0 : Nat) : Int)), (16, .bool (decide ((a1 : Int) > ((na0 : Nat) : Int)))), (17, .bool (decide ((a1 : Int) > ((na0 : Nat) : Int)))), (18, .bool false), (19, .slice Aa0 na0 ca0), (20, .int .i64 ((na0 : Nat) : Int)), (21, .int .i64 a1), (22, .int .i64 (IntKind.wrap .i64 (((na0 : Nat) : Int) - a1))), (23, .int .i64 a2), (24, .bool (decide ((IntKind.wrap .i64 (((na0 : Nat) : Int) - a1) : Int) < a2))), (25, .bool (decide ((IntKind.wrap .i64 (((na0 : Nat) : Int) - a1) : Int) < a2))), (26, undef), (27, undef), (28, undef), (29, undef), (30, undef), (31, undef), (32, undef), (33, undef), (34, undef), (35, undef), (36, undef), (37, undef), (38, undef), (39, undef), (40, undef), (41, undef)])))))) h) : Fn Try.prog 28 #[.slice Aa0 na0 ca0, .int .i64 a1, .int .i64 a2] I h Q :=
  Wp.fn (args := [.slice Aa0 na0 ca0, .int .i64 a1, .int .i64 a2]) Try.func28 rfl (by kernel_rfl) (of_tree (cfg := g_octroiref01_Get) 1000 (by kernel_rfl) Try.func28 rfl Try.checked.mixed hh)
theorem ca_octroiref01_Get : callable Try.prog 28 := ⟨_, Try.func28, by kernel_rfl, by kernel_rfl⟩
set_option maxRecDepth 100000 in
theorem r_octroiref01_Get_1 (Aa0 : Option Addr) (na0 : Nat) (ca0 : Nat) (a1 : Int) (a2 : Int) (x8 : Int) (x9 : Int) (u : Nat → Value) {I : Ctx} {h : Mem} {Q : Value → Mem → Prop}
  (hh : holds Try.prog 28 I Q
   (.ite (decide ((x9 : Int) < a2))
    (.rd (Instr.indexAt 27 (.slice Aa0 na0 ca0) (.int .i64 (IntKind.wrap .i64 (a1 + x9)))) (.one (.sc (.padr))) fun l1 =>
     (.rd (Instr.loadAt 5 (.pointer (some ((l1 0).a)))) (.one (.sc (.int .u8))) fun l2 =>
      (.stop k_octroiref01_Get_1 (t_octroiref01_Get_1 Aa0 na0 ca0 a1 a2 (IntKind.wrap .u32 ((IntKind.wrap .u32 (x8 * 256)) + (IntKind.wrap .u32 ((l2 0).i)))) (IntKind.wrap .i64 (x9 + 1)) (jl [(6, (u 6)), (7, (u 7)), (10, (u 10)), (11, (u 11)), (12, (u 12)), (13, (u 13)), (14, (u 14)), (15, (u 15)), (16, (u 16)), (17, (u 17)), (18, (u 18)), (19, (u 19)), (20, (u 20)), (21, (u 21)), (22, (u 22)), (23, (u 23)), (24, (u 24)), (25, (u 25)), (26, .int .i64 x9), (27, .int .i64 a2), (28, .bool (decide ((x9 : Int) < a2))), (29, .int .i64 x9), (30, .int .i64 (IntKind.wrap .i64 (x9 + 1))), (31, .int .u32 x8), (32, .int .u32 (IntKind.wrap .u32 (x8 * 256))), (33, .slice Aa0 na0 ca0), (34, .int .i64 a1), (35, .int .i64 x9), (36, .int .i64 (IntKind.wrap .i64 (a1 + x9))), (37, .pointer (some ((l1 0).a))), (38, .int .u8 ((l2 0).i)), (39, .int .u32 (IntKind.wrap .u32 ((l2 0).i))), (40, .int .u32 (IntKind.wrap .u32 ((IntKind.wrap .u32 (x8 * 256)) + (IntKind.wrap .u32 ((l2 0).i))))), (41, (u 41))])))))
    (.done (.tuple #[.int .u32 x8, .bool true]))) h) : Wp Try.prog 28 k_octroiref01_Get_1 (t_octroiref01_Get_1 Aa0 na0 ca0 a1 a2 x8 x9 u) I h Q :=
  of_tree (cfg := g_octroiref01_Get) 1000 (by kernel_rfl) Try.func28 rfl Try.checked.mixed hh
/-! ### octroiref07_get: function 29 of Go -/
abbrev F_octroiref07_get : FuncId := 29
noncomputable def c_octroiref07_get : Code := (Try.f29.body).getD .skip
noncomputable def g_octroiref07_get : Cfg := { sh := shs, fsh := fshs, results := [.tmp 4], hint := fun _ _ => none, ord := fun _ => none, pre := fun _ => [], un := fun _ _ _ => false }
set_option maxRecDepth 100000 in
theorem r_octroiref07_get (Aa0 : Option Addr) (na0 : Nat) (ca0 : Nat) (a1 : Int) {I : Ctx} {h : Mem} {Q : Value → Mem → Prop}
  (hh : holds Try.prog 29 I (cl_ Q)
   (.call 28 [.slice Aa0 na0 ca0, .int .i64 a1, .int .i64 4] (.tup [(.sc (.int .u32)), (.sc (.bool))]) fun l1 => -- octroiref01_Get
    (.done (.int .u32 ((l1 0).i)))) h) : Fn Try.prog 29 #[.slice Aa0 na0 ca0, .int .i64 a1] I h Q :=
  Wp.fn (args := [.slice Aa0 na0 ca0, .int .i64 a1]) Try.func29 rfl (by kernel_rfl) (of_tree (cfg := g_octroiref07_get) 1000 (by kernel_rfl) Try.func29 rfl Try.checked.mixed hh)
theorem ca_octroiref07_get : callable Try.prog 29 := ⟨_, Try.func29, by kernel_rfl, by kernel_rfl⟩
/-! ### prefix_May: function 30 of Go -/
abbrev F_prefix_May : FuncId := 30
noncomputable def c_prefix_May : Code := (Try.f30.body).getD .skip
def p_prefix_May : Nat → List (List Nat) := fun r => match r with | 1 => [[], [0], [0, 1], [0, 1, 2], [0, 1, 2, 3], [0, 1, 2, 3, 4], [0, 1, 2, 3, 4, 5], [0, 1, 2, 3, 4, 5, 6], [0, 1, 2, 3, 4, 5, 6, 7], [0, 1, 2, 3, 4, 5, 6, 7, 8], [0, 1, 2, 3, 4, 5, 6, 7, 8, 9], [0, 1, 2, 3, 4, 5, 6, 7, 8], [0, 1, 2, 3, 4, 5, 6, 7, 8, 11], [0, 1, 2, 3, 4, 5, 6, 7, 8, 11, 12], [0, 1, 2, 3, 4, 5, 6, 7, 8, 9, 10, 11, 12, 13], [0, 1, 2, 3, 4, 5, 6, 7, 8, 9, 10, 11, 12, 13, 14], [0, 1, 2, 3, 4, 5, 6, 7, 8, 9, 10, 11, 12, 13, 14, 15], [0, 1, 2, 3, 4, 5, 6, 7, 8, 9, 10, 11, 12, 13, 14, 15, 16]] | _ => []
noncomputable def g_prefix_May : Cfg := { sh := shs, fsh := fshs, results := [.tmp 2], hint := fun _ _ => none, ord := fun r => match r with | 1 => some [0, 1, 2, 3, 4, 5, 6, 7, 8, 9, 10, 11, 12, 13, 14, 15, 16, 17] | _ => none, pre := p_prefix_May, un := unOf p_prefix_May }
set_option maxRecDepth 100000 in
theorem r_prefix_May (a0_0 : Int) (a0_1 : Int) {I : Ctx} {h : Mem} {Q : Value → Mem → Prop}
  (hh : holds Try.prog 30 I (cl_ Q)
   (.sem (Instr.box 38 (.agg #[.int .u32 a0_0, .int .i64 a0_1])) shBlk fun l1 =>
    (.rd (Instr.loadAt 3 (.pointer (some ⟨(l1 0).n, 1, none⟩))) (.one (.sc (.int .i64))) fun l2 =>
     (.ite (decide (((l2 0).i : Int) ≥ 0))
      (.rd (Instr.loadAt 3 (.pointer (some ⟨(l1 0).n, 1, none⟩))) (.one (.sc (.int .i64))) fun l3 =>
       (.ite (decide (((l3 0).i : Int) ≤ 32))
        (.rd (Instr.loadAt 22 (.pointer (some ⟨(l1 0).n, 0, none⟩))) (.one (.sc (.int .u32))) fun l4 =>
         (.rd (Instr.loadAt 3 (.pointer (some ⟨(l1 0).n, 1, none⟩))) (.one (.sc (.int .i64))) fun l5 =>
          (.call 43 [.int .i64 ((l5 0).i)] (.one (.sc (.int .u32))) fun l6 => -- prefix_Mask
           (.pin (vN (Instr.loadAt 22 (.pointer (some ⟨(l1 0).n, 0, none⟩)))) (.int .u32 ((l4 0).i))
            (.done (.bool ((bitop .andNot .u32 ((l4 0).i) ((l6 0).i) : Int) == 0)))))))
        (.done (.bool false))))
      (.done (.bool false))))) h) : Fn Try.prog 30 #[.agg #[.int .u32 a0_0, .int .i64 a0_1]] I h Q :=
  Wp.fn (args := [.agg #[.int .u32 a0_0, .int .i64 a0_1]]) Try.func30 rfl (by kernel_rfl) (of_tree (cfg := g_prefix_May) 1000 (by kernel_rfl) Try.func30 rfl Try.checked.mixed hh)
theorem ca_prefix_May : callable Try.prog 30 := ⟨_, Try.func30, by kernel_rfl, by kernel_rfl⟩
/-! ### metric_May: function 31 of Go -/
abbrev F_metric_May : FuncId := 31
noncomputable def c_metric_May : Code := (Try.f31.body).getD .skip
noncomputable def g_metric_May : Cfg := { sh := shs, fsh := fshs, results := [.tmp 2], hint := fun _ _ => none, ord := fun _ => none, pre := fun _ => [], un := fun _ _ _ => false }
set_option maxRecDepth 100000 in
theorem r_metric_May (a0_0 : Int) (a0_1 : Int) (a0_2 : Int) {I : Ctx} {h : Mem} {Q : Value → Mem → Prop}
  (hh : holds Try.prog 31 I (cl_ Q)
   (.sem (Instr.box 40 (.agg #[.int .i64 a0_0, .int .i64 a0_1, .int .i64 a0_2])) shBlk fun l1 =>
    (.rd (Instr.loadAt 3 (.pointer (some ⟨(l1 0).n, 0, none⟩))) (.one (.sc (.int .i64))) fun l2 =>
     (.ite (decide (((l2 0).i : Int) ≥ 1))
      (.rd (Instr.loadAt 3 (.pointer (some ⟨(l1 0).n, 0, none⟩))) (.one (.sc (.int .i64))) fun l3 =>
       (.ite (decide (((l3 0).i : Int) ≤ 10000000))
        (.rd (Instr.loadAt 3 (.pointer (some ⟨(l1 0).n, 1, none⟩))) (.one (.sc (.int .i64))) fun l4 =>
         (.ite (decide (((l4 0).i : Int) ≥ 0))
          (.rd (Instr.loadAt 3 (.pointer (some ⟨(l1 0).n, 1, none⟩))) (.one (.sc (.int .i64))) fun l5 =>
           (.ite (decide (((l5 0).i : Int) ≤ 16777216))
            (.rd (Instr.loadAt 3 (.pointer (some ⟨(l1 0).n, 2, none⟩))) (.one (.sc (.int .i64))) fun l6 =>
             (.ite (decide (((l6 0).i : Int) ≥ 0))
              (.rd (Instr.loadAt 3 (.pointer (some ⟨(l1 0).n, 2, none⟩))) (.one (.sc (.int .i64))) fun l7 =>
               (.done (.bool (decide (((l7 0).i : Int) ≤ 100)))))
              (.done (.bool false))))
            (.done (.bool false))))
          (.done (.bool false))))
        (.done (.bool false))))
      (.done (.bool false))))) h) : Fn Try.prog 31 #[.agg #[.int .i64 a0_0, .int .i64 a0_1, .int .i64 a0_2]] I h Q :=
  Wp.fn (args := [.agg #[.int .i64 a0_0, .int .i64 a0_1, .int .i64 a0_2]]) Try.func31 rfl (by kernel_rfl) (of_tree (cfg := g_metric_May) 1000 (by kernel_rfl) Try.func31 rfl Try.checked.mixed hh)
theorem ca_metric_May : callable Try.prog 31 := ⟨_, Try.func31, by kernel_rfl, by kernel_rfl⟩
/-! ### slices_IndexFunc_DualEntry: function 32 of Go -/
abbrev F_slices_IndexFunc_DualEntry : FuncId := 32
noncomputable def c_slices_IndexFunc_DualEntry : Code := (Try.f32.body).getD .skip
noncomputable def g_slices_IndexFunc_DualEntry : Cfg := { sh := shs, fsh := fshs, results := [.tmp 4], hint := fun _ _ => none, ord := fun _ => none, pre := fun _ => [], un := fun _ _ _ => false }
noncomputable def k_slices_IndexFunc_DualEntry_1 : List Item := [.code (bd (bd (sr (sl (sr c_slices_IndexFunc_DualEntry))))), .inLoop (bd (bd (sr (sl (sr c_slices_IndexFunc_DualEntry))))), .inBlock 0, .code (sr (sr c_slices_IndexFunc_DualEntry))]
noncomputable def t_slices_IndexFunc_DualEntry_1 (Aa0 : Option Addr) (na0 : Nat) (ca0 : Nat) (x8 : Int) (u : Nat → Value) : List Value := [.slice Aa0 na0 ca0, .func (.func 15) #[] #[], undef, undef, (u 4), (u 5), (u 6), .int .i64 ((na0 : Nat) : Int), .int .i64 x8, (u 9), (u 10), (u 11), (u 12), (u 13), (u 14), (u 15), (u 16), (u 17), (u 18)]
set_option maxRecDepth 100000 in
theorem r_slices_IndexFunc_DualEntry (Aa0 : Option Addr) (na0 : Nat) (ca0 : Nat) {I : Ctx} {h : Mem} {Q : Value → Mem → Prop}
  (hh : holds Try.prog 32 I (cl_ Q)
   (.stop k_slices_IndexFunc_DualEntry_1 (t_slices_IndexFunc_DualEntry_1 Aa0 na0 ca0 0 (jl [(4, .int .i64 0), (5, undef), (6, .slice Aa0 na0 ca0), (9, undef), (10, undef), (11, undef), (12, undef), (13, undef), (14, undef), (15, undef), (16, undef), (17, undef), (18, undef)]))) h) : Fn Try.prog 32 #[.slice Aa0 na0 ca0, .func (.func 15) #[] #[]] I h Q :=
  Wp.fn (args := [.slice Aa0 na0 ca0, .func (.func 15) #[] #[]]) Try.func32 rfl (by kernel_rfl) (of_tree (cfg := g_slices_IndexFunc_DualEntry) 1000 (by kernel_rfl) Try.func32 rfl Try.checked.mixed hh)
theorem ca_slices_IndexFunc_DualEntry : callable Try.prog 32 := ⟨_, Try.func32, by kernel_rfl, by kernel_rfl⟩
set_option maxRecDepth 100000 in
theorem r_slices_IndexFunc_DualEntry_1 (Aa0 : Option Addr) (na0 : Nat) (ca0 : Nat) (x8 : Int) (u : Nat → Value) {I : Ctx} {h : Mem} {Q : Value → Mem → Prop}
  (hh : holds Try.prog 32 I Q
   (.ite (decide ((x8 : Int) < ((na0 : Nat) : Int)))
    (.rd (Instr.indexAt 23 (.slice Aa0 na0 ca0) (.int .i64 x8)) (.one (.sc (.padr))) fun l1 =>
     (.rd (Instr.loadAt 43 (.pointer (some ((l1 0).a)))) (.one (.agg [.int .u32, .int .i64, .int .i64, .int .i64, .int .i64, .int .u16])) fun l2 =>
      (.call 15 [.agg #[.int .u32 ((l2 0).i), .int .i64 ((l2 1).i), .int .i64 ((l2 2).i), .int .i64 ((l2 3).i), .int .i64 ((l2 4).i), .int .u16 ((l2 5).i)]] (.one (.sc (.bool))) fun l3 => -- dualpkt_Encode_fn1
       (.ite ((l3 0).b)
        (.done (.int .i64 x8))
        (.stop k_slices_IndexFunc_DualEntry_1 (t_slices_IndexFunc_DualEntry_1 Aa0 na0 ca0 (IntKind.wrap .i64 (x8 + 1)) (jl [(4, (u 4)), (5, .int .i64 x8), (6, (u 6)), (9, .bool (decide ((x8 : Int) < ((na0 : Nat) : Int)))), (10, .int .i64 x8), (11, .func (.func 15) #[] #[]), (12, .slice Aa0 na0 ca0), (13, .int .i64 x8), (14, .pointer (some ((l1 0).a))), (15, .agg #[.int .u32 ((l2 0).i), .int .i64 ((l2 1).i), .int .i64 ((l2 2).i), .int .i64 ((l2 3).i), .int .i64 ((l2 4).i), .int .u16 ((l2 5).i)]), (16, .bool ((l3 0).b)), (17, (u 17)), (18, .int .i64 (IntKind.wrap .i64 (x8 + 1)))])))))))
    (.done (.int .i64 (-1)))) h) : Wp Try.prog 32 k_slices_IndexFunc_DualEntry_1 (t_slices_IndexFunc_DualEntry_1 Aa0 na0 ca0 x8 u) I h Q :=
  of_tree (cfg := g_slices_IndexFunc_DualEntry) 1000 (by kernel_rfl) Try.func32 rfl Try.checked.mixed hh
/-! ### slices_Grow_byte: function 33 of Go -/
abbrev F_slices_Grow_byte : FuncId := 33
noncomputable def c_slices_Grow_byte : Code := (Try.f33.body).getD .skip
noncomputable def g_slices_Grow_byte : Cfg := { sh := shs, fsh := fshs, results := [.tmp 4], hint := fun _ _ => none, ord := fun _ => none, pre := fun _ => [], un := fun _ _ _ => false }
set_option maxRecDepth 100000 in
theorem r_slices_Grow_byte (Aa0 : Option Addr) (na0 : Nat) (ca0 : Nat) (a1 : Int) {I : Ctx} {h : Mem} {Q : Value → Mem → Prop}
  (hh : holds Try.prog 33 I (cl_ Q)
   (.ite (decide ((a1 : Int) < 0))
    (.stuck)
    (.ite (decide ((IntKind.wrap .i64 (a1 - (IntKind.wrap .i64 (((ca0 : Nat) : Int) - ((na0 : Nat) : Int)))) : Int) > 0))
     (.rd (Instr.sliceAt 27 (.slice Aa0 na0 ca0) none (some (.int .i64 ((ca0 : Nat) : Int))) none) (.one (.sc (.sl))) fun l1 =>
      (.nx (builtin .append #[27, 3] 27 #[false, false] #[.slice ((l1 0).A) ((l1 0).n) ((l1 0).c), .int .i64 (IntKind.wrap .i64 (a1 - (IntKind.wrap .i64 (((ca0 : Nat) : Int) - ((na0 : Nat) : Int)))))]) (.one (.sc (.sl))) fun l2 =>
       (.rd (Instr.sliceAt 27 (.slice ((l2 0).A) ((l2 0).n) ((l2 0).c)) none (some (.int .i64 ((na0 : Nat) : Int))) none) (.one (.sc (.sl))) fun l3 =>
        (.done (.slice ((l3 0).A) ((l3 0).n) ((l3 0).c))))))
     (.done (.slice Aa0 na0 ca0)))) h) : Fn Try.prog 33 #[.slice Aa0 na0 ca0, .int .i64 a1] I h Q :=
  Wp.fn (args := [.slice Aa0 na0 ca0, .int .i64 a1]) Try.func33 rfl (by kernel_rfl) (of_tree (cfg := g_slices_Grow_byte) 1000 (by kernel_rfl) Try.func33 rfl Try.checked.mixed hh)
theorem ca_slices_Grow_byte : callable Try.prog 33 := ⟨_, Try.func33, by kernel_rfl, by kernel_rfl⟩
/-! ### num_put: function 34 of Go -/
abbrev F_num_put : FuncId := 34
noncomputable def c_num_put : Code := (Try.f34.body).getD .skip
noncomputable def g_num_put : Cfg := { sh := shs, fsh := fshs, results := [.tmp 4], hint := fun r i => match r, i with | 5, 8 => some (true, .one (.sc (.int .u32))) | _, _ => none, ord := fun _ => none, pre := fun _ => [], un := fun _ _ _ => false }
noncomputable def k_num_put_1 : List Item := [.code (bd (bd (sr (sl (sr (sr c_num_put)))))), .inLoop (bd (bd (sr (sl (sr (sr c_num_put)))))), .inBlock 0, .code (sr (sr (sr c_num_put)))]
noncomputable def t_num_put_1 (a0 : Int) (a1 : Int) (Ay5 : Option Addr) (ny5 : Nat) (cy5 : Nat) (x10 : Int) (u : Nat → Value) : List Value := [.int .u32 a0, .int .i64 a1, undef, undef, (u 4), .slice Ay5 ny5 cy5, (u 6), (u 7), (u 8), .int .i64 a1, .int .i64 x10, (u 11), (u 12), (u 13), (u 14), (u 15), (u 16), (u 17), (u 18), (u 19), (u 20), (u 21), (u 22), (u 23), (u 24), (u 25)]
set_option maxRecDepth 100000 in
theorem r_num_put (a0 : Int) (a1 : Int) {I : Ctx} {h : Mem} {Q : Value → Mem → Prop}
  (hh : holds Try.prog 34 I (cl_ Q)
   (.sem (Instr.makeSlice 27 (.int .i64 a1) (.int .i64 a1)) (.one (.sc (.sl))) fun l1 =>
    (.stop k_num_put_1 (t_num_put_1 a0 a1 ((l1 0).A) ((l1 0).n) ((l1 0).c) 0 (jl [(4, .slice none 0 0), (6, undef), (7, .int .i64 a1), (8, .slice ((l1 0).A) ((l1 0).n) ((l1 0).c)), (11, undef), (12, undef), (13, undef), (14, undef), (15, undef), (16, undef), (17, undef), (18, undef), (19, undef), (20, undef), (21, undef), (22, undef), (23, undef), (24, undef), (25, undef)])))) h) : Fn Try.prog 34 #[.int .u32 a0, .int .i64 a1] I h Q :=
  Wp.fn (args := [.int .u32 a0, .int .i64 a1]) Try.func34 rfl (by kernel_rfl) (of_tree (cfg := g_num_put) 1000 (by kernel_rfl) Try.func34 rfl Try.checked.mixed hh)
theorem ca_num_put : callable Try.prog 34 := ⟨_, Try.func34, by kernel_rfl, by kernel_rfl⟩
set_option maxRecDepth 100000 in
theorem r_num_put_1 (a0 : Int) (a1 : Int) (Ay5 : Option Addr) (ny5 : Nat) (cy5 : Nat) (x10 : Int) (u : Nat → Value) {I : Ctx} {h : Mem} {Q : Value → Mem → Prop}
  (hh : holds Try.prog 34 I Q
   (.ite (decide ((x10 : Int) < a1))
    (.rdn (binN .shr 22 (.int .u32 a0) (.int .i64 (IntKind.wrap .i64 (8 * x10)))) (.one (.sc (.int .u32))) fun l2 =>
     (.rd (Instr.indexAt 27 (.slice Ay5 ny5 cy5) (.int .i64 (IntKind.wrap .i64 ((IntKind.wrap .i64 (a1 - 1)) - x10)))) (.one (.sc (.padr))) fun l3 =>
      (.unit (Instr.storeAt 5 (.pointer (some ((l3 0).a))) (.int .u8 (IntKind.wrap .u8 ((l2 0).i))))
       (.stop k_num_put_1 (t_num_put_1 a0 a1 Ay5 ny5 cy5 (IntKind.wrap .i64 (x10 + 1)) (jl [(4, (u 4)), (6, .int .i64 x10), (7, (u 7)), (8, (u 8)), (11, .bool (decide ((x10 : Int) < a1))), (12, .int .i64 x10), (13, .slice Ay5 ny5 cy5), (14, .int .i64 a1), (15, .int .i64 (IntKind.wrap .i64 (a1 - 1))), (16, .int .i64 x10), (17, .int .i64 (IntKind.wrap .i64 ((IntKind.wrap .i64 (a1 - 1)) - x10))), (18, .int .u32 a0), (19, .int .i64 x10), (20, .int .i64 (IntKind.wrap .i64 (8 * x10))), (21, .int .u32 ((l2 0).i)), (22, .int .u8 (IntKind.wrap .u8 ((l2 0).i))), (23, .pointer (some ((l3 0).a))), (24, .int .i64 (IntKind.wrap .i64 (x10 + 1))), (25, (u 25))]))))))
    (.done (.slice Ay5 ny5 cy5))) h) : Wp Try.prog 34 k_num_put_1 (t_num_put_1 a0 a1 Ay5 ny5 cy5 x10 u) I h Q :=
  of_tree (cfg := g_num_put) 1000 (by kernel_rfl) Try.func34 rfl Try.checked.mixed hh
/-! ### num_Put16: function 35 of Go -/
abbrev F_num_Put16 : FuncId := 35
noncomputable def c_num_Put16 : Code := (Try.f35.body).getD .skip
noncomputable def g_num_Put16 : Cfg := { sh := shs, fsh := fshs, results := [.tmp 2], hint := fun _ _ => none, ord := fun _ => none, pre := fun _ => [], un := fun _ _ _ => false }
set_option maxRecDepth 100000 in
theorem r_num_Put16 (a0 : Int) {I : Ctx} {h : Mem} {Q : Value → Mem → Prop}
  (hh : holds Try.prog 35 I (cl_ Q)
   (.call 34 [.int .u32 (IntKind.wrap .u32 a0), .int .i64 2] (.one (.sc (.sl))) fun l1 => -- num_put
    (.done (.slice ((l1 0).A) ((l1 0).n) ((l1 0).c)))) h) : Fn Try.prog 35 #[.int .u16 a0] I h Q :=
  Wp.fn (args := [.int .u16 a0]) Try.func35 rfl (by kernel_rfl) (of_tree (cfg := g_num_Put16) 1000 (by kernel_rfl) Try.func35 rfl Try.checked.mixed hh)
theorem ca_num_Put16 : callable Try.prog 35 := ⟨_, Try.func35, by kernel_rfl, by kernel_rfl⟩
/-! ### slices_Clone_byte: function 36 of Go -/
abbrev F_slices_Clone_byte : FuncId := 36
noncomputable def c_slices_Clone_byte : Code := (Try.f36.body).getD .skip
noncomputable def g_slices_Clone_byte : Cfg := { sh := shs, fsh := fshs, results := [.tmp 2], hint := fun r i => match r, i with | 1, 1 => some (true, .one (.sc (.bool))) | _, _ => none, ord := fun _ => none, pre := fun _ => [], un := fun _ _ _ => false }
set_option maxRecDepth 100000 in
theorem r_slices_Clone_byte (Aa0 : Option Addr) (na0 : Nat) (ca0 : Nat) {I : Ctx} {h : Mem} {Q : Value → Mem → Prop}
  (hh : holds Try.prog 36 I (cl_ Q)
   (.rdn (eqN .eql 27 (.tmp 0) (.const (.slice none 0 0)) (.slice Aa0 na0 ca0) (.slice none 0 0)) (.one (.sc (.bool))) fun l1 =>
    (.ite ((l1 0).b)
     (.done (.slice none 0 0))
     (.sem (Instr.buildSlice 27 0 #[]) (.one (.sc (.row 0))) fun l2 =>
      (.nx (builtin .append #[27, 27] 27 #[false, false] #[.slice (some ⟨(l2 0).n, 0, none⟩) 0 0, .slice Aa0 na0 ca0]) (.one (.sc (.sl))) fun l3 =>
       (.done (.slice ((l3 0).A) ((l3 0).n) ((l3 0).c))))))) h) : Fn Try.prog 36 #[.slice Aa0 na0 ca0] I h Q :=
  Wp.fn (args := [.slice Aa0 na0 ca0]) Try.func36 rfl (by kernel_rfl) (of_tree (cfg := g_slices_Clone_byte) 1000 (by kernel_rfl) Try.func36 rfl Try.checked.mixed hh)
theorem ca_slices_Clone_byte : callable Try.prog 36 := ⟨_, Try.func36, by kernel_rfl, by kernel_rfl⟩
/-! ### num_Sum: function 37 of Go -/
abbrev F_num_Sum : FuncId := 37
noncomputable def c_num_Sum : Code := (Try.f37.body).getD .skip
noncomputable def g_num_Sum : Cfg := { sh := shs, fsh := fshs, results := [.tmp 2], hint := fun r i => match r, i with | 5, 7 => some (true, .one (.sc (.int .u64))) | _, _ => none, ord := fun _ => none, pre := fun _ => [], un := fun _ _ _ => false }
noncomputable def k_num_Sum_1 : List Item := [.code (bd (bd (sr (sl (sr (bd (sr c_num_Sum))))))), .inLoop (bd (bd (sr (sl (sr (bd (sr c_num_Sum))))))), .inBlock 0, .code (sr (sr (bd (sr c_num_Sum)))), .inScope (bd (sr c_num_Sum))]
noncomputable def t_num_Sum_1 (Aa0 : Option Addr) (na0 : Nat) (ca0 : Nat) (x3 : Int) (x8 : Int) (u : Nat → Value) : List Value := [(u 0), undef, (u 2), .int .u64 x3, (u 4), (u 5), .slice Aa0 na0 ca0, .int .i64 ((na0 : Nat) : Int), .int .i64 x8, (u 9), (u 10), (u 11), (u 12), (u 13), (u 14), (u 15), (u 16), (u 17), (u 18), (u 19), (u 20), (u 21), (u 22), (u 23), (u 24), (u 25), (u 26), (u 27), (u 28), (u 29), (u 30), (u 31), (u 32)]
noncomputable def k_num_Sum_2 : List Item := [.code (sr (sr (sr (bd (sr c_num_Sum))))), .inScope (bd (sr c_num_Sum))]
noncomputable def t_num_Sum_2 (x3 : Int) (u : Nat → Value) : List Value := [(u 0), undef, (u 2), .int .u64 x3, (u 4), (u 5), (u 6), (u 7), (u 8), (u 9), (u 10), (u 11), (u 12), (u 13), (u 14), (u 15), (u 16), (u 17), (u 18), (u 19), (u 20), (u 21), (u 22), (u 23), (u 24), (u 25), (u 26), (u 27), (u 28), (u 29), (u 30), (u 31), (u 32)]
noncomputable def k_num_Sum_3 : List Item := [.code (sl (sl (sr (sr (sr (bd (sr c_num_Sum))))))), .code (sr (sl (sr (sr (sr (bd (sr c_num_Sum))))))), .code (sr (sr (sr (sr (bd (sr c_num_Sum)))))), .inScope (bd (sr c_num_Sum))]
noncomputable def t_num_Sum_3 (x3 : Int) (u : Nat → Value) : List Value := [(u 0), undef, (u 2), .int .u64 x3, (u 4), (u 5), (u 6), (u 7), (u 8), (u 9), (u 10), (u 11), (u 12), (u 13), (u 14), (u 15), (u 16), (u 17), (u 18), (u 19), (u 20), (u 21), (u 22), (u 23), (u 24), (u 25), (u 26), (u 27), (u 28), (u 29), (u 30), (u 31), (u 32)]
set_option maxRecDepth 100000 in
theorem r_num_Sum (Aa0 : Option Addr) (na0 : Nat) (ca0 : Nat) {I : Ctx} {h : Mem} {Q : Value → Mem → Prop}
  (hh : holds Try.prog 37 I (cl_ Q)
   (.stop k_num_Sum_1 (t_num_Sum_1 Aa0 na0 ca0 0 0 (jl [(0, .slice Aa0 na0 ca0), (2, .int .u16 0), (4, undef), (5, undef), (9, undef), (10, undef), (11, undef), (12, undef), (13, undef), (14, undef), (15, undef), (16, undef), (17, undef), (18, undef), (19, undef), (20, undef), (21, undef), (22, undef), (23, undef), (24, undef), (25, undef), (26, undef), (27, undef), (28, undef), (29, undef), (30, undef), (31, undef), (32, undef)]))) h) : Fn Try.prog 37 #[.slice Aa0 na0 ca0] I h Q :=
  Wp.fn (args := [.slice Aa0 na0 ca0]) Try.func37 rfl (by kernel_rfl) (of_tree (cfg := g_num_Sum) 1000 (by kernel_rfl) Try.func37 rfl Try.checked.mixed hh)
theorem ca_num_Sum : callable Try.prog 37 := ⟨_, Try.func37, by kernel_rfl, by kernel_rfl⟩
set_option maxRecDepth 100000 in
theorem r_num_Sum_1 (Aa0 : Option Addr) (na0 : Nat) (ca0 : Nat) (x3 : Int) (x8 : Int) (u : Nat → Value) {I : Ctx} {h : Mem} {Q : Value → Mem → Prop}
  (hh : holds Try.prog 37 I Q
   (.ite (decide ((x8 : Int) < ((na0 : Nat) : Int)))
    (.rd (Instr.indexAt 27 (.slice Aa0 na0 ca0) (.int .i64 x8)) (.one (.sc (.padr))) fun l1 =>
     (.rd (Instr.loadAt 5 (.pointer (some ((l1 0).a)))) (.one (.sc (.int .u8))) fun l2 =>
      (.rdn (binN .shl 68 (.int .u64 (IntKind.wrap .u64 ((l2 0).i))) (.int .i64 (IntKind.wrap .i64 (8 * (IntKind.wrap .i64 (1 - (Int.tmod x8 2))))))) (.one (.sc (.int .u64))) fun l3 =>
       (.stop k_num_Sum_1 (t_num_Sum_1 Aa0 na0 ca0 (IntKind.wrap .u64 (x3 + ((l3 0).i))) (IntKind.wrap .i64 (x8 + 1)) (jl [(0, (u 0)), (2, (u 2)), (4, .int .i64 x8), (5, .int .u8 ((l2 0).i)), (9, .bool (decide ((x8 : Int) < ((na0 : Nat) : Int)))), (10, .int .i64 x8), (11, .pointer (some ((l1 0).a))), (12, .int .u8 ((l2 0).i)), (13, .int .u64 x3), (14, .int .u8 ((l2 0).i)), (15, .int .u64 (IntKind.wrap .u64 ((l2 0).i))), (16, .int .i64 x8), (17, .int .i64 (Int.tmod x8 2)), (18, .int .i64 (IntKind.wrap .i64 (1 - (Int.tmod x8 2)))), (19, .int .i64 (IntKind.wrap .i64 (8 * (IntKind.wrap .i64 (1 - (Int.tmod x8 2)))))), (20, .int .u64 ((l3 0).i)), (21, .int .u64 (IntKind.wrap .u64 (x3 + ((l3 0).i)))), (22, .int .i64 (IntKind.wrap .i64 (x8 + 1))), (23, (u 23)), (24, (u 24)), (25, (u 25)), (26, (u 26)), (27, (u 27)), (28, (u 28)), (29, (u 29)), (30, (u 30)), (31, (u 31)), (32, (u 32))]))))))
    (.stop k_num_Sum_2 (t_num_Sum_2 x3 (jl [(0, (u 0)), (2, (u 2)), (4, (u 4)), (5, (u 5)), (6, .slice Aa0 na0 ca0), (7, .int .i64 ((na0 : Nat) : Int)), (8, .int .i64 x8), (9, .bool (decide ((x8 : Int) < ((na0 : Nat) : Int)))), (10, (u 10)), (11, (u 11)), (12, (u 12)), (13, (u 13)), (14, (u 14)), (15, (u 15)), (16, (u 16)), (17, (u 17)), (18, (u 18)), (19, (u 19)), (20, (u 20)), (21, (u 21)), (22, (u 22)), (23, (u 23)), (24, (u 24)), (25, (u 25)), (26, (u 26)), (27, (u 27)), (28, (u 28)), (29, (u 29)), (30, (u 30)), (31, (u 31)), (32, (u 32))])))) h) : Wp Try.prog 37 k_num_Sum_1 (t_num_Sum_1 Aa0 na0 ca0 x3 x8 u) I h Q :=
  of_tree (cfg := g_num_Sum) 1000 (by kernel_rfl) Try.func37 rfl Try.checked.mixed hh
set_option maxRecDepth 100000 in
theorem r_num_Sum_2 (x3 : Int) (u : Nat → Value) {I : Ctx} {h : Mem} {Q : Value → Mem → Prop}
  (hh : holds Try.prog 37 I Q
   (.ite (decide ((x3 : Int) > 65535))
    (.stop k_num_Sum_3 (t_num_Sum_3 (IntKind.wrap .u64 ((bitop .and .u64 x3 65535) + (Int.fdiv x3 (2 ^ 16)))) (jl [(0, (u 0)), (2, (u 2)), (4, (u 4)), (5, (u 5)), (6, (u 6)), (7, (u 7)), (8, (u 8)), (9, (u 9)), (10, (u 10)), (11, (u 11)), (12, (u 12)), (13, (u 13)), (14, (u 14)), (15, (u 15)), (16, (u 16)), (17, (u 17)), (18, (u 18)), (19, (u 19)), (20, (u 20)), (21, (u 21)), (22, (u 22)), (23, .int .u64 x3), (24, .bool (decide ((x3 : Int) > 65535))), (25, .int .u64 x3), (26, .int .u64 (bitop .and .u64 x3 65535)), (27, .int .u64 x3), (28, .int .u64 (Int.fdiv x3 (2 ^ 16))), (29, .int .u64 (IntKind.wrap .u64 ((bitop .and .u64 x3 65535) + (Int.fdiv x3 (2 ^ 16))))), (30, (u 30)), (31, (u 31)), (32, (u 32))])))
    (.done (.int .u16 (bitop .xor .u16 (IntKind.max .u16) (IntKind.wrap .u16 x3))))) h) : Wp Try.prog 37 k_num_Sum_2 (t_num_Sum_2 x3 u) I h Q :=
  of_tree (cfg := g_num_Sum) 1000 (by kernel_rfl) Try.func37 rfl Try.checked.mixed hh
set_option maxRecDepth 100000 in
theorem r_num_Sum_3 (x3 : Int) (u : Nat → Value) {I : Ctx} {h : Mem} {Q : Value → Mem → Prop}
  (hh : holds Try.prog 37 I Q
   (.ite (decide ((x3 : Int) > 65535))
    (.stop k_num_Sum_3 (t_num_Sum_3 (IntKind.wrap .u64 ((bitop .and .u64 x3 65535) + (Int.fdiv x3 (2 ^ 16)))) (jl [(0, (u 0)), (2, (u 2)), (4, (u 4)), (5, (u 5)), (6, (u 6)), (7, (u 7)), (8, (u 8)), (9, (u 9)), (10, (u 10)), (11, (u 11)), (12, (u 12)), (13, (u 13)), (14, (u 14)), (15, (u 15)), (16, (u 16)), (17, (u 17)), (18, (u 18)), (19, (u 19)), (20, (u 20)), (21, (u 21)), (22, (u 22)), (23, .int .u64 x3), (24, .bool (decide ((x3 : Int) > 65535))), (25, .int .u64 x3), (26, .int .u64 (bitop .and .u64 x3 65535)), (27, .int .u64 x3), (28, .int .u64 (Int.fdiv x3 (2 ^ 16))), (29, .int .u64 (IntKind.wrap .u64 ((bitop .and .u64 x3 65535) + (Int.fdiv x3 (2 ^ 16))))), (30, (u 30)), (31, (u 31)), (32, (u 32))])))
    (.done (.int .u16 (bitop .xor .u16 (IntKind.max .u16) (IntKind.wrap .u16 x3))))) h) : Wp Try.prog 37 k_num_Sum_3 (t_num_Sum_3 x3 u) I h Q :=
  of_tree (cfg := g_num_Sum) 1000 (by kernel_rfl) Try.func37 rfl Try.checked.mixed hh
/-! ### octroiref02_May: function 38 of Go -/
abbrev F_octroiref02_May : FuncId := 38
noncomputable def c_octroiref02_May : Code := (Try.f38.body).getD .skip
def p_octroiref02_May : Nat → List (List Nat) := fun r => match r with | 1 => [[], [0], [0, 1], [0, 1, 2], [0, 1, 2, 3], [0, 1, 2, 3, 4], [0, 1, 2, 3, 4, 5], [0, 1, 2, 3, 4, 5, 6], [0, 1, 2, 3, 4, 5, 6, 7], [0, 1, 2, 3, 4, 5, 6, 7, 8], [0, 1, 2, 3, 4, 5, 6, 7, 8, 9], [0, 1, 2, 3, 4, 5, 6, 7, 8], [0, 1, 2, 3, 4, 5, 6, 7, 8, 11], [0, 1, 2, 3, 4, 5, 6, 7, 8, 11, 12], [0, 1, 2, 3, 4, 5, 6, 7, 8, 9, 10, 11, 12, 13], [0, 1, 2, 3, 4, 5, 6, 7, 8], [0, 1, 2, 3, 4, 5, 6, 7, 8, 15], [0, 1, 2, 3, 4, 5, 6, 7, 8, 9, 10, 11, 12, 13, 14, 15, 16], [0, 1, 2, 3, 4, 5, 6, 7, 8, 9, 10, 11, 12, 13, 14, 15, 16, 17], [0, 1, 2, 3, 4, 5, 6, 7, 8, 9, 10, 11, 12, 13, 14, 15, 16, 17, 18]] | _ => []
noncomputable def g_octroiref02_May : Cfg := { sh := shs, fsh := fshs, results := [.tmp 2], hint := fun _ _ => none, ord := fun r => match r with | 1 => some [0, 1, 2, 3, 4, 5, 6, 7, 8, 9, 10, 11, 12, 15, 16, 13, 14, 17, 18, 19] | _ => none, pre := p_octroiref02_May, un := unOf p_octroiref02_May }
set_option maxRecDepth 100000 in
theorem r_octroiref02_May (a0_0 : Int) (a0_1 : Int) {I : Ctx} {h : Mem} {Q : Value → Mem → Prop}
  (hh : holds Try.prog 38 I (cl_ Q)
   (.sem (Instr.box 38 (.agg #[.int .u32 a0_0, .int .i64 a0_1])) shBlk fun l1 =>
    (.rd (Instr.loadAt 3 (.pointer (some ⟨(l1 0).n, 1, none⟩))) (.one (.sc (.int .i64))) fun l2 =>
     (.ite (decide (((l2 0).i : Int) ≥ 0))
      (.rd (Instr.loadAt 3 (.pointer (some ⟨(l1 0).n, 1, none⟩))) (.one (.sc (.int .i64))) fun l3 =>
       (.ite (decide (((l3 0).i : Int) ≤ 32))
        (.rd (Instr.loadAt 22 (.pointer (some ⟨(l1 0).n, 0, none⟩))) (.one (.sc (.int .u32))) fun l4 =>
         (.rd (Instr.loadAt 3 (.pointer (some ⟨(l1 0).n, 1, none⟩))) (.one (.sc (.int .i64))) fun l5 =>
          (.rd (Instr.loadAt 22 (.pointer (some ⟨(l1 0).n, 0, none⟩))) (.one (.sc (.int .u32))) fun l6 =>
           (.call 44 [.int .i64 ((l5 0).i)] (.one (.sc (.int .u32))) fun l7 => -- octroiref02_Mask
            (.pin (vN (Instr.loadAt 22 (.pointer (some ⟨(l1 0).n, 0, none⟩)))) (.int .u32 ((l6 0).i))
             (.pin (vN (Instr.loadAt 22 (.pointer (some ⟨(l1 0).n, 0, none⟩)))) (.int .u32 ((l4 0).i))
              (.done (.bool ((bitop .and .u32 ((l4 0).i) ((l7 0).i) : Int) == ((l6 0).i))))))))))
        (.done (.bool false))))
      (.done (.bool false))))) h) : Fn Try.prog 38 #[.agg #[.int .u32 a0_0, .int .i64 a0_1]] I h Q :=
  Wp.fn (args := [.agg #[.int .u32 a0_0, .int .i64 a0_1]]) Try.func38 rfl (by kernel_rfl) (of_tree (cfg := g_octroiref02_May) 1000 (by kernel_rfl) Try.func38 rfl Try.checked.mixed hh)
theorem ca_octroiref02_May : callable Try.prog 38 := ⟨_, Try.func38, by kernel_rfl, by kernel_rfl⟩
/-! ### octroiref04_May: function 39 of Go -/
abbrev F_octroiref04_May : FuncId := 39
noncomputable def c_octroiref04_May : Code := (Try.f39.body).getD .skip
noncomputable def g_octroiref04_May : Cfg := { sh := shs, fsh := fshs, results := [.tmp 2], hint := fun _ _ => none, ord := fun _ => none, pre := fun _ => [], un := fun _ _ _ => false }
set_option maxRecDepth 100000 in
theorem r_octroiref04_May (a0_0 : Int) (a0_1 : Int) (a0_2 : Int) {I : Ctx} {h : Mem} {Q : Value → Mem → Prop}
  (hh : holds Try.prog 39 I (cl_ Q)
   (.sem (Instr.box 40 (.agg #[.int .i64 a0_0, .int .i64 a0_1, .int .i64 a0_2])) shBlk fun l1 =>
    (.rd (Instr.loadAt 3 (.pointer (some ⟨(l1 0).n, 0, none⟩))) (.one (.sc (.int .i64))) fun l2 =>
     (.ite (decide (((l2 0).i : Int) ≥ 1))
      (.rd (Instr.loadAt 3 (.pointer (some ⟨(l1 0).n, 0, none⟩))) (.one (.sc (.int .i64))) fun l3 =>
       (.ite (decide (((l3 0).i : Int) ≤ 10000000))
        (.rd (Instr.loadAt 3 (.pointer (some ⟨(l1 0).n, 1, none⟩))) (.one (.sc (.int .i64))) fun l4 =>
         (.ite (decide (((l4 0).i : Int) ≥ 0))
          (.rd (Instr.loadAt 3 (.pointer (some ⟨(l1 0).n, 1, none⟩))) (.one (.sc (.int .i64))) fun l5 =>
           (.ite (decide (((l5 0).i : Int) ≤ 16777216))
            (.rd (Instr.loadAt 3 (.pointer (some ⟨(l1 0).n, 2, none⟩))) (.one (.sc (.int .i64))) fun l6 =>
             (.ite (decide (((l6 0).i : Int) ≥ 0))
              (.rd (Instr.loadAt 3 (.pointer (some ⟨(l1 0).n, 2, none⟩))) (.one (.sc (.int .i64))) fun l7 =>
               (.done (.bool (decide (((l7 0).i : Int) ≤ 100)))))
              (.done (.bool false))))
            (.done (.bool false))))
          (.done (.bool false))))
        (.done (.bool false))))
      (.done (.bool false))))) h) : Fn Try.prog 39 #[.agg #[.int .i64 a0_0, .int .i64 a0_1, .int .i64 a0_2]] I h Q :=
  Wp.fn (args := [.agg #[.int .i64 a0_0, .int .i64 a0_1, .int .i64 a0_2]]) Try.func39 rfl (by kernel_rfl) (of_tree (cfg := g_octroiref04_May) 1000 (by kernel_rfl) Try.func39 rfl Try.checked.mixed hh)
theorem ca_octroiref04_May : callable Try.prog 39 := ⟨_, Try.func39, by kernel_rfl, by kernel_rfl⟩
/-! ### octroiref01_Put: function 40 of Go -/
abbrev F_octroiref01_Put : FuncId := 40
noncomputable def c_octroiref01_Put : Code := (Try.f40.body).getD .skip
noncomputable def g_octroiref01_Put : Cfg := { sh := shs, fsh := fshs, results := [.tmp 4], hint := fun _ _ => none, ord := fun _ => none, pre := fun _ => [], un := fun _ _ _ => false }
noncomputable def k_octroiref01_Put_1 : List Item := [.code (bd (bd (sr (sl (sr (sr c_octroiref01_Put)))))), .inLoop (bd (bd (sr (sl (sr (sr c_octroiref01_Put)))))), .inBlock 0, .code (sr (sr (sr c_octroiref01_Put)))]
noncomputable def t_octroiref01_Put_1 (Ay5 : Option Addr) (ny5 : Nat) (cy5 : Nat) (x0 : Int) (x6 : Int) (u : Nat → Value) : List Value := [.int .u32 x0, (u 1), undef, undef, (u 4), .slice Ay5 ny5 cy5, .int .i64 x6, (u 7), (u 8), (u 9), (u 10), (u 11), (u 12), (u 13), (u 14), (u 15), (u 16), (u 17), (u 18), (u 19), (u 20), (u 21), (u 22), (u 23)]
set_option maxRecDepth 100000 in
theorem r_octroiref01_Put (a0 : Int) (a1 : Int) {I : Ctx} {h : Mem} {Q : Value → Mem → Prop}
  (hh : holds Try.prog 40 I (cl_ Q)
   (.sem (Instr.makeSlice 27 (.int .i64 a1) (.int .i64 a1)) (.one (.sc (.sl))) fun l1 =>
    (.stop k_octroiref01_Put_1 (t_octroiref01_Put_1 ((l1 0).A) ((l1 0).n) ((l1 0).c) a0 (IntKind.wrap .i64 (a1 - 1)) (jl [(1, .int .i64 a1), (4, .slice none 0 0), (7, .int .i64 a1), (8, .slice ((l1 0).A) ((l1 0).n) ((l1 0).c)), (9, .int .i64 a1), (10, .int .i64 (IntKind.wrap .i64 (a1 - 1))), (11, undef), (12, undef), (13, undef), (14, undef), (15, undef), (16, undef), (17, undef), (18, undef), (19, undef), (20, undef), (21, undef), (22, undef), (23, undef)])))) h) : Fn Try.prog 40 #[.int .u32 a0, .int .i64 a1] I h Q :=
  Wp.fn (args := [.int .u32 a0, .int .i64 a1]) Try.func40 rfl (by kernel_rfl) (of_tree (cfg := g_octroiref01_Put) 1000 (by kernel_rfl) Try.func40 rfl Try.checked.mixed hh)
theorem ca_octroiref01_Put : callable Try.prog 40 := ⟨_, Try.func40, by kernel_rfl, by kernel_rfl⟩
set_option maxRecDepth 100000 in
theorem r_octroiref01_Put_1 (Ay5 : Option Addr) (ny5 : Nat) (cy5 : Nat) (x0 : Int) (x6 : Int) (u : Nat → Value) {I : Ctx} {h : Mem} {Q : Value → Mem → Prop}
  (hh : holds Try.prog 40 I Q
   (.ite (decide ((x6 : Int) ≥ 0))
    (.rd (Instr.indexAt 27 (.slice Ay5 ny5 cy5) (.int .i64 x6)) (.one (.sc (.padr))) fun l2 =>
     (.unit (Instr.storeAt 5 (.pointer (some ((l2 0).a))) (.int .u8 (IntKind.wrap .u8 (Int.tmod x0 256))))
      (.stop k_octroiref01_Put_1 (t_octroiref01_Put_1 Ay5 ny5 cy5 (IntKind.wrap .u32 (Int.tdiv x0 256)) (IntKind.wrap .i64 (x6 - 1)) (jl [(1, (u 1)), (4, (u 4)), (7, (u 7)), (8, (u 8)), (9, (u 9)), (10, (u 10)), (11, .int .i64 x6), (12, .bool (decide ((x6 : Int) ≥ 0))), (13, .int .i64 x6), (14, .int .i64 (IntKind.wrap .i64 (x6 - 1))), (15, .slice Ay5 ny5 cy5), (16, .int .i64 x6), (17, .int .u32 x0), (18, .int .u32 (Int.tmod x0 256)), (19, .int .u8 (IntKind.wrap .u8 (Int.tmod x0 256))), (20, .pointer (some ((l2 0).a))), (21, .int .u32 x0), (22, .int .u32 (IntKind.wrap .u32 (Int.tdiv x0 256))), (23, (u 23))])))))
    (.done (.slice Ay5 ny5 cy5))) h) : Wp Try.prog 40 k_octroiref01_Put_1 (t_octroiref01_Put_1 Ay5 ny5 cy5 x0 x6 u) I h Q :=
  of_tree (cfg := g_octroiref01_Put) 1000 (by kernel_rfl) Try.func40 rfl Try.checked.mixed hh
/-! ### num_get: function 41 of Go -/
abbrev F_num_get : FuncId := 41
noncomputable def c_num_get : Code := (Try.f41.body).getD .skip
noncomputable def g_num_get : Cfg := { sh := shs, fsh := fshs, results := [.tmp 6, .tmp 7], hint := fun _ _ => none, ord := fun _ => none, pre := fun _ => [], un := fun _ _ _ => false }
noncomputable def k_num_get_1 : List Item := [.code (bd (bd (sr (sl (sr (sr c_num_get)))))), .inLoop (bd (bd (sr (sl (sr (sr c_num_get)))))), .inBlock 0, .code (sr (sr (sr c_num_get)))]
noncomputable def t_num_get_1 (Ay25 : Option Addr) (ny25 : Nat) (cy25 : Nat) (y26 : Int) (x6 : Int) (x27 : Int) (u : Nat → Value) : List Value := [(u 0), (u 1), (u 2), undef, undef, undef, .int .u32 x6, (u 7), undef, (u 9), (u 10), (u 11), (u 12), (u 13), (u 14), (u 15), (u 16), (u 17), (u 18), (u 19), (u 20), (u 21), (u 22), (u 23), (u 24), .slice Ay25 ny25 cy25, .int .i64 y26, .int .i64 x27, (u 28), (u 29), (u 30), (u 31), (u 32), (u 33), (u 34), (u 35), (u 36), (u 37)]
set_option maxRecDepth 100000 in
theorem r_num_get (Aa0 : Option Addr) (na0 : Nat) (ca0 : Nat) (a1 : Int) (a2 : Int) {I : Ctx} {h : Mem} {Q : Value → Mem → Prop}
  (hh : holds Try.prog 41 I (cl_ Q)
   (.ite (decide ((a1 : Int) < 0))
    (.done (.tuple #[.int .u32 0, .bool false]))
    (.ite (decide ((a1 : Int) > (IntKind.wrap .i64 (((na0 : Nat) : Int) - a2))))
     (.done (.tuple #[.int .u32 0, .bool false]))
     (.rd (Instr.sliceAt 27 (.slice Aa0 na0 ca0) (some (.int .i64 a1)) (some (.int .i64 (IntKind.wrap .i64 (a1 + a2)))) none) (.one (.sc (.sl))) fun l1 =>
      (.stop k_num_get_1 (t_num_get_1 ((l1 0).A) ((l1 0).n) ((l1 0).c) (((l1 0).n : Nat) : Int) 0 0 (jl [(0, .slice Aa0 na0 ca0), (1, .int .i64 a1), (2, .int .i64 a2), (7, .bool false), (9, undef), (10, .int .i64 a1), (11, .bool (decide ((a1 : Int) < 0))), (12, .bool false), (13, .int .i64 a1), (14, .slice Aa0 na0 ca0), (15, .int .i64 ((na0 : Nat) : Int)), (16, .int .i64 a2), (17, .int .i64 (IntKind.wrap .i64 (((na0 : Nat) : Int) - a2))), (18, .bool (decide ((a1 : Int) > (IntKind.wrap .i64 (((na0 : Nat) : Int) - a2))))), (19, .bool (decide ((a1 : Int) > (IntKind.wrap .i64 (((na0 : Nat) : Int) - a2))))), (20, .slice Aa0 na0 ca0), (21, .int .i64 a1), (22, .int .i64 a1), (23, .int .i64 a2), (24, .int .i64 (IntKind.wrap .i64 (a1 + a2))), (28, undef), (29, undef), (30, undef), (31, undef), (32, undef), (33, undef), (34, undef), (35, undef), (36, undef), (37, undef)])))))) h) : Fn Try.prog 41 #[.slice Aa0 na0 ca0, .int .i64 a1, .int .i64 a2] I h Q :=
  Wp.fn (args := [.slice Aa0 na0 ca0, .int .i64 a1, .int .i64 a2]) Try.func41 rfl (by kernel_rfl) (of_tree (cfg := g_num_get) 1000 (by kernel_rfl) Try.func41 rfl Try.checked.mixed hh)
theorem ca_num_get : callable Try.prog 41 := ⟨_, Try.func41, by kernel_rfl, by kernel_rfl⟩
set_option maxRecDepth 100000 in
theorem r_num_get_1 (Ay25 : Option Addr) (ny25 : Nat) (cy25 : Nat) (y26 : Int) (x6 : Int) (x27 : Int) (u : Nat → Value) {I : Ctx} {h : Mem} {Q : Value → Mem → Prop}
  (hh : holds Try.prog 41 I Q
   (.ite (decide ((x27 : Int) < y26))
    (.rd (Instr.indexAt 27 (.slice Ay25 ny25 cy25) (.int .i64 x27)) (.one (.sc (.padr))) fun l2 =>
     (.rd (Instr.loadAt 5 (.pointer (some ((l2 0).a)))) (.one (.sc (.int .u8))) fun l3 =>
      (.stop k_num_get_1 (t_num_get_1 Ay25 ny25 cy25 y26 (bitop .or .u32 (IntKind.wrap .u32 (x6 * 2 ^ 8)) (IntKind.wrap .u32 ((l3 0).i))) (IntKind.wrap .i64 (x27 + 1)) (jl [(0, (u 0)), (1, (u 1)), (2, (u 2)), (7, (u 7)), (9, .int .u8 ((l3 0).i)), (10, (u 10)), (11, (u 11)), (12, (u 12)), (13, (u 13)), (14, (u 14)), (15, (u 15)), (16, (u 16)), (17, (u 17)), (18, (u 18)), (19, (u 19)), (20, (u 20)), (21, (u 21)), (22, (u 22)), (23, (u 23)), (24, (u 24)), (28, .bool (decide ((x27 : Int) < y26))), (29, .pointer (some ((l2 0).a))), (30, .int .u8 ((l3 0).i)), (31, .int .u32 x6), (32, .int .u32 (IntKind.wrap .u32 (x6 * 2 ^ 8))), (33, .int .u8 ((l3 0).i)), (34, .int .u32 (IntKind.wrap .u32 ((l3 0).i))), (35, .int .u32 (bitop .or .u32 (IntKind.wrap .u32 (x6 * 2 ^ 8)) (IntKind.wrap .u32 ((l3 0).i)))), (36, .int .i64 (IntKind.wrap .i64 (x27 + 1))), (37, (u 37))])))))
    (.done (.tuple #[.int .u32 x6, .bool true]))) h) : Wp Try.prog 41 k_num_get_1 (t_num_get_1 Ay25 ny25 cy25 y26 x6 x27 u) I h Q :=
  of_tree (cfg := g_num_get) 1000 (by kernel_rfl) Try.func41 rfl Try.checked.mixed hh
/-! ### num_Get16: function 42 of Go -/
abbrev F_num_Get16 : FuncId := 42
noncomputable def c_num_Get16 : Code := (Try.f42.body).getD .skip
noncomputable def g_num_Get16 : Cfg := { sh := shs, fsh := fshs, results := [.tmp 4, .tmp 5], hint := fun _ _ => none, ord := fun _ => none, pre := fun _ => [], un := fun _ _ _ => false }
set_option maxRecDepth 100000 in
theorem r_num_Get16 (Aa0 : Option Addr) (na0 : Nat) (ca0 : Nat) (a1 : Int) {I : Ctx} {h : Mem} {Q : Value → Mem → Prop}
  (hh : holds Try.prog 42 I (cl_ Q)
   (.call 41 [.slice Aa0 na0 ca0, .int .i64 a1, .int .i64 2] (.tup [(.sc (.int .u32)), (.sc (.bool))]) fun l1 => -- num_get
    (.done (.tuple #[.int .u16 (IntKind.wrap .u16 ((l1 0).i)), .bool ((l1 1).b)]))) h) : Fn Try.prog 42 #[.slice Aa0 na0 ca0, .int .i64 a1] I h Q :=
  Wp.fn (args := [.slice Aa0 na0 ca0, .int .i64 a1]) Try.func42 rfl (by kernel_rfl) (of_tree (cfg := g_num_Get16) 1000 (by kernel_rfl) Try.func42 rfl Try.checked.mixed hh)
theorem ca_num_Get16 : callable Try.prog 42 := ⟨_, Try.func42, by kernel_rfl, by kernel_rfl⟩
/-! ### prefix_Mask: function 43 of Go -/
abbrev F_prefix_Mask : FuncId := 43
noncomputable def c_prefix_Mask : Code := (Try.f43.body).getD .skip
noncomputable def g_prefix_Mask : Cfg := { sh := shs, fsh := fshs, results := [.tmp 2], hint := fun r i => match r, i with | 1, 4 => some (true, .one (.sc (.int .u32))) | _, _ => none, ord := fun _ => none, pre := fun _ => [], un := fun _ _ _ => false }
set_option maxRecDepth 100000 in
theorem r_prefix_Mask (a0 : Int) {I : Ctx} {h : Mem} {Q : Value → Mem → Prop}
  (hh : holds Try.prog 43 I (cl_ Q)
   (.rdn (binN .shl 22 (.int .u32 4294967295) (.int .i64 (IntKind.wrap .i64 (32 - (if (if (32 : Int) < a0 then 32 else a0 : Int) > 0 then if (32 : Int) < a0 then 32 else a0 else 0))))) (.one (.sc (.int .u32))) fun l1 =>
    (.done (.int .u32 ((l1 0).i)))) h) : Fn Try.prog 43 #[.int .i64 a0] I h Q :=
  Wp.fn (args := [.int .i64 a0]) Try.func43 rfl (by kernel_rfl) (of_tree (cfg := g_prefix_Mask) 1000 (by kernel_rfl) Try.func43 rfl Try.checked.mixed hh)
theorem ca_prefix_Mask : callable Try.prog 43 := ⟨_, Try.func43, by kernel_rfl, by kernel_rfl⟩
/-! ### octroiref02_Mask: function 44 of Go -/
abbrev F_octroiref02_Mask : FuncId := 44
noncomputable def c_octroiref02_Mask : Code := (Try.f44.body).getD .skip
noncomputable def g_octroiref02_Mask : Cfg := { sh := shs, fsh := fshs, results := [.tmp 2], hint := fun _ _ => none, ord := fun _ => none, pre := fun _ => [], un := fun _ _ _ => false }
noncomputable def k_octroiref02_Mask_1 : List Item := [.code (bd (bd (sr (sl (sr (sr (sr c_octroiref02_Mask))))))), .inLoop (bd (bd (sr (sl (sr (sr (sr c_octroiref02_Mask))))))), .inBlock 0, .code (sr (sr (sr (sr c_octroiref02_Mask))))]
noncomputable def t_octroiref02_Mask_1 (a0 : Int) (x3 : Int) (x4 : Int) (x5 : Int) (u : Nat → Value) : List Value := [.int .i64 a0, undef, (u 2), .int .u32 x3, .int .u32 x4, .int .i64 x5, (u 6), (u 7), (u 8), (u 9), (u 10), (u 11), (u 12), (u 13), (u 14), (u 15), (u 16), (u 17), (u 18), (u 19), (u 20)]
set_option maxRecDepth 100000 in
theorem r_octroiref02_Mask (a0 : Int) {I : Ctx} {h : Mem} {Q : Value → Mem → Prop}
  (hh : holds Try.prog 44 I (cl_ Q)
   (.stop k_octroiref02_Mask_1 (t_octroiref02_Mask_1 a0 0 2147483648 0 (jl [(2, .int .u32 0), (6, undef), (7, undef), (8, undef), (9, undef), (10, undef), (11, undef), (12, undef), (13, undef), (14, undef), (15, undef), (16, undef), (17, undef), (18, undef), (19, undef), (20, undef)]))) h) : Fn Try.prog 44 #[.int .i64 a0] I h Q :=
  Wp.fn (args := [.int .i64 a0]) Try.func44 rfl (by kernel_rfl) (of_tree (cfg := g_octroiref02_Mask) 1000 (by kernel_rfl) Try.func44 rfl Try.checked.mixed hh)
theorem ca_octroiref02_Mask : callable Try.prog 44 := ⟨_, Try.func44, by kernel_rfl, by kernel_rfl⟩
set_option maxRecDepth 100000 in
theorem r_octroiref02_Mask_1 (a0 : Int) (x3 : Int) (x4 : Int) (x5 : Int) (u : Nat → Value) {I : Ctx} {h : Mem} {Q : Value → Mem → Prop}
  (hh : holds Try.prog 44 I Q
   (.ite (decide ((x5 : Int) < a0))
    (.ite (decide ((x5 : Int) < 32))
     (.stop k_octroiref02_Mask_1 (t_octroiref02_Mask_1 a0 (IntKind.wrap .u32 (x3 + x4)) (IntKind.wrap .u32 (Int.tdiv x4 2)) (IntKind.wrap .i64 (x5 + 1)) (jl [(2, (u 2)), (6, .int .i64 x5), (7, .int .i64 a0), (8, .bool (decide ((x5 : Int) < a0))), (9, .bool true), (10, .int .i64 x5), (11, .bool (decide ((x5 : Int) < 32))), (12, .bool (decide ((x5 : Int) < 32))), (13, .int .i64 x5), (14, .int .i64 (IntKind.wrap .i64 (x5 + 1))), (15, .int .u32 x3), (16, .int .u32 x4), (17, .int .u32 (IntKind.wrap .u32 (x3 + x4))), (18, .int .u32 x4), (19, .int .u32 (IntKind.wrap .u32 (Int.tdiv x4 2))), (20, (u 20))])))
     (.done (.int .u32 x3)))
    (.done (.int .u32 x3))) h) : Wp Try.prog 44 k_octroiref02_Mask_1 (t_octroiref02_Mask_1 a0 x3 x4 x5 u) I h Q :=
  of_tree (cfg := g_octroiref02_Mask) 1000 (by kernel_rfl) Try.func44 rfl Try.checked.mixed hh
end Go.Proofs.YtkdakglnhipmaaaS
