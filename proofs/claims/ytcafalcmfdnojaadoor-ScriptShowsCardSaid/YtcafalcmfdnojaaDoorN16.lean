import Derived.Test.YtcafalcmfdnojaaDoorN15
import Derived.Test.YtcafalcmfdnojaaDoorTA
set_option linter.unusedVariables false
set_option maxRecDepth 20000
namespace Go.Proofs.YtcafalcmfdnojaaDoorS
theorem ret_results {I : Ctx} {h : Mem} {τ : List Value} {y2 y3 : Nat} {A : Option Addr} {n c : Nat} {e : Int} {Q : Value → Prop} (h2 : τ.getD 2 undef = .pointer (some ⟨y2, 0, none⟩)) (h3 : τ.getD 3 undef = .pointer (some ⟨y3, 0, none⟩))
    (hA : slB y2 A n c ∈ h) (hE : erB y3 e ∈ h) (hq : Q (.tuple #[.slice A n c, .int .i64 e])) : rwp Tryd.prog I h (results Tryd.f9 ⟨τ⟩) Q := by
  refine rw_results ?_
  rw [show Tryd.f9.results.toList = [.cell 2 23, .cell 3 24] from rfl]
  simp only [List.mapM_cons, List.mapM_nil, resOne, rwp_bind, h2, h3, asAddr, rwp_pure]
  refine rw_load1 (by kernel_rfl) (cellM hA rfl) ?_
  refine rw_load1 (by kernel_rfl) (cellM hE rfl) ?_
  exact hq
theorem parse_range {I : Ctx} (hg : Glob I) {s : List UInt8} (hs : s.length ≤ 60000) (hcnt : s.count 10 ≤ 1000) {y2 y3 y4 g : Nat} {y12 : Value} (hy : y12 = .func (.func 31) #[] #[.pointer (some ⟨g, 0, none⟩)]) (u : Nat → Value) :
    Wp Tryd.prog 9 k_script_Parse_1 (t_script_Parse_1 y2 y3 y4 y12 u) I [stB g s, slB y4 none 0 0, erB y3 0, slB y2 none 0 0] (cl_ fun v h' => ParseV s v h') := by
  show Wp Tryd.prog _ (.code rcode :: k_script_Parse_3) (tauP y2 y3 y4 y12 u) I _ _
  rw [rcode_eq]
  refine Wp.rangeFunc (fn := 31) (caps := [.pointer (some ⟨g, 0, none⟩)]) rfl (by rw [← hy]; rfl) ca_strings_Lines_fn1 fun D L hl => ?_
  refine ⟨(L, .loop (loopR (tauP y2 y3 y4 y12 u) D)) :: slB y4 none 0 0 :: slB y2 none 0 0 :: erB y3 0 :: stB g s :: [], [(D, .deferred (some []))], ?_, ?_⟩
  · show ((L, Obj.loop (loopR (tauP y2 y3 y4 y12 u) D)) :: (D, Obj.deferred (some [])) :: [stB g s, slB y4 none 0 0, erB y3 0, slB y2 none 0 0]).Perm _
    unfold slB erB stB
    exact (perm_count fun D_ a_ => by simp only [Value.cells, List.count_append, List.count_cons, List.count_nil, List.nil_append, List.cons_append]; omega)
  have hlr : Live I [(D, Obj.deferred (some []))] := Live.left (g := (L, Obj.loop (loopR (tauP y2 y3 y4 y12 u) D)) :: [stB g s, slB y4 none 0 0, erB y3 0, slB y2 none 0 0]) (hl.perm (List.Perm.swap _ _ _))
  refine Fn.mono (r_strings_Lines_fn1 _ _ (h_stop fun _ => iter_loop (hg.plus hlr) s.length s [] none 0 _ _ [] [] (Nat.le_refl _) hs (by simp; exact hs) (Own.nil _ _) Pick.all)) ?_
  rintro v h1 ⟨b, hq⟩
  rw [show (fun r : List It => [] ++ r) = id by funext r; rfl, Option.map_id] at hq
  cases hra : readAll (linesL s) with
  | none =>
    rw [hra] at hq
    obtain ⟨rfl, rfl⟩ := hq
    refine ⟨0, _, rfl, by simp, ?_⟩
    refine Wp.retD (D := D) (i := 3) rfl rfl (.inr ⟨_, rfl⟩) Tryd.func9 rfl ?_
    refine ret_results (y2 := y2) (y3 := y3) (A := none) (n := 0) (c := 0) (e := 2) rfl rfl (mq1 mq0) (mq1 (mq1 mq0)) ?_
    have hpe : parseP s = ([], 2) := by
      unfold parseP
      rw [if_neg (by omega), hra]
    exact (show ∀ h, cl_ (fun v h' => ParseV s v h') (.tuple #[.slice none 0 0, .int .i64 2]) h from fun h => ⟨[], h, List.Perm.refl _, parseV_err hpe⟩) _
  | some l =>
    rw [hra] at hq
    obtain ⟨rfl, A, c, m, ho, rfl⟩ := hq
    have hpe := parse_good hcnt hra
    refine ⟨0, _, rfl, by simp [loopR], ?_⟩
    refine r_script_Parse_3 y2 y3 y4 (fun i => if i = 12 then y12 else u i) ?_
    refine holds_perm (cl_.aff _) (g := (L, .loop { loopR (tauP y2 y3 y4 y12 u) D with state := .exhausted }) :: slB y4 A l.length c :: slB y2 none 0 0 :: erB y3 0 :: (m ++ [(D, .deferred (some []))])) (List.Perm.refl _) ?_
    refine ldL (A := A) (n := l.length) (c := c) (show _ ∈ _ from mq1 mq0) rfl (by kernel_rfl) ?_
    dsimp only
    refine stU (t0 := 23) (b := y2) (off := 0) (arr := #[.slice none 0 0]) (h' := (L, .loop { loopR (tauP y2 y3 y4 y12 u) D with state := .exhausted }) :: slB y4 A l.length c :: slB y2 A l.length c :: erB y3 0 :: (m ++ [(D, .deferred (some []))])) (Upd.there (Upd.there Upd.here)) (by kernel_rfl) rfl (by simp [Value.cells]) ?_
    refine stU (t0 := 24) (b := y3) (off := 0) (arr := #[.int .i64 0]) (h' := (L, .loop { loopR (tauP y2 y3 y4 y12 u) D with state := .exhausted }) :: slB y4 A l.length c :: slB y2 A l.length c :: erB y3 0 :: (m ++ [(D, .deferred (some []))])) (Upd.there (Upd.there (Upd.there Upd.here))) (by kernel_rfl) rfl (by simp [Value.cells]) ?_
    refine h_stop fun hl2 => ?_
    have hret : k_script_Parse_5 = .code .ret :: k_script_Parse_5.tail := by kernel_rfl
    rw [hret]
    refine Wp.perm (h := (D, .deferred (some [])) :: (L, .loop { loopR (tauP y2 y3 y4 y12 u) D with state := .exhausted }) :: slB y4 A l.length c :: slB y2 A l.length c :: erB y3 0 :: m) ?_ (by unfold slB erB; exact (perm_count fun D_ a_ => by simp only [Value.cells, List.count_append, List.count_cons, List.count_nil, List.nil_append, List.cons_append]; omega))
    refine Wp.retD (D := D) (i := 0) rfl rfl (.inr ⟨_, rfl⟩) Tryd.func9 rfl ?_
    refine ret_results (y2 := y2) (y3 := y3) (A := A) (n := l.length) (c := c) (e := 0) rfl rfl (mq1 (mq1 (mq1 mq0))) (mq1 (mq1 (mq1 (mq1 mq0)))) ?_
    show cl_ (fun v h' => ParseV s v h') (.tuple #[.slice A l.length c, .int .i64 0]) _
    refine ⟨m, (D, .deferred none) :: (L, .loop { loopR (tauP y2 y3 y4 y12 u) D with state := .exhausted }) :: slB y4 A l.length c :: slB y2 A l.length c :: erB y3 0 :: [], ?_, A, c, ?_, ?_⟩
    · refine List.Perm.trans (List.Perm.refl ((D, Obj.deferred none) :: (L, Obj.loop { loopR (tauP y2 y3 y4 y12 u) D with state := .exhausted }) :: slB y4 A l.length c :: slB y2 A l.length c :: erB y3 0 :: m)) ?_
      unfold slB erB
      exact (perm_count fun D_ a_ => by simp only [Value.cells, List.count_append, List.count_cons, List.count_nil, List.nil_append, List.cons_append]; omega)
    · rw [hpe]
    · rw [hpe]; exact ho
theorem parse_spec {I : Ctx} (hg : Glob I) {s : List UInt8} (hs : s.length ≤ 60000) : Fn Tryd.prog 9 #[.string (bS s)] I [] (fun v h' => ParseV s v h') := by
  refine r_script_Parse _ ?_
  ((first | ((with_reducible show holds _ _ _ _ (.sem (Instr.alloc 23 _ _) _ _) _); refine h_alloc zb_Item fun _ _ _ => ?_) | ((with_reducible show holds _ _ _ _ (.sem (Instr.alloc 24 _ _) _ _) _); refine h_alloc zb_Errno fun _ _ _ => ?_) | ((with_reducible show holds _ _ _ _ (.rd (Instr.loadAt _ (.pointer _)) _ _) _); refine ldL (by repeat (first | exact mq0 | apply mq1 | apply mq2)) (by rfl) (by kernel_rfl) ?_) | ((with_reducible show holds _ _ _ _ (.unit (Instr.storeAt _ _ _) _) _); refine stU (by repeat (first | exact Upd.here | apply Upd.there | apply Upd.right)) (by kernel_rfl) (by rfl) (by simp [Value.cells]) ?_)); try dsimp only [getL])
  ((first | ((with_reducible show holds _ _ _ _ (.sem (Instr.alloc 23 _ _) _ _) _); refine h_alloc zb_Item fun _ _ _ => ?_) | ((with_reducible show holds _ _ _ _ (.sem (Instr.alloc 24 _ _) _ _) _); refine h_alloc zb_Errno fun _ _ _ => ?_) | ((with_reducible show holds _ _ _ _ (.rd (Instr.loadAt _ (.pointer _)) _ _) _); refine ldL (by repeat (first | exact mq0 | apply mq1 | apply mq2)) (by rfl) (by kernel_rfl) ?_) | ((with_reducible show holds _ _ _ _ (.unit (Instr.storeAt _ _ _) _) _); refine stU (by repeat (first | exact Upd.here | apply Upd.there | apply Upd.right)) (by kernel_rfl) (by rfl) (by simp [Value.cells]) ?_)); try dsimp only [getL])
  refine h_call0 (fun _ => { i := ((s.count 10 : Nat) : Int) }) ca_strings_Count (fun hl => count_fn (c := 10)) rfl ?_
  dsimp only
  refine h_ite (fun t0 => ?_) (fun t0 => ?_)
  · (repeat ((first | ((with_reducible show holds _ _ _ _ (.sem (Instr.alloc 23 _ _) _ _) _); refine h_alloc zb_Item fun _ _ _ => ?_) | ((with_reducible show holds _ _ _ _ (.sem (Instr.alloc 24 _ _) _ _) _); refine h_alloc zb_Errno fun _ _ _ => ?_) | ((with_reducible show holds _ _ _ _ (.rd (Instr.loadAt _ (.pointer _)) _ _) _); refine ldL (by repeat (first | exact mq0 | apply mq1 | apply mq2)) (by rfl) (by kernel_rfl) ?_) | ((with_reducible show holds _ _ _ _ (.unit (Instr.storeAt _ _ _) _) _); refine stU (by repeat (first | exact Upd.here | apply Upd.there | apply Upd.right)) (by kernel_rfl) (by rfl) (by simp [Value.cells]) ?_)); try dsimp only [getL]))
    refine h_loadV1 (v := .slice none 0 0) (fun _ => { A := none, n := 0, c := 0 }) (by kernel_rfl) (by apply cellM; (repeat (first | exact mq0 | apply mq1 | apply mq2)); rfl) rfl ?_
    dsimp only
    refine h_loadV1 (v := .int .i64 9) (fun _ => { i := 9 }) (by kernel_rfl) (by apply cellM; (repeat (first | exact mq0 | apply mq1 | apply mq2)); rfl) rfl ?_
    dsimp only
    refine h_end0 (parseV_err ?_)
    unfold parseP
    rw [if_pos (by simp at t0; omega)]
  have hcnt : s.count 10 ≤ 1000 := by simp at t0; omega
  ((first | ((with_reducible show holds _ _ _ _ (.sem (Instr.alloc 23 _ _) _ _) _); refine h_alloc zb_Item fun _ _ _ => ?_) | ((with_reducible show holds _ _ _ _ (.sem (Instr.alloc 24 _ _) _ _) _); refine h_alloc zb_Errno fun _ _ _ => ?_) | ((with_reducible show holds _ _ _ _ (.rd (Instr.loadAt _ (.pointer _)) _ _) _); refine ldL (by repeat (first | exact mq0 | apply mq1 | apply mq2)) (by rfl) (by kernel_rfl) ?_) | ((with_reducible show holds _ _ _ _ (.unit (Instr.storeAt _ _ _) _) _); refine stU (by repeat (first | exact Upd.here | apply Upd.there | apply Upd.right)) (by kernel_rfl) (by rfl) (by simp [Value.cells]) ?_)); try dsimp only [getL])
  refine h_call [] _ ca_strings_Lines (List.Perm.refl _) (fun hl => lines_spec) ?_
  rintro v m1 ⟨g, rfl, rfl⟩
  refine ⟨fun _ => { v := .func (.func 31) #[] #[.pointer (some ⟨g, 0, none⟩)] }, rfl, ?_⟩
  dsimp only
  refine h_stop fun hlive => ?_
  exact parse_range hg hs hcnt rfl _
end Go.Proofs.YtcafalcmfdnojaaDoorS
