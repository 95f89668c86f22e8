import Derived.Test.YtcafalcmfdnojaaDoorN13
import Derived.Test.YtcafalcmfdnojaaDoorSJ
import Derived.Test.YtcafalcmfdnojaaDoorTA
set_option linter.unusedVariables false
set_option maxRecDepth 20000
namespace Go.Proofs.YtcafalcmfdnojaaDoorS
/-! Lines, one by one. -/
theorem lines_spec {I : Ctx} {s : List UInt8} : Fn Tryd.prog 19 #[.string (bS s)] I [] (fun v h' => ∃ g, v = .func (.func 31) #[] #[.pointer (some ⟨g, 0, none⟩)] ∧ h' = [(g, .cells #[.string (bS s)] 9 (0, 0))]) := by
  refine r_strings_Lines _ ?_
  refine h_box fun g hg hI => ?_
  dsimp only
  exact h_end (h1 := [_]) (List.Perm.refl _) ⟨g, rfl, rfl⟩
theorem lines_hit {s : List UInt8} {i : Nat} (h : Lib.indexByte s 10 = (i : Int)) : i < s.length ∧ linesL s = s.take (i + 1) :: linesL (s.drop (i + 1)) := by
  obtain ⟨h1, h2⟩ := Lib.indexByte_some h
  obtain ⟨hlt, he⟩ := List.getElem?_eq_some_iff.1 h1
  have hno : 10 ∉ s.take i := by
    intro hm
    obtain ⟨k, hk⟩ := List.getElem?_of_mem hm
    rw [List.getElem?_take] at hk
    split at hk
    · rename_i hki; exact h2 k hki hk
    · cases hk
  have hsp : s = s.take i ++ 10 :: s.drop (i + 1) := by
    conv => lhs; rw [← List.take_append_drop i s, List.drop_eq_getElem_cons hlt, he]
  have ht : s.take (i + 1) = s.take i ++ [10] := by rw [List.take_add_one, h1]; rfl
  refine ⟨hlt, ?_⟩
  rw [ht, ← lines_line hno, ← hsp]
theorem lines_miss {s : List UInt8} (h : Lib.indexByte s 10 < 0) (hs : s ≠ []) : linesL s = [s] := by
  have hge := Lib.indexByte_ge s 10
  have h1 : Lib.indexByte s 10 = -1 := by omega
  refine lines_one hs fun hm => ?_
  obtain ⟨k, hk⟩ := List.getElem?_of_mem hm
  exact Lib.indexByte_none h1 k hk
/-! A round. -/
noncomputable def rcode : Code := bd (sr (sl (sr (sr (sr c_script_Parse)))))
theorem rcode_eq : rcode = .rangeFunc (.tmp 12) #[13] (ra rcode) (rb rcode) := by kernel_rfl
noncomputable def loopR (τ : List Value) (D : Nat) : Loop := { state := .ready, pending := none, fn := 9, tmps := ⟨τ⟩, params := #[13], assign := ra rcode, body := rb rcode, defers := D }
def slB (y : Nat) (A : Option Addr) (n c : Nat) : Nat × Obj := (y, .cells #[.slice A n c] 23 (0, 0))
def erB (y : Nat) (e : Int) : Nat × Obj := (y, .cells #[.int .i64 e] 24 (0, 0))
/-- Behind a round, or behind them all. -/
def RQ (L y2 y3 y4 : Nat) (r : Loop) (res : Option (List It)) (b : Bool) (h' : Mem) : Prop := match res with
  | some its => b = true ∧ ∃ A c m, OwnT A its.length c its m ∧ h' = [(L, .loop r), slB y4 A its.length c, slB y2 none 0 0, erB y3 0] ++ m
  | none => b = false ∧ h' = [(L, .loop { r with state := .done, pending := some .ret }), slB y2 none 0 0, erB y3 2]
theorem round_spec {I : Ctx} (hg : Glob I) {l : List UInt8} (hs : l.length ≤ 60000) {L y2 y3 y4 D : Nat} {τ : List Value} {its : List It} (hil : its.length ≤ 60000) {A : Option Addr} {c : Nat} {m : Mem} (ho : OwnT A its.length c its m) (u : Nat → Value) :
    Wp Tryd.prog { fn := 9, rd := some L } k_script_Parse_2 (t_script_Parse_2 y2 y3 y4 (bS l) u) I ([(L, .loop (loopR τ D)), slB y4 A its.length c, slB y2 none 0 0, erB y3 0] ++ m)
      (cl_ fun v h' => ∃ b, v = .bool b ∧ RQ L y2 y3 y4 (loopR τ D) ((readP l).map (fun x => its ++ [x])) b h') := by
  refine r_script_Parse_2 _ _ _ _ _ ?_
  refine h_stop fun hl2 => ?_
  refine Wp.beginRound (l := L) (i := 0) (r := loopR τ D) rfl rfl rfl ?_
  refine r_script_Parse_6 _ _ _ _ _ ?_
  show holds _ _ _ _ _ ((L, .loop { loopR τ D with state := .busy }) :: slB y4 A its.length c :: slB y2 none 0 0 :: erB y3 0 :: m)
  refine h_call [] _ ca_script_read (List.Perm.refl _) (fun hl => read_spec (hg.plus hl) hs) ?_
  rintro v m3 ⟨⟨x, hx⟩, rfl⟩
  unfold slB erB
  rcases hx with ⟨hx, rfl⟩ | ⟨hx, rfl⟩
  · refine ⟨getL [{ i := x.k }, { i := x.a }, { i := x.b }, { i := x.c }, { b := true }], rfl, ?_⟩
    dsimp only [getL]
    ((first | refine h_box fun _ _ _ => ?_ | ((with_reducible show holds _ _ _ _ (.sem (Instr.alloc 35 _ _) _ _) _); refine h_alloc zb_Item_35 fun _ _ _ => ?_) | ((with_reducible show holds _ _ _ _ (.rd (Instr.loadAt _ (.pointer _)) _ _) _); first | refine ldL (by repeat (first | exact mq0 | apply mq1 | apply mq2)) (by rfl) (by kernel_rfl) ?_ | refine la0 (by repeat (first | exact mq0 | apply mq1 | apply mq2)) (by rfl) (by kernel_rfl) ?_) | ((with_reducible show holds _ _ _ _ (.unit (Instr.storeAt _ _ _) _) _); refine stU (by repeat (first | exact Upd.here | apply Upd.there | apply Upd.right)) (by kernel_rfl) (by rfl) (by simp [Value.cells]) ?_)); try dsimp only [getL])
    ((first | refine h_box fun _ _ _ => ?_ | ((with_reducible show holds _ _ _ _ (.sem (Instr.alloc 35 _ _) _ _) _); refine h_alloc zb_Item_35 fun _ _ _ => ?_) | ((with_reducible show holds _ _ _ _ (.rd (Instr.loadAt _ (.pointer _)) _ _) _); first | refine ldL (by repeat (first | exact mq0 | apply mq1 | apply mq2)) (by rfl) (by kernel_rfl) ?_ | refine la0 (by repeat (first | exact mq0 | apply mq1 | apply mq2)) (by rfl) (by kernel_rfl) ?_) | ((with_reducible show holds _ _ _ _ (.unit (Instr.storeAt _ _ _) _) _); refine stU (by repeat (first | exact Upd.here | apply Upd.there | apply Upd.right)) (by kernel_rfl) (by rfl) (by simp [Value.cells]) ?_)); try dsimp only [getL])
    refine h_no rfl ?_
    ((first | refine h_box fun _ _ _ => ?_ | ((with_reducible show holds _ _ _ _ (.sem (Instr.alloc 35 _ _) _ _) _); refine h_alloc zb_Item_35 fun _ _ _ => ?_) | ((with_reducible show holds _ _ _ _ (.rd (Instr.loadAt _ (.pointer _)) _ _) _); first | refine ldL (by repeat (first | exact mq0 | apply mq1 | apply mq2)) (by rfl) (by kernel_rfl) ?_ | refine la0 (by repeat (first | exact mq0 | apply mq1 | apply mq2)) (by rfl) (by kernel_rfl) ?_) | ((with_reducible show holds _ _ _ _ (.unit (Instr.storeAt _ _ _) _) _); refine stU (by repeat (first | exact Upd.here | apply Upd.there | apply Upd.right)) (by kernel_rfl) (by rfl) (by simp [Value.cells]) ?_)); try dsimp only [getL])
    ((first | refine h_box fun _ _ _ => ?_ | ((with_reducible show holds _ _ _ _ (.sem (Instr.alloc 35 _ _) _ _) _); refine h_alloc zb_Item_35 fun _ _ _ => ?_) | ((with_reducible show holds _ _ _ _ (.rd (Instr.loadAt _ (.pointer _)) _ _) _); first | refine ldL (by repeat (first | exact mq0 | apply mq1 | apply mq2)) (by rfl) (by kernel_rfl) ?_ | refine la0 (by repeat (first | exact mq0 | apply mq1 | apply mq2)) (by rfl) (by kernel_rfl) ?_) | ((with_reducible show holds _ _ _ _ (.unit (Instr.storeAt _ _ _) _) _); refine stU (by repeat (first | exact Upd.here | apply Upd.there | apply Upd.right)) (by kernel_rfl) (by rfl) (by simp [Value.cells]) ?_)); try dsimp only [getL])
    refine h_row (e := 35) ⟨itC x⟩ (by kernel_rfl) fun g2 hg2 hI2 => ?_
    dsimp only
    refine h_append (cl_.aff _) eb_Item (by kernel_rfl) (cs2 := itCs [x]) (fun _ => ⟨_, rfl, cellsM' (by repeat (first | exact mq0 | apply mq1 | apply mq2)) rfl⟩) (by simp) rfl (itCs_plain _) (m := m) (by repeat (first | exact Pick.here | exact Pick.one | exact Pick.all | apply Pick.two | apply Pick.cons | apply Pick.app)) ho (by omega) (by omega) ?_
    intro A' c' m' ho'
    dsimp only
    rw [← itCs_append] at ho'
    refine stU (by repeat (first | exact Upd.here | apply Upd.there | apply Upd.right)) (by kernel_rfl) (by rfl) (by simp [Value.cells]) ?_
    refine h_stop fun hl2 => ?_
    have e : its.length + 1 = (its ++ [x]).length := by simp
    rw [e] at ho'
    refine Wp.perm (h := [(L, .loop { loopR τ D with state := .busy })] ++ ([slB y4 A' (its.length + 1) c'] ++ ([slB y2 none 0 0] ++ ([erB y3 0] ++ m'))) ++ _) ?_ (List.Perm.symm (show Pick _ _ _ from (by repeat (first | exact Pick.here | exact Pick.one | exact Pick.all | apply Pick.two | apply Pick.cons | apply Pick.app))))
    refine Wp.roundEnd (l := L) (i := 0) (r := { loopR τ D with state := .busy }) rfl rfl ?_
    refine ⟨[(L, .loop (loopR τ D)), slB y4 A' (its ++ [x]).length c', slB y2 none 0 0, erB y3 0] ++ m', ?g, ?p, true, rfl, ?q⟩
    case p =>
      rw [← e]
      exact List.Perm.refl _
    case q =>
      rw [hx]
      exact ⟨rfl, A', c', m', ho', rfl⟩
  · refine ⟨getL [{ i := x.k }, { i := x.a }, { i := x.b }, { i := x.c }, { b := false }], rfl, ?_⟩
    dsimp only [getL]
    ((first | refine h_box fun _ _ _ => ?_ | ((with_reducible show holds _ _ _ _ (.sem (Instr.alloc 35 _ _) _ _) _); refine h_alloc zb_Item_35 fun _ _ _ => ?_) | ((with_reducible show holds _ _ _ _ (.rd (Instr.loadAt _ (.pointer _)) _ _) _); first | refine ldL (by repeat (first | exact mq0 | apply mq1 | apply mq2)) (by rfl) (by kernel_rfl) ?_ | refine la0 (by repeat (first | exact mq0 | apply mq1 | apply mq2)) (by rfl) (by kernel_rfl) ?_) | ((with_reducible show holds _ _ _ _ (.unit (Instr.storeAt _ _ _) _) _); refine stU (by repeat (first | exact Upd.here | apply Upd.there | apply Upd.right)) (by kernel_rfl) (by rfl) (by simp [Value.cells]) ?_)); try dsimp only [getL])
    ((first | refine h_box fun _ _ _ => ?_ | ((with_reducible show holds _ _ _ _ (.sem (Instr.alloc 35 _ _) _ _) _); refine h_alloc zb_Item_35 fun _ _ _ => ?_) | ((with_reducible show holds _ _ _ _ (.rd (Instr.loadAt _ (.pointer _)) _ _) _); first | refine ldL (by repeat (first | exact mq0 | apply mq1 | apply mq2)) (by rfl) (by kernel_rfl) ?_ | refine la0 (by repeat (first | exact mq0 | apply mq1 | apply mq2)) (by rfl) (by kernel_rfl) ?_) | ((with_reducible show holds _ _ _ _ (.unit (Instr.storeAt _ _ _) _) _); refine stU (by repeat (first | exact Upd.here | apply Upd.there | apply Upd.right)) (by kernel_rfl) (by rfl) (by simp [Value.cells]) ?_)); try dsimp only [getL])
    refine h_yes rfl ?_
    ((first | refine h_box fun _ _ _ => ?_ | ((with_reducible show holds _ _ _ _ (.sem (Instr.alloc 35 _ _) _ _) _); refine h_alloc zb_Item_35 fun _ _ _ => ?_) | ((with_reducible show holds _ _ _ _ (.rd (Instr.loadAt _ (.pointer _)) _ _) _); first | refine ldL (by repeat (first | exact mq0 | apply mq1 | apply mq2)) (by rfl) (by kernel_rfl) ?_ | refine la0 (by repeat (first | exact mq0 | apply mq1 | apply mq2)) (by rfl) (by kernel_rfl) ?_) | ((with_reducible show holds _ _ _ _ (.unit (Instr.storeAt _ _ _) _) _); refine stU (by repeat (first | exact Upd.here | apply Upd.there | apply Upd.right)) (by kernel_rfl) (by rfl) (by simp [Value.cells]) ?_)); try dsimp only [getL])
    ((first | refine h_box fun _ _ _ => ?_ | ((with_reducible show holds _ _ _ _ (.sem (Instr.alloc 35 _ _) _ _) _); refine h_alloc zb_Item_35 fun _ _ _ => ?_) | ((with_reducible show holds _ _ _ _ (.rd (Instr.loadAt _ (.pointer _)) _ _) _); first | refine ldL (by repeat (first | exact mq0 | apply mq1 | apply mq2)) (by rfl) (by kernel_rfl) ?_ | refine la0 (by repeat (first | exact mq0 | apply mq1 | apply mq2)) (by rfl) (by kernel_rfl) ?_) | ((with_reducible show holds _ _ _ _ (.unit (Instr.storeAt _ _ _) _) _); refine stU (by repeat (first | exact Upd.here | apply Upd.there | apply Upd.right)) (by kernel_rfl) (by rfl) (by simp [Value.cells]) ?_)); try dsimp only [getL])
    refine h_stop fun hl2 => ?_
    refine Wp.perm (h := [(L, .loop { loopR τ D with state := .busy })] ++ ([slB y2 none 0 0] ++ [erB y3 2]) ++ _) ?_ (List.Perm.symm (show Pick _ _ _ from (by repeat (first | exact Pick.here | exact Pick.one | exact Pick.all | apply Pick.two | apply Pick.cons | apply Pick.app))))
    have hret : k_script_Parse_7 = .code .ret :: k_script_Parse_7.tail := by kernel_rfl
    rw [hret]
    refine Wp.roundRet (l := L) (i := 0) (r := { loopR τ D with state := .busy }) rfl rfl ?_
    refine ⟨[(L, .loop { loopR τ D with state := .done, pending := some .ret }), slB y2 none 0 0, erB y3 2], ?g, ?p, false, rfl, ?q⟩
    case p => exact List.Perm.refl _
    case q =>
      rw [hx]
      exact ⟨rfl, rfl⟩
end Go.Proofs.YtcafalcmfdnojaaDoorS
