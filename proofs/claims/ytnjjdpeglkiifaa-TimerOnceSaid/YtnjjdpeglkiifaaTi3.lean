/- Timers, part 3: the methods. -/
import Derived.Test.YtnjjdpeglkiifaaTi2
namespace Go.Proofs.Ytnjjdpeglkiifaa.MX
open Go Go.Proofs
set_option linter.unusedSimpArgs false
set_option linter.unusedVariables false
set_option maxHeartbeats 4000000
def timA (t : Nat) (L : List Tm) : HP := exA fun s => starA (cellA t [s] 27) (offA tmE 2 30 s L)
def GoodT (L : List Tm) : Prop := L.Pairwise aheadT ∧ L.Pairwise (fun a b => a.num ≠ b.num)
def isNum (n : Int) (x : Tm) : Bool := decide (x.num = n)
def without (L : List Tm) (n : Int) : List Tm := L.filter fun x => !isNum n x
section
variable {h0 h : Heap} {l : List HP} {t : Nat} {L : List Tm}
theorem St.tim : St h0 h (timA t L :: l) ↔ ∃ s, St h0 h (cellA t [s] 27 :: offA tmE 2 30 s L :: l) := by
  unfold timA
  rw [St.ex]
  simp only [St.star]
theorem St.timO {s : Value} (S : St h0 h (cellA t [s] 27 :: offA tmE 2 30 s L :: l)) : ∃ A c, s = .slice A L.length c := S.p1.offSl
theorem numAsk {h : Heap} {q : Nat} {n : Int} (hq : blk h q = some ([.int .i64 n], 3, (0, 0))) :
    Asks Try.prog tmE h [] (.func (.func 97) #[] (List.toArray [.pointer (some ⟨q, 0, none⟩)])) (isNum n) := by
  refine ⟨_, _, rfl, ok_timer_Timers_at_1, fun x h' hf => ?_⟩
  have hr : rd1 h' (.pointer (some ⟨q, 0, none⟩)) = some (.int .i64 n) := by rw [hf.rd1 (blk_lt hq) (by simp), rd1_blk hq]; rfl
  have S := St.nil h'
  simp only [tmE]
  (refine enterK c_timer_Timers_at_1 (Nat.le_of_ble_eq_true rfl) fun K hK => ?_; (try simp (maxSteps := 1000000) (disch := first | omega | assumption | exact Nat.le_of_ble_eq_true rfl) only [go_sem, ↓mwp_block, simprocAttr, ir_timer_Timers_at_1]))
  (refine st_alloc S ?_; clear S; intro p h S; (try simp only [splice_cons, splice_nil, List.set_cons_zero, List.set_cons_succ, Nat.zero_add, Nat.reduceAdd, List.cons_append, List.nil_append] at S); ((try clear F); have F := S.all; (try simp only [all_cons, all_nil, says_cell, and_true] at F)))
  have hr : rd1 h (.pointer (some ⟨q, 0, none⟩)) = some (.int .i64 n) := by rw [S.fr.rd1 (Nat.lt_of_lt_of_le (blk_lt hq) hf.size) (by simp)]; exact hr
  (try simp (maxSteps := 1000000) (disch := first | omega | assumption | exact Nat.le_of_ble_eq_true rfl) only [go_sem, ↓mwp_block, simprocAttr, F, hr])
  exact hK _ _ ⟨by rw [dcd_eq]; rfl, S.fr⟩
theorem at_nil (n : Int) (h : Heap) : CallsH Try.prog 61 [.pointer none, .int .i64 n] h fun v h' => v = .int .i64 (-1) ∧ Fr h h' [] := by
  have S := St.nil h
  (refine enterK c_timer_Timers_at (Nat.le_of_ble_eq_true rfl) fun K hK => ?_; (try simp (maxSteps := 1000000) (disch := first | omega | assumption | exact Nat.le_of_ble_eq_true rfl) only [go_sem, ↓mwp_block, simprocAttr, ir_timer_Timers_at]))
  (refine st_alloc S ?_; clear S; intro q h S; (try simp only [splice_cons, splice_nil, List.set_cons_zero, List.set_cons_succ, Nat.zero_add, Nat.reduceAdd, List.cons_append, List.nil_append] at S); ((try clear F); have F := S.all; (try simp only [all_cons, all_nil, says_cell, and_true] at F)))
  (try simp (maxSteps := 1000000) (disch := first | omega | assumption | exact Nat.le_of_ble_eq_true rfl) only [go_sem, ↓mwp_block, simprocAttr, F])
  exact hK _ _ ⟨rfl, S.fr⟩
theorem at_ok (n : Int) (S : St h0 h (timA t L :: l)) (hL : L.length < 1000000) : CallsH Try.prog 61 [.pointer (some ⟨t, 0, none⟩), .int .i64 n] h fun v h' => v = .int .i64 (idxOf (isNum n) L 0) ∧ St h0 h' (timA t L :: l) := by
  obtain ⟨s, S⟩ := St.tim.1 S
  obtain ⟨A, c, rfl⟩ := S.timO
  (refine enterK c_timer_Timers_at (Nat.le_of_ble_eq_true rfl) fun K hK => ?_; (try simp (maxSteps := 1000000) (disch := first | omega | assumption | exact Nat.le_of_ble_eq_true rfl) only [go_sem, ↓mwp_block, simprocAttr, ir_timer_Timers_at]))
  (refine st_alloc S ?_; clear S; intro q h S; (try simp only [splice_cons, splice_nil, List.set_cons_zero, List.set_cons_succ, Nat.zero_add, Nat.reduceAdd, List.cons_append, List.nil_append] at S); ((try clear F); have F := S.all; (try simp only [all_cons, all_nil, says_cell, and_true] at F)))
  (try simp (maxSteps := 1000000) (disch := first | omega | assumption | exact Nat.le_of_ble_eq_true rfl) only [go_sem, ↓mwp_block, simprocAttr, F])
  refine call_intro (indexFunc_ok c_slices_IndexFunc_timer_Timer_timer_Timer (S.p2.offArr tmE_len) rfl (by omega) (numAsk S.blk)) ?_
  rintro v h' ⟨rfl, hf⟩
  (try simp (maxSteps := 1000000) (disch := first | omega | assumption | exact Nat.le_of_ble_eq_true rfl) only [go_sem, ↓mwp_block, simprocAttr])
  exact hK _ _ ⟨rfl, St.tim.2 ⟨_, (S.frame hf).tl⟩⟩
theorem Len_nil (h : Heap) : CallsH Try.prog 24 [.pointer none] h fun v h' => v = .int .i64 0 ∧ h' = h := by
  (refine enterK c_timer_Timers_Len (Nat.le_of_ble_eq_true rfl) fun K hK => ?_; (try simp (maxSteps := 1000000) (disch := first | omega | assumption | exact Nat.le_of_ble_eq_true rfl) only [go_sem, ↓mwp_block, simprocAttr, ir_timer_Timers_Len]))
  exact hK _ _ ⟨rfl, rfl⟩
theorem LenT_ok (S : St h0 h (timA t L :: l)) : CallsH Try.prog 24 [.pointer (some ⟨t, 0, none⟩)] h fun v h' => v = .int .i64 L.length ∧ h' = h := by
  obtain ⟨s, S⟩ := St.tim.1 S
  obtain ⟨A, c, rfl⟩ := S.timO
  ((try clear F); have F := S.all; (try simp only [all_cons, all_nil, says_cell, and_true] at F))
  (refine enterK c_timer_Timers_Len (Nat.le_of_ble_eq_true rfl) fun K hK => ?_; (try simp (maxSteps := 1000000) (disch := first | omega | assumption | exact Nat.le_of_ble_eq_true rfl) only [go_sem, ↓mwp_block, simprocAttr, ir_timer_Timers_Len]))
  (try simp (maxSteps := 1000000) (disch := first | omega | assumption | exact Nat.le_of_ble_eq_true rfl) only [go_sem, ↓mwp_block, simprocAttr, F])
  exact hK _ _ ⟨rfl, rfl⟩
theorem All_nil (h : Heap) : CallsH Try.prog 25 [.pointer none] h fun v h' => v = .slice none 0 0 ∧ h' = h := by
  (refine enterK c_timer_Timers_All (Nat.le_of_ble_eq_true rfl) fun K hK => ?_; (try simp (maxSteps := 1000000) (disch := first | omega | assumption | exact Nat.le_of_ble_eq_true rfl) only [go_sem, ↓mwp_block, simprocAttr, ir_timer_Timers_All]))
  exact hK _ _ ⟨rfl, rfl⟩
theorem AllT_ok (S : St h0 h (timA t L :: l)) (hL : L.length < 1000000) : CallsH Try.prog 25 [.pointer (some ⟨t, 0, none⟩)] h fun v h' => St h0 h' (ownA tmE 2 30 v L :: timA t L :: l) := by
  obtain ⟨s, S⟩ := St.tim.1 S
  obtain ⟨A, c, rfl⟩ := S.timO
  ((try clear F); have F := S.all; (try simp only [all_cons, all_nil, says_cell, and_true] at F))
  (refine enterK c_timer_Timers_All (Nat.le_of_ble_eq_true rfl) fun K hK => ?_; (try simp (maxSteps := 1000000) (disch := first | omega | assumption | exact Nat.le_of_ble_eq_true rfl) only [go_sem, ↓mwp_block, simprocAttr, ir_timer_Timers_All]))
  (try simp (maxSteps := 1000000) (disch := first | omega | assumption | exact Nat.le_of_ble_eq_true rfl) only [go_sem, ↓mwp_block, simprocAttr, F])
  refine call_intro (clone_ok (T := 30) (sz := 2) (bytes := 16) c_slices_Clone_timer_Timer_timer_Timer tmE_len (by omega) tmE_plain rfl (S.p1.offArr tmE_len) rfl ?_ (by omega) (by omega)) ?_
  · rintro rfl
    rcases S.p1.off with ⟨_, h1⟩ | ⟨b, cap, pre, cs, post, h1, _⟩
    · exact h1
    · cases h1
  rintro v h' ⟨ho, hf, _⟩
  (try simp (maxSteps := 1000000) (disch := first | omega | assumption | exact Nat.le_of_ble_eq_true rfl) only [go_sem, ↓mwp_block, simprocAttr])
  have S' := S.ownNew hf ho
  exact hK _ _ (St.tim.2 ⟨_, S'.p2.p2⟩).p1
theorem CloneT_ok (S : St h0 h (timA t L :: l)) (hL : L.length < 1000000) : CallsH Try.prog 26 [.pointer (some ⟨t, 0, none⟩)] h fun v h' => ∃ t', v = .pointer (some ⟨t', 0, none⟩) ∧ St h0 h' (timA t' L :: timA t L :: l) := by
  obtain ⟨s, S⟩ := St.tim.1 S
  obtain ⟨A, c, rfl⟩ := S.timO
  ((try clear F); have F := S.all; (try simp only [all_cons, all_nil, says_cell, and_true] at F))
  (refine enterK c_timer_Timers_Clone (Nat.le_of_ble_eq_true rfl) fun K hK => ?_; (try simp (maxSteps := 1000000) (disch := first | omega | assumption | exact Nat.le_of_ble_eq_true rfl) only [go_sem, ↓mwp_block, simprocAttr, ir_timer_Timers_Clone]))
  (try simp (maxSteps := 1000000) (disch := first | omega | assumption | exact Nat.le_of_ble_eq_true rfl) only [go_sem, ↓mwp_block, simprocAttr, F])
  refine call_intro (clone_ok (T := 30) (sz := 2) (bytes := 16) c_slices_Clone_timer_Timer_timer_Timer tmE_len (by omega) tmE_plain rfl (S.p1.offArr tmE_len) rfl ?_ (by omega) (by omega)) ?_
  · rintro rfl
    rcases S.p1.off with ⟨_, h1⟩ | ⟨b, cap, pre, cs, post, h1, _⟩
    · exact h1
    · cases h1
  rintro v h' ⟨ho, hf, _⟩
  (try simp (maxSteps := 1000000) (disch := first | omega | assumption | exact Nat.le_of_ble_eq_true rfl) only [go_sem, ↓mwp_block, simprocAttr])
  have S := (S.ownNew hf ho).toOff
  obtain ⟨A', c', rfl⟩ := S.offSl
  (try simp (maxSteps := 1000000) (disch := first | omega | assumption | exact Nat.le_of_ble_eq_true rfl) only [go_sem, ↓mwp_block, simprocAttr])
  (refine st_alloc S ?_; clear S; intro u h S; (try simp only [splice_cons, splice_nil, List.set_cons_zero, List.set_cons_succ, Nat.zero_add, Nat.reduceAdd, List.cons_append, List.nil_append] at S); ((try clear F); have F := S.all; (try simp only [all_cons, all_nil, says_cell, and_true] at F)))
  (try simp (maxSteps := 1000000) (disch := first | omega | assumption | exact Nat.le_of_ble_eq_true rfl) only [go_sem, ↓mwp_block, simprocAttr])
  exact hK _ _ ⟨u, rfl, St.tim.2 ⟨_, (St.tim.2 ⟨_, S.p3.p3⟩).p2.p2⟩⟩
theorem Next_nil (h : Heap) : CallsH Try.prog 23 [.pointer none] h fun v h' => v = .tuple #[.int .i64 0, .bool false] ∧ h' = h := by
  (refine enterK c_timer_Timers_Next (Nat.le_of_ble_eq_true rfl) fun K hK => ?_; (try simp (maxSteps := 1000000) (disch := first | omega | assumption | exact Nat.le_of_ble_eq_true rfl) only [go_sem, ↓mwp_block, simprocAttr, ir_timer_Timers_Next]))
  exact hK _ _ ⟨rfl, rfl⟩
theorem NextT_ok (S : St h0 h (timA t L :: l)) : CallsH Try.prog 23 [.pointer (some ⟨t, 0, none⟩)] h fun v h' => v = .tuple #[.int .i64 ((L.head?.map Tm.day).getD 0), .bool (dcd (L ≠ []))] ∧ h' = h := by
  obtain ⟨s, S⟩ := St.tim.1 S
  obtain ⟨A, c, rfl⟩ := S.timO
  ((try clear F); have F := S.all; (try simp only [all_cons, all_nil, says_cell, and_true] at F))
  cases L with
  | nil =>
    simp only [List.length_nil] at S F
    (refine enterK c_timer_Timers_Next (Nat.le_of_ble_eq_true rfl) fun K hK => ?_; (try simp (maxSteps := 1000000) (disch := first | omega | assumption | exact Nat.le_of_ble_eq_true rfl) only [go_sem, ↓mwp_block, simprocAttr, ir_timer_Timers_Next]))
    (try simp (maxSteps := 1000000) (disch := first | omega | assumption | exact Nat.le_of_ble_eq_true rfl) only [go_sem, ↓mwp_block, simprocAttr, F])
    exact hK _ _ ⟨by simp [dcd_false], rfl⟩
  | cons x L =>
    obtain ⟨b, off, rfl, hr⟩ := S.p1.offArr tmE_len 0 (by simp)
    simp only [Nat.zero_mul, Nat.add_zero] at hr
    have hr0 : rd1 h (.pointer (some ⟨b, off, none⟩)) = some (.int .i64 x.day) := rd1_part hr 0 (by omega)
    (refine enterK c_timer_Timers_Next (Nat.le_of_ble_eq_true rfl) fun K hK => ?_; (try simp (maxSteps := 1000000) (disch := first | omega | assumption | exact Nat.le_of_ble_eq_true rfl) only [go_sem, ↓mwp_block, simprocAttr, ir_timer_Timers_Next]))
    (try simp (maxSteps := 1000000) (disch := first | omega | assumption | exact Nat.le_of_ble_eq_true rfl) only [go_sem, ↓mwp_block, simprocAttr, F, hr0])
    exact hK _ _ ⟨by simp [dcd_true], rfl⟩
end
end Go.Proofs.Ytnjjdpeglkiifaa.MX
