/- Timers, part 5: the law's awake; TimerNil. -/
import Derived.Test.YtnjjdpeglkiifaaTi4
namespace Go.Proofs.Ytnjjdpeglkiifaa.MX
open Go Go.Proofs
set_option linter.unusedSimpArgs false
set_option linter.unusedVariables false
set_option maxHeartbeats 4000000
theorem tim_new {h0 h : Heap} {l : List HP} {t : Nat} (S : St h0 h (cellA t [.slice none 0 0] 27 :: l)) : St h0 h (timA t [] :: l) := St.tim.2 ⟨_, S.nilO.p1⟩
theorem good_nil : GoodT [] := ⟨.nil, .nil⟩
theorem awake12_ok (h : Heap) : CallsH Try.prog 15 [] h fun v h' => v = .bool true ∧ Fr h h' [] := by
  have S := St.nil h
  (refine enterK c_recouplaw12_awake (Nat.le_of_ble_eq_true rfl) fun K hK => ?_; (try simp (maxSteps := 1000000) (disch := first | omega | assumption | exact Nat.le_of_ble_eq_true rfl) only [go_sem, ↓mwp_block, simprocAttr, ir_recouplaw12_awake]))
  (refine st_alloc S ?_; clear S; intro t h S; (try simp only [splice_cons, splice_nil, List.set_cons_zero, List.set_cons_succ, Nat.zero_add, Nat.reduceAdd, List.cons_append, List.nil_append] at S); ((try clear F); have F := S.all; (try simp only [all_cons, all_nil, says_cell, and_true] at F)))
  have S := tim_new S
  (try simp (maxSteps := 1000000) (disch := first | omega | assumption | exact Nat.le_of_ble_eq_true rfl) only [go_sem, ↓mwp_block, simprocAttr])
  refine call_intro (SetT_ok 5 3 S (by simp) good_nil) ?_
  clear S F
  intro _ h S
  have e : setT [] 5 3 = [⟨3, 5⟩] := by decide
  rw [e] at S
  (try simp (maxSteps := 1000000) (disch := first | omega | assumption | exact Nat.le_of_ble_eq_true rfl) only [go_sem, ↓mwp_block, simprocAttr])
  refine call_intro (LenT_ok S) ?_
  rintro _ _ ⟨rfl, rfl⟩
  (try simp (maxSteps := 1000000) (disch := first | omega | assumption | exact Nat.le_of_ble_eq_true rfl) only [go_sem, ↓mwp_block, simprocAttr])
  refine call_intro (DueT_ok 2 S (by simp)) ?_
  clear S
  intro v h S
  rw [show dueT [⟨3, 5⟩] 2 = [] by decide, show lateT [⟨3, 5⟩] 2 = [⟨3, 5⟩] by decide] at S
  obtain ⟨A, c, rfl⟩ := S.sl
  simp only [List.map_nil, List.length_nil] at S ⊢
  (try simp (maxSteps := 1000000) (disch := first | omega | assumption | exact Nat.le_of_ble_eq_true rfl) only [go_sem, ↓mwp_block, simprocAttr])
  refine call_intro (DueT_ok 3 S.tl (by simp)) ?_
  clear S
  intro v h S
  rw [show dueT [⟨3, 5⟩] 3 = [⟨3, 5⟩] by decide, show lateT [⟨3, 5⟩] 3 = [] by decide] at S
  obtain ⟨A, c, rfl⟩ := S.sl
  simp only [List.map_cons, List.map_nil, List.length_nil, List.length_cons] at S ⊢
  (try simp (maxSteps := 1000000) (disch := first | omega | assumption | exact Nat.le_of_ble_eq_true rfl) only [go_sem, ↓mwp_block, simprocAttr])
  exact hK _ _ ⟨rfl, S.fr⟩
theorem TimerNil_ok (n d : Int) (h : Heap) (hn : -9223372036854775808 ≤ n ∧ n < 9223372036854775808) (hd : -9223372036854775808 ≤ d ∧ d < 9223372036854775808) : CallsH Try.prog 5 [.int .i64 n, .int .i64 d] h fun v h' => v = .bool true ∧ Fr h h' [] := by
  (refine enterK c_recouplaw12_TimerNil (Nat.le_of_ble_eq_true rfl) fun K hK => ?_; (try simp (maxSteps := 1000000) (disch := first | omega | assumption | exact Nat.le_of_ble_eq_true rfl) only [go_sem, ↓mwp_block, simprocAttr, ir_recouplaw12_TimerNil]))
  refine call_intro (awake12_ok h) ?_
  rintro _ h1 ⟨rfl, f1⟩
  (try simp (maxSteps := 1000000) (disch := first | omega | assumption | exact Nat.le_of_ble_eq_true rfl) only [go_sem, ↓mwp_block, simprocAttr])
  refine call_intro (Set_nil _ _ _) ?_
  rintro _ _ rfl
  (try simp (maxSteps := 1000000) (disch := first | omega | assumption | exact Nat.le_of_ble_eq_true rfl) only [go_sem, ↓mwp_block, simprocAttr])
  refine call_intro (Next_nil _) ?_
  rintro _ _ ⟨rfl, rfl⟩
  (try simp (maxSteps := 1000000) (disch := first | omega | assumption | exact Nat.le_of_ble_eq_true rfl) only [go_sem, ↓mwp_block, simprocAttr])
  refine call_intro (Day_nil _ _) ?_
  rintro _ h2 ⟨rfl, f2⟩
  (try simp (maxSteps := 1000000) (disch := first | omega | assumption | exact Nat.le_of_ble_eq_true rfl) only [go_sem, ↓mwp_block, simprocAttr])
  refine call_intro (Stop_nil _ _) ?_
  rintro _ h3 ⟨rfl, f3⟩
  (try simp (maxSteps := 1000000) (disch := first | omega | assumption | exact Nat.le_of_ble_eq_true rfl) only [go_sem, ↓mwp_block, simprocAttr])
  refine call_intro (Due_nil _ _) ?_
  rintro _ _ ⟨rfl, rfl⟩
  (try simp (maxSteps := 1000000) (disch := first | omega | assumption | exact Nat.le_of_ble_eq_true rfl) only [go_sem, ↓mwp_block, simprocAttr])
  refine call_intro (Len_nil _) ?_
  rintro _ _ ⟨rfl, rfl⟩
  (try simp (maxSteps := 1000000) (disch := first | omega | assumption | exact Nat.le_of_ble_eq_true rfl) only [go_sem, ↓mwp_block, simprocAttr])
  refine call_intro (All_nil _) ?_
  rintro _ _ ⟨rfl, rfl⟩
  (try simp (maxSteps := 1000000) (disch := first | omega | assumption | exact Nat.le_of_ble_eq_true rfl) only [go_sem, ↓mwp_block, simprocAttr])
  exact hK _ _ ⟨rfl, (f1.trans f2).trans f3⟩
end Go.Proofs.Ytnjjdpeglkiifaa.MX
