/- Policies: which are right, by the program and by the document. -/
import Derived.Test.YtackopkhelochaaCd1
namespace Go.Proofs.Ytackopkhelochaa.MX
open Go Go.Proofs
set_option linter.unusedSimpArgs false
set_option linter.unusedVariables false

/-- A policy's cells. -/
structure Pol where
  w : Int
  fin : Bool
  exc : Bool
  cre : Bool
  f0 : Int
  f1 : Int
  f2 : Int
  f3 : Int
  s0 : Int
  t0 : Int
  s1 : Int
  t1 : Int
  s2 : Int
  t2 : Int
  s3 : Int
  t3 : Int
  deriving DecidableEq, Inhabited
def Pol.enc (p : Pol) : List Value := [.int .i64 p.w, .bool p.fin, .bool p.exc, .bool p.cre, .int .i64 p.f0, .int .i64 p.f1, .int .i64 p.f2, .int .i64 p.f3, .int .i64 p.s0, .int .i64 p.t0, .int .i64 p.s1, .int .i64 p.t1, .int .i64 p.s2, .int .i64 p.t2, .int .i64 p.s3, .int .i64 p.t3]
def Pol.zero : Pol := ⟨0, false, false, false, 0, 0, 0, 0, 0, 0, 0, 0, 0, 0, 0, 0⟩
theorem Pol.enc_len (p : Pol) : p.enc.length = 16 := rfl
theorem Pol.enc_plain (p : Pol) : plainCells p.enc = true := rfl
def okPts (n : Int) : Prop := 0 ≤ n ∧ n ≤ 10000
def okGrade (s t : Int) : Prop := okPts s ∧ (t = 0 ∧ s = 0 ∨ 3 ≤ t ∧ t ≤ 5)
def Pol.right (p : Pol) : Prop := (okPts p.f0 ∧ okPts p.f1 ∧ okPts p.f2 ∧ okPts p.f3) ∧ (okGrade p.s0 p.t0 ∧ okGrade p.s1 p.t1 ∧ okGrade p.s2 p.t2 ∧ okGrade p.s3 p.t3) ∧ 0 ≤ p.w ∧ p.w ≤ 1000

theorem cond_decn {p : Prop} {X Y : Prop} {s : Tag X} {t : Tag Y} (hx : ¬ p → X) (hy : p → Y) : condT (.bool (!dcd p)) X Y s t := by
  by_cases h : p
  · rw [dcd_true h]; simp only [condT, condW, Bool.not_true, Bool.false_eq_true, if_false]; exact hy h
  · rw [dcd_false h]; simp only [condT, condW, Bool.not_false, if_true]; exact hx h

theorem points_ok (n : Int) (h : Heap) : CallsH Try.prog 87 [.int .i64 n] h fun v h' => v = .bool (dcd (okPts n)) ∧ h' = h := by
  by_cases hp : okPts n
  · (refine enterK c_table_points (Nat.le_of_ble_eq_true rfl) fun K hK => ?_; (try simp (disch := first | omega | assumption | exact Nat.le_of_ble_eq_true rfl) only [go_sem, ↓mwp_block, Nat.reduceEqDiff, Nat.reduceAdd, Nat.reduceMul, Nat.reduceSub, Nat.reduceLeDiff, Nat.reduceLT, reduceIte, Int.reduceLT, Int.reduceLE, Int.reduceAdd, Int.reduceSub, Int.reduceMul, Int.reduceEq, Int.reduceToNat, Int.reduceNeg, Int.reduceNe, ir_table_points]))
    have := hp.1
    have := hp.2
    (try simp (disch := first | omega | assumption | exact Nat.le_of_ble_eq_true rfl) only [go_sem, ↓mwp_block, Nat.reduceEqDiff, Nat.reduceAdd, Nat.reduceMul, Nat.reduceSub, Nat.reduceLeDiff, Nat.reduceLT, reduceIte, Int.reduceLT, Int.reduceLE, Int.reduceAdd, Int.reduceSub, Int.reduceMul, Int.reduceEq, Int.reduceToNat, Int.reduceNeg, Int.reduceNe])
    exact hK _ _ ⟨by rw [dcd_true hp], rfl⟩
  · by_cases h0 : 0 ≤ n
    · have : ¬ n ≤ 10000 := fun h1 => hp ⟨h0, h1⟩
      (refine enterK c_table_points (Nat.le_of_ble_eq_true rfl) fun K hK => ?_; (try simp (disch := first | omega | assumption | exact Nat.le_of_ble_eq_true rfl) only [go_sem, ↓mwp_block, Nat.reduceEqDiff, Nat.reduceAdd, Nat.reduceMul, Nat.reduceSub, Nat.reduceLeDiff, Nat.reduceLT, reduceIte, Int.reduceLT, Int.reduceLE, Int.reduceAdd, Int.reduceSub, Int.reduceMul, Int.reduceEq, Int.reduceToNat, Int.reduceNeg, Int.reduceNe, ir_table_points]))
      (try simp (disch := first | omega | assumption | exact Nat.le_of_ble_eq_true rfl) only [go_sem, ↓mwp_block, Nat.reduceEqDiff, Nat.reduceAdd, Nat.reduceMul, Nat.reduceSub, Nat.reduceLeDiff, Nat.reduceLT, reduceIte, Int.reduceLT, Int.reduceLE, Int.reduceAdd, Int.reduceSub, Int.reduceMul, Int.reduceEq, Int.reduceToNat, Int.reduceNeg, Int.reduceNe])
      exact hK _ _ ⟨by rw [dcd_false hp], rfl⟩
    · (refine enterK c_table_points (Nat.le_of_ble_eq_true rfl) fun K hK => ?_; (try simp (disch := first | omega | assumption | exact Nat.le_of_ble_eq_true rfl) only [go_sem, ↓mwp_block, Nat.reduceEqDiff, Nat.reduceAdd, Nat.reduceMul, Nat.reduceSub, Nat.reduceLeDiff, Nat.reduceLT, reduceIte, Int.reduceLT, Int.reduceLE, Int.reduceAdd, Int.reduceSub, Int.reduceMul, Int.reduceEq, Int.reduceToNat, Int.reduceNeg, Int.reduceNe, ir_table_points]))
      (try simp (disch := first | omega | assumption | exact Nat.le_of_ble_eq_true rfl) only [go_sem, ↓mwp_block, Nat.reduceEqDiff, Nat.reduceAdd, Nat.reduceMul, Nat.reduceSub, Nat.reduceLeDiff, Nat.reduceLT, reduceIte, Int.reduceLT, Int.reduceLE, Int.reduceAdd, Int.reduceSub, Int.reduceMul, Int.reduceEq, Int.reduceToNat, Int.reduceNeg, Int.reduceNe, h0])
      exact hK _ _ ⟨by rw [dcd_false hp], rfl⟩
theorem refPoints_ok (n : Int) (h : Heap) : CallsH Try.prog 85 [.int .i64 n] h fun v h' => v = .bool (dcd (okPts n)) ∧ h' = h := by
  by_cases hp : okPts n
  · (refine enterK c_recoupref05_points (Nat.le_of_ble_eq_true rfl) fun K hK => ?_; (try simp (disch := first | omega | assumption | exact Nat.le_of_ble_eq_true rfl) only [go_sem, ↓mwp_block, Nat.reduceEqDiff, Nat.reduceAdd, Nat.reduceMul, Nat.reduceSub, Nat.reduceLeDiff, Nat.reduceLT, reduceIte, Int.reduceLT, Int.reduceLE, Int.reduceAdd, Int.reduceSub, Int.reduceMul, Int.reduceEq, Int.reduceToNat, Int.reduceNeg, Int.reduceNe, ir_recoupref05_points]))
    have := hp.1
    have := hp.2
    (try simp (disch := first | omega | assumption | exact Nat.le_of_ble_eq_true rfl) only [go_sem, ↓mwp_block, Nat.reduceEqDiff, Nat.reduceAdd, Nat.reduceMul, Nat.reduceSub, Nat.reduceLeDiff, Nat.reduceLT, reduceIte, Int.reduceLT, Int.reduceLE, Int.reduceAdd, Int.reduceSub, Int.reduceMul, Int.reduceEq, Int.reduceToNat, Int.reduceNeg, Int.reduceNe])
    exact hK _ _ ⟨by rw [dcd_true hp], rfl⟩
  · by_cases h0 : 0 ≤ n
    · have : ¬ n ≤ 10000 := fun h1 => hp ⟨h0, h1⟩
      (refine enterK c_recoupref05_points (Nat.le_of_ble_eq_true rfl) fun K hK => ?_; (try simp (disch := first | omega | assumption | exact Nat.le_of_ble_eq_true rfl) only [go_sem, ↓mwp_block, Nat.reduceEqDiff, Nat.reduceAdd, Nat.reduceMul, Nat.reduceSub, Nat.reduceLeDiff, Nat.reduceLT, reduceIte, Int.reduceLT, Int.reduceLE, Int.reduceAdd, Int.reduceSub, Int.reduceMul, Int.reduceEq, Int.reduceToNat, Int.reduceNeg, Int.reduceNe, ir_recoupref05_points]))
      (try simp (disch := first | omega | assumption | exact Nat.le_of_ble_eq_true rfl) only [go_sem, ↓mwp_block, Nat.reduceEqDiff, Nat.reduceAdd, Nat.reduceMul, Nat.reduceSub, Nat.reduceLeDiff, Nat.reduceLT, reduceIte, Int.reduceLT, Int.reduceLE, Int.reduceAdd, Int.reduceSub, Int.reduceMul, Int.reduceEq, Int.reduceToNat, Int.reduceNeg, Int.reduceNe])
      exact hK _ _ ⟨by rw [dcd_false hp], rfl⟩
    · (refine enterK c_recoupref05_points (Nat.le_of_ble_eq_true rfl) fun K hK => ?_; (try simp (disch := first | omega | assumption | exact Nat.le_of_ble_eq_true rfl) only [go_sem, ↓mwp_block, Nat.reduceEqDiff, Nat.reduceAdd, Nat.reduceMul, Nat.reduceSub, Nat.reduceLeDiff, Nat.reduceLT, reduceIte, Int.reduceLT, Int.reduceLE, Int.reduceAdd, Int.reduceSub, Int.reduceMul, Int.reduceEq, Int.reduceToNat, Int.reduceNeg, Int.reduceNe, ir_recoupref05_points]))
      (try simp (disch := first | omega | assumption | exact Nat.le_of_ble_eq_true rfl) only [go_sem, ↓mwp_block, Nat.reduceEqDiff, Nat.reduceAdd, Nat.reduceMul, Nat.reduceSub, Nat.reduceLeDiff, Nat.reduceLT, reduceIte, Int.reduceLT, Int.reduceLE, Int.reduceAdd, Int.reduceSub, Int.reduceMul, Int.reduceEq, Int.reduceToNat, Int.reduceNeg, Int.reduceNe, h0])
      exact hK _ _ ⟨by rw [dcd_false hp], rfl⟩

theorem grade_ok (s t : Int) (h : Heap) : CallsH Try.prog 88 [.agg (List.toArray [.int .i64 s, .int .i64 t])] h fun v h' => v = .bool (dcd (okGrade s t)) ∧ Fr h h' [] := by
  have S := St.nil h
  (refine enterK c_table_rightGrade (Nat.le_of_ble_eq_true rfl) fun K hK => ?_; (try simp (disch := first | omega | assumption | exact Nat.le_of_ble_eq_true rfl) only [go_sem, ↓mwp_block, Nat.reduceEqDiff, Nat.reduceAdd, Nat.reduceMul, Nat.reduceSub, Nat.reduceLeDiff, Nat.reduceLT, reduceIte, Int.reduceLT, Int.reduceLE, Int.reduceAdd, Int.reduceSub, Int.reduceMul, Int.reduceEq, Int.reduceToNat, Int.reduceNeg, Int.reduceNe, ir_table_rightGrade]))
  (refine st_alloc S ?_; clear S; intro b h S; (try simp only [splice_cons, splice_nil, List.set_cons_zero, List.set_cons_succ, Nat.zero_add, Nat.reduceAdd, List.cons_append, List.nil_append] at S); ((try clear F); have F := S.all; (try simp only [all_cons, all_nil, says_cell, and_true] at F)))
  (try simp (disch := first | omega | assumption | exact Nat.le_of_ble_eq_true rfl) only [go_sem, ↓mwp_block, Nat.reduceEqDiff, Nat.reduceAdd, Nat.reduceMul, Nat.reduceSub, Nat.reduceLeDiff, Nat.reduceLT, reduceIte, Int.reduceLT, Int.reduceLE, Int.reduceAdd, Int.reduceSub, Int.reduceMul, Int.reduceEq, Int.reduceToNat, Int.reduceNeg, Int.reduceNe, F])
  refine call_intro (points_ok s _) ?_
  rintro _ _ ⟨rfl, rfl⟩
  by_cases hs : okPts s
  · by_cases h1 : t = 0
    · by_cases h2 : s = 0
      · (try simp (disch := first | omega | assumption | exact Nat.le_of_ble_eq_true rfl) only [go_sem, ↓mwp_block, Nat.reduceEqDiff, Nat.reduceAdd, Nat.reduceMul, Nat.reduceSub, Nat.reduceLeDiff, Nat.reduceLT, reduceIte, Int.reduceLT, Int.reduceLE, Int.reduceAdd, Int.reduceSub, Int.reduceMul, Int.reduceEq, Int.reduceToNat, Int.reduceNeg, Int.reduceNe, F])
        exact hK _ _ ⟨by rw [dcd_true]; exact ⟨hs, .inl ⟨h1, h2⟩⟩, S.fr⟩
      · (try simp (disch := first | omega | assumption | exact Nat.le_of_ble_eq_true rfl) only [go_sem, ↓mwp_block, Nat.reduceEqDiff, Nat.reduceAdd, Nat.reduceMul, Nat.reduceSub, Nat.reduceLeDiff, Nat.reduceLT, reduceIte, Int.reduceLT, Int.reduceLE, Int.reduceAdd, Int.reduceSub, Int.reduceMul, Int.reduceEq, Int.reduceToNat, Int.reduceNeg, Int.reduceNe, F])
        exact hK _ _ ⟨by rw [dcd_false]; rintro ⟨_, h | h⟩ <;> omega, S.fr⟩
    · by_cases h3 : 3 ≤ t
      · by_cases h5 : t ≤ 5
        · (try simp (disch := first | omega | assumption | exact Nat.le_of_ble_eq_true rfl) only [go_sem, ↓mwp_block, Nat.reduceEqDiff, Nat.reduceAdd, Nat.reduceMul, Nat.reduceSub, Nat.reduceLeDiff, Nat.reduceLT, reduceIte, Int.reduceLT, Int.reduceLE, Int.reduceAdd, Int.reduceSub, Int.reduceMul, Int.reduceEq, Int.reduceToNat, Int.reduceNeg, Int.reduceNe, F])
          exact hK _ _ ⟨by rw [dcd_true ⟨hs, .inr ⟨h3, h5⟩⟩], S.fr⟩
        · (try simp (disch := first | omega | assumption | exact Nat.le_of_ble_eq_true rfl) only [go_sem, ↓mwp_block, Nat.reduceEqDiff, Nat.reduceAdd, Nat.reduceMul, Nat.reduceSub, Nat.reduceLeDiff, Nat.reduceLT, reduceIte, Int.reduceLT, Int.reduceLE, Int.reduceAdd, Int.reduceSub, Int.reduceMul, Int.reduceEq, Int.reduceToNat, Int.reduceNeg, Int.reduceNe, F])
          exact hK _ _ ⟨by rw [dcd_false]; rintro ⟨_, h | h⟩ <;> omega, S.fr⟩
      · (try simp (disch := first | omega | assumption | exact Nat.le_of_ble_eq_true rfl) only [go_sem, ↓mwp_block, Nat.reduceEqDiff, Nat.reduceAdd, Nat.reduceMul, Nat.reduceSub, Nat.reduceLeDiff, Nat.reduceLT, reduceIte, Int.reduceLT, Int.reduceLE, Int.reduceAdd, Int.reduceSub, Int.reduceMul, Int.reduceEq, Int.reduceToNat, Int.reduceNeg, Int.reduceNe, F])
        exact hK _ _ ⟨by rw [dcd_false]; rintro ⟨_, h | h⟩ <;> omega, S.fr⟩
  · (try simp (disch := first | omega | assumption | exact Nat.le_of_ble_eq_true rfl) only [go_sem, ↓mwp_block, Nat.reduceEqDiff, Nat.reduceAdd, Nat.reduceMul, Nat.reduceSub, Nat.reduceLeDiff, Nat.reduceLT, reduceIte, Int.reduceLT, Int.reduceLE, Int.reduceAdd, Int.reduceSub, Int.reduceMul, Int.reduceEq, Int.reduceToNat, Int.reduceNeg, Int.reduceNe, F])
    exact hK _ _ ⟨by rw [dcd_false]; exact fun h => hs h.1, S.fr⟩

set_option maxHeartbeats 4000000 in
theorem right_ok (p : Pol) (h : Heap) : CallsH Try.prog 65 [.agg p.enc.toArray] h fun v h' => v = .bool (dcd p.right) ∧ Fr h h' [] := by
  have S := St.nil h
  (refine enterK c_table_right (Nat.le_of_ble_eq_true rfl) fun K hK => ?_; (try simp (disch := first | omega | assumption | exact Nat.le_of_ble_eq_true rfl) only [go_sem, ↓mwp_block, Nat.reduceEqDiff, Nat.reduceAdd, Nat.reduceMul, Nat.reduceSub, Nat.reduceLeDiff, Nat.reduceLT, reduceIte, Int.reduceLT, Int.reduceLE, Int.reduceAdd, Int.reduceSub, Int.reduceMul, Int.reduceEq, Int.reduceToNat, Int.reduceNeg, Int.reduceNe, ir_table_right]))
  (refine st_alloc S ?_; clear S; intro b h S; (try simp only [splice_cons, splice_nil, List.set_cons_zero, List.set_cons_succ, Nat.zero_add, Nat.reduceAdd, List.cons_append, List.nil_append] at S); ((try clear F); have F := S.all; (try simp only [all_cons, all_nil, says_cell, and_true] at F)))
  (try simp (disch := first | omega | assumption | exact Nat.le_of_ble_eq_true rfl) only [go_sem, ↓mwp_block, Nat.reduceEqDiff, Nat.reduceAdd, Nat.reduceMul, Nat.reduceSub, Nat.reduceLeDiff, Nat.reduceLT, reduceIte, Int.reduceLT, Int.reduceLE, Int.reduceAdd, Int.reduceSub, Int.reduceMul, Int.reduceEq, Int.reduceToNat, Int.reduceNeg, Int.reduceNe, F, Pol.enc])
  refine loop_unroll 5 ?_
  (try simp (disch := first | omega | assumption | exact Nat.le_of_ble_eq_true rfl) only [go_sem, ↓mwp_block, Nat.reduceEqDiff, Nat.reduceAdd, Nat.reduceMul, Nat.reduceSub, Nat.reduceLeDiff, Nat.reduceLT, reduceIte, Int.reduceLT, Int.reduceLE, Int.reduceAdd, Int.reduceSub, Int.reduceMul, Int.reduceEq, Int.reduceToNat, Int.reduceNeg, Int.reduceNe])
  iterate 4
    refine call_intro (points_ok _ _) ?_
    rintro _ _ ⟨rfl, rfl⟩
    (try simp (disch := first | omega | assumption | exact Nat.le_of_ble_eq_true rfl) only [go_sem, ↓mwp_block, Nat.reduceEqDiff, Nat.reduceAdd, Nat.reduceMul, Nat.reduceSub, Nat.reduceLeDiff, Nat.reduceLT, reduceIte, Int.reduceLT, Int.reduceLE, Int.reduceAdd, Int.reduceSub, Int.reduceMul, Int.reduceEq, Int.reduceToNat, Int.reduceNeg, Int.reduceNe])
    refine cond_decn (fun hn => by (try simp (disch := first | omega | assumption | exact Nat.le_of_ble_eq_true rfl) only [go_sem, ↓mwp_block, Nat.reduceEqDiff, Nat.reduceAdd, Nat.reduceMul, Nat.reduceSub, Nat.reduceLeDiff, Nat.reduceLT, reduceIte, Int.reduceLT, Int.reduceLE, Int.reduceAdd, Int.reduceSub, Int.reduceMul, Int.reduceEq, Int.reduceToNat, Int.reduceNeg, Int.reduceNe]); exact hK _ _ ⟨by rw [dcd_false]; exact fun h => hn (by first | exact h.1.1 | exact h.1.2.1 | exact h.1.2.2.1 | exact h.1.2.2.2), S.fr⟩) (fun hp => ?_)
    (try simp (disch := first | omega | assumption | exact Nat.le_of_ble_eq_true rfl) only [go_sem, ↓mwp_block, Nat.reduceEqDiff, Nat.reduceAdd, Nat.reduceMul, Nat.reduceSub, Nat.reduceLeDiff, Nat.reduceLT, reduceIte, Int.reduceLT, Int.reduceLE, Int.reduceAdd, Int.reduceSub, Int.reduceMul, Int.reduceEq, Int.reduceToNat, Int.reduceNeg, Int.reduceNe])
  (try simp (disch := first | omega | assumption | exact Nat.le_of_ble_eq_true rfl) only [go_sem, ↓mwp_block, Nat.reduceEqDiff, Nat.reduceAdd, Nat.reduceMul, Nat.reduceSub, Nat.reduceLeDiff, Nat.reduceLT, reduceIte, Int.reduceLT, Int.reduceLE, Int.reduceAdd, Int.reduceSub, Int.reduceMul, Int.reduceEq, Int.reduceToNat, Int.reduceNeg, Int.reduceNe, F, Pol.enc])
  refine loop_unroll 5 ?_
  (try simp (disch := first | omega | assumption | exact Nat.le_of_ble_eq_true rfl) only [go_sem, ↓mwp_block, Nat.reduceEqDiff, Nat.reduceAdd, Nat.reduceMul, Nat.reduceSub, Nat.reduceLeDiff, Nat.reduceLT, reduceIte, Int.reduceLT, Int.reduceLE, Int.reduceAdd, Int.reduceSub, Int.reduceMul, Int.reduceEq, Int.reduceToNat, Int.reduceNeg, Int.reduceNe])
  iterate 4
    (refine st_alloc S ?_; clear S; intro g h S; (try simp only [splice_cons, splice_nil, List.set_cons_zero, List.set_cons_succ, Nat.zero_add, Nat.reduceAdd, List.cons_append, List.nil_append] at S); ((try clear F); have F := S.all; (try simp only [all_cons, all_nil, says_cell, and_true] at F)))
    (try simp (disch := first | omega | assumption | exact Nat.le_of_ble_eq_true rfl) only [go_sem, ↓mwp_block, Nat.reduceEqDiff, Nat.reduceAdd, Nat.reduceMul, Nat.reduceSub, Nat.reduceLeDiff, Nat.reduceLT, reduceIte, Int.reduceLT, Int.reduceLE, Int.reduceAdd, Int.reduceSub, Int.reduceMul, Int.reduceEq, Int.reduceToNat, Int.reduceNeg, Int.reduceNe, F])
    (refine st_store (by first | exact S | exact S.p1 | exact S.p2 | exact S.p3 | exact S.p4 | exact S.p5 | exact S.p6 | exact S.p7 | exact S.p8 | exact S.p9 | exact S.p10 | exact S.p11) (by rfl) (by rfl) (Nat.le_of_ble_eq_true rfl) ?_; clear S; intro h S; (try simp only [splice_cons, splice_nil, List.set_cons_zero, List.set_cons_succ, Nat.zero_add, Nat.reduceAdd, List.cons_append, List.nil_append] at S); ((try clear F); have F := S.all; (try simp only [all_cons, all_nil, says_cell, and_true] at F)))
    (try simp (disch := first | omega | assumption | exact Nat.le_of_ble_eq_true rfl) only [go_sem, ↓mwp_block, Nat.reduceEqDiff, Nat.reduceAdd, Nat.reduceMul, Nat.reduceSub, Nat.reduceLeDiff, Nat.reduceLT, reduceIte, Int.reduceLT, Int.reduceLE, Int.reduceAdd, Int.reduceSub, Int.reduceMul, Int.reduceEq, Int.reduceToNat, Int.reduceNeg, Int.reduceNe, F])
    refine call_intro (grade_ok _ _ _) ?_
    rintro _ h ⟨rfl, hf⟩
    have S := S.frame hf
    ((try clear F); have F := S.all; (try simp only [all_cons, all_nil, says_cell, and_true] at F))
    (try simp (disch := first | omega | assumption | exact Nat.le_of_ble_eq_true rfl) only [go_sem, ↓mwp_block, Nat.reduceEqDiff, Nat.reduceAdd, Nat.reduceMul, Nat.reduceSub, Nat.reduceLeDiff, Nat.reduceLT, reduceIte, Int.reduceLT, Int.reduceLE, Int.reduceAdd, Int.reduceSub, Int.reduceMul, Int.reduceEq, Int.reduceToNat, Int.reduceNeg, Int.reduceNe])
    refine cond_decn (fun hn => by (try simp (disch := first | omega | assumption | exact Nat.le_of_ble_eq_true rfl) only [go_sem, ↓mwp_block, Nat.reduceEqDiff, Nat.reduceAdd, Nat.reduceMul, Nat.reduceSub, Nat.reduceLeDiff, Nat.reduceLT, reduceIte, Int.reduceLT, Int.reduceLE, Int.reduceAdd, Int.reduceSub, Int.reduceMul, Int.reduceEq, Int.reduceToNat, Int.reduceNeg, Int.reduceNe]); exact hK _ _ ⟨by rw [dcd_false]; exact fun h => hn (by first | exact h.2.1.1 | exact h.2.1.2.1 | exact h.2.1.2.2.1 | exact h.2.1.2.2.2), S.fr⟩) (fun hp => ?_)
    (try simp (disch := first | omega | assumption | exact Nat.le_of_ble_eq_true rfl) only [go_sem, ↓mwp_block, Nat.reduceEqDiff, Nat.reduceAdd, Nat.reduceMul, Nat.reduceSub, Nat.reduceLeDiff, Nat.reduceLT, reduceIte, Int.reduceLT, Int.reduceLE, Int.reduceAdd, Int.reduceSub, Int.reduceMul, Int.reduceEq, Int.reduceToNat, Int.reduceNeg, Int.reduceNe])
  (try simp (disch := first | omega | assumption | exact Nat.le_of_ble_eq_true rfl) only [go_sem, ↓mwp_block, Nat.reduceEqDiff, Nat.reduceAdd, Nat.reduceMul, Nat.reduceSub, Nat.reduceLeDiff, Nat.reduceLT, reduceIte, Int.reduceLT, Int.reduceLE, Int.reduceAdd, Int.reduceSub, Int.reduceMul, Int.reduceEq, Int.reduceToNat, Int.reduceNeg, Int.reduceNe, F, Pol.enc])
  by_cases h0 : 0 ≤ p.w
  · by_cases h1 : p.w ≤ 1000
    · (try simp (disch := first | omega | assumption | exact Nat.le_of_ble_eq_true rfl) only [go_sem, ↓mwp_block, Nat.reduceEqDiff, Nat.reduceAdd, Nat.reduceMul, Nat.reduceSub, Nat.reduceLeDiff, Nat.reduceLT, reduceIte, Int.reduceLT, Int.reduceLE, Int.reduceAdd, Int.reduceSub, Int.reduceMul, Int.reduceEq, Int.reduceToNat, Int.reduceNeg, Int.reduceNe, F, Pol.enc, h0, h1])
      refine hK _ _ ⟨?_, S.fr⟩
      rw [dcd_true]
      exact ⟨⟨by assumption, by assumption, by assumption, by assumption⟩, ⟨by assumption, by assumption, by assumption, by assumption⟩, h0, h1⟩
    · (try simp (disch := first | omega | assumption | exact Nat.le_of_ble_eq_true rfl) only [go_sem, ↓mwp_block, Nat.reduceEqDiff, Nat.reduceAdd, Nat.reduceMul, Nat.reduceSub, Nat.reduceLeDiff, Nat.reduceLT, reduceIte, Int.reduceLT, Int.reduceLE, Int.reduceAdd, Int.reduceSub, Int.reduceMul, Int.reduceEq, Int.reduceToNat, Int.reduceNeg, Int.reduceNe, F, Pol.enc, h0, h1])
      exact hK _ _ ⟨by rw [dcd_false]; exact fun h => h1 h.2.2.2, S.fr⟩
  · (try simp (disch := first | omega | assumption | exact Nat.le_of_ble_eq_true rfl) only [go_sem, ↓mwp_block, Nat.reduceEqDiff, Nat.reduceAdd, Nat.reduceMul, Nat.reduceSub, Nat.reduceLeDiff, Nat.reduceLT, reduceIte, Int.reduceLT, Int.reduceLE, Int.reduceAdd, Int.reduceSub, Int.reduceMul, Int.reduceEq, Int.reduceToNat, Int.reduceNeg, Int.reduceNe, F, Pol.enc, h0])
    exact hK _ _ ⟨by rw [dcd_false]; exact fun h => h0 h.2.2.1, S.fr⟩

theorem rightAsk {h : Heap} : Asks Try.prog Pol.enc h [] (.func (.func 64) #[] (List.toArray [])) fun p => !dcd p.right := by
  refine ⟨_, _, rfl, ok_table_Right_1, fun x h hf => ?_⟩
  have S := St.nil h
  (refine enterK c_table_Right_1 (Nat.le_of_ble_eq_true rfl) fun K hK => ?_; (try simp (disch := first | omega | assumption | exact Nat.le_of_ble_eq_true rfl) only [go_sem, ↓mwp_block, Nat.reduceEqDiff, Nat.reduceAdd, Nat.reduceMul, Nat.reduceSub, Nat.reduceLeDiff, Nat.reduceLT, reduceIte, Int.reduceLT, Int.reduceLE, Int.reduceAdd, Int.reduceSub, Int.reduceMul, Int.reduceEq, Int.reduceToNat, Int.reduceNeg, Int.reduceNe, ir_table_Right_1]))
  (refine st_alloc S ?_; clear S; intro b h S; (try simp only [splice_cons, splice_nil, List.set_cons_zero, List.set_cons_succ, Nat.zero_add, Nat.reduceAdd, List.cons_append, List.nil_append] at S); ((try clear F); have F := S.all; (try simp only [all_cons, all_nil, says_cell, and_true] at F)))
  (try simp (disch := first | omega | assumption | exact Nat.le_of_ble_eq_true rfl) only [go_sem, ↓mwp_block, Nat.reduceEqDiff, Nat.reduceAdd, Nat.reduceMul, Nat.reduceSub, Nat.reduceLeDiff, Nat.reduceLT, reduceIte, Int.reduceLT, Int.reduceLE, Int.reduceAdd, Int.reduceSub, Int.reduceMul, Int.reduceEq, Int.reduceToNat, Int.reduceNeg, Int.reduceNe, F, Pol.enc])
  refine call_intro (right_ok x _) ?_
  rintro _ h ⟨rfl, hf⟩
  (try simp (disch := first | omega | assumption | exact Nat.le_of_ble_eq_true rfl) only [go_sem, ↓mwp_block, Nat.reduceEqDiff, Nat.reduceAdd, Nat.reduceMul, Nat.reduceSub, Nat.reduceLeDiff, Nat.reduceLT, reduceIte, Int.reduceLT, Int.reduceLE, Int.reduceAdd, Int.reduceSub, Int.reduceMul, Int.reduceEq, Int.reduceToNat, Int.reduceNeg, Int.reduceNe])
  exact hK _ _ ⟨rfl, (S.frame hf).fr⟩

def RightT (l : List Pol) : Prop := l.length ≤ 16 ∧ ∀ p ∈ l, p.right
theorem ContainsP_ok {h : Heap} {A : Option Addr} {n c : Nat} {xs : List Pol} (ha : Arr Pol.enc 16 h A xs) (hn : n = xs.length) (hl : xs.length < 1000000) :
    CallsH Try.prog 63 [.slice A n c, .func (.func 64) #[] (List.toArray [])] h fun v h' => v = .bool (dcd (∃ p ∈ xs, ¬ p.right)) ∧ Fr h h' [] := by
  subst hn
  (refine enterK c_slices_ContainsFunc_api_Policy_api_Policy (Nat.le_of_ble_eq_true rfl) fun K hK => ?_; (try simp (disch := first | omega | assumption | exact Nat.le_of_ble_eq_true rfl) only [go_sem, ↓mwp_block, Nat.reduceEqDiff, Nat.reduceAdd, Nat.reduceMul, Nat.reduceSub, Nat.reduceLeDiff, Nat.reduceLT, reduceIte, Int.reduceLT, Int.reduceLE, Int.reduceAdd, Int.reduceSub, Int.reduceMul, Int.reduceEq, Int.reduceToNat, Int.reduceNeg, Int.reduceNe, ir_slices_ContainsFunc_api_Policy_api_Policy]))
  refine call_intro (indexFunc_ok (sz := 16) (p := fun m : Pol => !dcd m.right) c_slices_IndexFunc_api_Policy_api_Policy ha rfl (by omega) rightAsk) ?_
  rintro _ h1 ⟨rfl, hf⟩
  rcases idxOf_spec (fun m : Pol => !dcd m.right) xs 0 with ⟨hx, hall⟩ | ⟨i, hx, hil, hbef, hat⟩
  · have hx : idxOf (fun m : Pol => !dcd m.right) xs 0 = -1 := hx
    (try simp (disch := first | omega | assumption | exact Nat.le_of_ble_eq_true rfl) only [go_sem, ↓mwp_block, Nat.reduceEqDiff, Nat.reduceAdd, Nat.reduceMul, Nat.reduceSub, Nat.reduceLeDiff, Nat.reduceLT, reduceIte, Int.reduceLT, Int.reduceLE, Int.reduceAdd, Int.reduceSub, Int.reduceMul, Int.reduceEq, Int.reduceToNat, Int.reduceNeg, Int.reduceNe, hx])
    refine hK _ _ ⟨?_, hf⟩
    rw [dcd_false]
    rintro ⟨p, hp, hn⟩
    have := hall p hp
    rw [dcd_false hn] at this
    cases this
  · have hx : idxOf (fun m : Pol => !dcd m.right) xs 0 = (i : Int) := by simpa using hx
    (try simp (disch := first | omega | assumption | exact Nat.le_of_ble_eq_true rfl) only [go_sem, ↓mwp_block, Nat.reduceEqDiff, Nat.reduceAdd, Nat.reduceMul, Nat.reduceSub, Nat.reduceLeDiff, Nat.reduceLT, reduceIte, Int.reduceLT, Int.reduceLE, Int.reduceAdd, Int.reduceSub, Int.reduceMul, Int.reduceEq, Int.reduceToNat, Int.reduceNeg, Int.reduceNe, hx])
    refine hK _ _ ⟨?_, hf⟩
    have := hat xs[i] (List.getElem?_eq_getElem hil)
    rw [dcd_true]
    refine ⟨xs[i], List.getElem_mem hil, fun hr => ?_⟩
    rw [dcd_true hr] at this
    cases this

theorem Right_ok {h : Heap} {A : Option Addr} {n c : Nat} {xs : List Pol} (ha : Arr Pol.enc 16 h A xs) (hn : n = xs.length) (hl : xs.length < 1000000) :
    CallsH Try.prog 24 [.slice A n c] h fun v h' => v = .bool (dcd (RightT xs)) ∧ Fr h h' [] := by
  subst hn
  (refine enterK c_table_Right (Nat.le_of_ble_eq_true rfl) fun K hK => ?_; (try simp (disch := first | omega | assumption | exact Nat.le_of_ble_eq_true rfl) only [go_sem, ↓mwp_block, Nat.reduceEqDiff, Nat.reduceAdd, Nat.reduceMul, Nat.reduceSub, Nat.reduceLeDiff, Nat.reduceLT, reduceIte, Int.reduceLT, Int.reduceLE, Int.reduceAdd, Int.reduceSub, Int.reduceMul, Int.reduceEq, Int.reduceToNat, Int.reduceNeg, Int.reduceNe, ir_table_Right]))
  by_cases h16 : xs.length ≤ 16
  · (try simp (disch := first | omega | assumption | exact Nat.le_of_ble_eq_true rfl) only [go_sem, ↓mwp_block, Nat.reduceEqDiff, Nat.reduceAdd, Nat.reduceMul, Nat.reduceSub, Nat.reduceLeDiff, Nat.reduceLT, reduceIte, Int.reduceLT, Int.reduceLE, Int.reduceAdd, Int.reduceSub, Int.reduceMul, Int.reduceEq, Int.reduceToNat, Int.reduceNeg, Int.reduceNe, h16])
    refine call_intro (ContainsP_ok ha rfl hl) ?_
    rintro _ h1 ⟨rfl, hf⟩
    (try simp (disch := first | omega | assumption | exact Nat.le_of_ble_eq_true rfl) only [go_sem, ↓mwp_block, Nat.reduceEqDiff, Nat.reduceAdd, Nat.reduceMul, Nat.reduceSub, Nat.reduceLeDiff, Nat.reduceLT, reduceIte, Int.reduceLT, Int.reduceLE, Int.reduceAdd, Int.reduceSub, Int.reduceMul, Int.reduceEq, Int.reduceToNat, Int.reduceNeg, Int.reduceNe])
    refine hK _ _ ⟨?_, hf⟩
    by_cases hr : RightT xs
    · rw [dcd_true hr, dcd_false]
      · rfl
      · rintro ⟨p, hp, hn⟩; exact hn (hr.2 p hp)
    · rw [dcd_false hr, dcd_true]
      · rfl
      · apply Classical.byContradiction
        intro hn
        exact hr ⟨h16, fun p hp => Classical.byContradiction fun h => hn ⟨p, hp, h⟩⟩
  · (try simp (disch := first | omega | assumption | exact Nat.le_of_ble_eq_true rfl) only [go_sem, ↓mwp_block, Nat.reduceEqDiff, Nat.reduceAdd, Nat.reduceMul, Nat.reduceSub, Nat.reduceLeDiff, Nat.reduceLT, reduceIte, Int.reduceLT, Int.reduceLE, Int.reduceAdd, Int.reduceSub, Int.reduceMul, Int.reduceEq, Int.reduceToNat, Int.reduceNeg, Int.reduceNe, h16])
    exact hK _ _ ⟨by rw [dcd_false]; exact fun h => h16 h.1, Fr.refl _ _⟩
end Go.Proofs.Ytackopkhelochaa.MX
