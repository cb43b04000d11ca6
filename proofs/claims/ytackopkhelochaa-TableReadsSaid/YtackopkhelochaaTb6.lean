/- One policy read. -/
import Derived.Test.YtackopkhelochaaTb5
import Derived.Test.YtackopkhelochaaIn2
namespace Go.Proofs.Ytackopkhelochaa.MX
open Go Go.Proofs
set_option linter.unusedSimpArgs false
set_option linter.unusedVariables false

/-- What is left behind a reading. -/
def stp (n : Nat) (q : List UInt8 × Bool) : List UInt8 × Bool := (rdB n q.1 q.2, rdX n q.1 q.2)
def vl (n : Nat) (q : List UInt8 × Bool) : Int := rdV n q.1 q.2
def fb (m : Nat) (n : Int) : Bool := !decide ((n.toNat &&& m) = 0)
def q1 (q : List UInt8 × Bool) := stp 2 q
def q2 (q : List UInt8 × Bool) := stp 1 (q1 q)
def q3 (q : List UInt8 × Bool) := stp 2 (q2 q)
def q4 (q : List UInt8 × Bool) := stp 2 (q3 q)
def q5 (q : List UInt8 × Bool) := stp 2 (q4 q)
def q6 (q : List UInt8 × Bool) := stp 2 (q5 q)
def q7 (q : List UInt8 × Bool) := stp 2 (q6 q)
def q8 (q : List UInt8 × Bool) := stp 1 (q7 q)
def q9 (q : List UInt8 × Bool) := stp 2 (q8 q)
def q10 (q : List UInt8 × Bool) := stp 1 (q9 q)
def q11 (q : List UInt8 × Bool) := stp 2 (q10 q)
def q12 (q : List UInt8 × Bool) := stp 1 (q11 q)
def q13 (q : List UInt8 × Bool) := stp 2 (q12 q)
def q14 (q : List UInt8 × Bool) := stp 1 (q13 q)
def polR (q : List UInt8 × Bool) : Pol := ⟨vl 2 q, fb 1 (vl 1 (q1 q)), fb 2 (vl 1 (q1 q)), fb 4 (vl 1 (q1 q)), vl 2 (q2 q), vl 2 (q3 q), vl 2 (q4 q), vl 2 (q5 q), vl 2 (q6 q), vl 1 (q7 q), vl 2 (q8 q), vl 1 (q9 q), vl 2 (q10 q), vl 1 (q11 q), vl 2 (q12 q), vl 1 (q13 q)⟩

theorem band64 {n : Int} {m : Nat} (h0 : 0 ≤ n) (h1 : n < 256) (hm : m < 256) : binV .and (.int .i64 n) (.int .i64 (m : Int)) = some (.int .i64 ((n.toNat &&& m : Nat) : Int)) := by
  have e1 : (BitVec.ofInt IntKind.i64.bits n).toNat = n.toNat := by
    rw [BitVec.toNat_ofInt]
    have : ((2 ^ IntKind.i64.bits : Nat) : Int) = 18446744073709551616 := rfl
    rw [this, Int.emod_eq_of_lt h0 (by omega)]
  have e2 : (BitVec.ofInt IntKind.i64.bits (m : Int)).toNat = m := by
    rw [BitVec.toNat_ofInt]
    have : ((2 ^ IntKind.i64.bits : Nat) : Int) = 18446744073709551616 := rfl
    rw [this, Int.emod_eq_of_lt (by omega) (by omega)]
    rfl
  have h2 : n.toNat &&& m ≤ m := Nat.and_le_right
  rw [bin_and, BitVec.toNat_and, e1, e2, wrap_i64 (by omega) (by omega)]
theorem fb_dcd (m : Nat) (n : Int) : (!dcd (((n.toNat &&& m : Nat) : Int) = 0)) = fb m n := by
  unfold fb
  by_cases h : (n.toNat &&& m) = 0
  · rw [dcd_true (by omega), decide_eq_true h]
  · rw [dcd_false (by omega), decide_eq_false h]

theorem stp_len (n : Nat) (q : List UInt8 × Bool) : (stp n q).1.length ≤ q.1.length := rdB_le n q.1 q.2
theorem rd16 {h0 h : Heap} {l : List HP} {i : Nat} {q : List UInt8 × Bool} (S : St h0 h (inA i q.1 q.2 :: l)) (hl : q.1.length < 1000000000) :
    CallsH Try.prog 90 [.pointer (some ⟨i, 0, none⟩)] h fun r h' => r = .int .i64 (vl 2 q) ∧ St h0 h' (inA i (stp 2 q).1 (stp 2 q).2 :: l) := inU16_ok S hl
theorem rd8 {h0 h : Heap} {l : List HP} {i : Nat} {q : List UInt8 × Bool} (S : St h0 h (inA i q.1 q.2 :: l)) (hl : q.1.length < 1000000000) :
    CallsH Try.prog 93 [.pointer (some ⟨i, 0, none⟩)] h fun r h' => r = .int .i64 (vl 1 q) ∧ St h0 h' (inA i (stp 1 q).1 (stp 1 q).2 :: l) := inU8_ok S hl

set_option maxRecDepth 20000 in
set_option maxHeartbeats 8000000 in
theorem policy_ok {h0 h : Heap} {l : List HP} {i : Nat} {q : List UInt8 × Bool} (S : St h0 h (inA i q.1 q.2 :: l)) (hl : q.1.length < 1000000000) :
    CallsH Try.prog 75 [.pointer (some ⟨i, 0, none⟩)] h fun r h' => r = .tuple #[.agg (polR q).enc.toArray, .bool (dcd (vl 1 (q1 q) ≤ 7))] ∧ St h0 h' (inA i (q14 q).1 (q14 q).2 :: l) := by
  have l1 := stp_len 2 q
  have l2 := stp_len 1 (q1 q)
  have l3 := stp_len 2 (q2 q)
  have l4 := stp_len 2 (q3 q)
  have l5 := stp_len 2 (q4 q)
  have l6 := stp_len 2 (q5 q)
  have l7 := stp_len 2 (q6 q)
  have l8 := stp_len 1 (q7 q)
  have l9 := stp_len 2 (q8 q)
  have l10 := stp_len 1 (q9 q)
  have l11 := stp_len 2 (q10 q)
  have l12 := stp_len 1 (q11 q)
  have l13 := stp_len 2 (q12 q)
  change (q1 q).1.length ≤ _ at l1
  change (q2 q).1.length ≤ _ at l2
  change (q3 q).1.length ≤ _ at l3
  change (q4 q).1.length ≤ _ at l4
  change (q5 q).1.length ≤ _ at l5
  change (q6 q).1.length ≤ _ at l6
  change (q7 q).1.length ≤ _ at l7
  change (q8 q).1.length ≤ _ at l8
  change (q9 q).1.length ≤ _ at l9
  change (q10 q).1.length ≤ _ at l10
  change (q11 q).1.length ≤ _ at l11
  change (q12 q).1.length ≤ _ at l12
  change (q13 q).1.length ≤ _ at l13
  have hfl : 0 ≤ vl 1 (q1 q) ∧ vl 1 (q1 q) < 256 := by have := rdV_nn 1 (q1 q).1 (q1 q).2; simpa [vl] using this
  have b1 := band64 (m := 1) hfl.1 hfl.2 (by decide)
  have b2 := band64 (m := 2) hfl.1 hfl.2 (by decide)
  have b4 := band64 (m := 4) hfl.1 hfl.2 (by decide)
  have c1 : ((1 : Nat) : Int) = 1 := rfl
  have c2 : ((2 : Nat) : Int) = 2 := rfl
  have c4 : ((4 : Nat) : Int) = 4 := rfl
  rw [c1] at b1
  rw [c2] at b2
  rw [c4] at b4
  (refine enterK c_table_policy (Nat.le_of_ble_eq_true rfl) fun K hK => ?_; (try simp (disch := first | omega | assumption | exact Nat.le_of_ble_eq_true rfl) only [go_sem, ↓mwp_block, Nat.reduceEqDiff, Nat.reduceAdd, Nat.reduceMul, Nat.reduceSub, Nat.reduceLeDiff, Nat.reduceLT, reduceIte, Int.reduceLT, Int.reduceLE, Int.reduceAdd, Int.reduceSub, Int.reduceMul, Int.reduceEq, Int.reduceToNat, Int.reduceNeg, Int.reduceNe, ir_table_policy]))
  (refine st_alloc S ?_; clear S; intro a h S; (try simp only [splice_cons, splice_nil, List.set_cons_zero, List.set_cons_succ, Nat.zero_add, Nat.reduceAdd, List.cons_append, List.nil_append] at S); ((try clear F); have F := S.all; (try simp only [all_cons, all_nil, says_cell, and_true] at F)))
  (try simp (disch := first | omega | assumption | exact Nat.le_of_ble_eq_true rfl) only [go_sem, ↓mwp_block, Nat.reduceEqDiff, Nat.reduceAdd, Nat.reduceMul, Nat.reduceSub, Nat.reduceLeDiff, Nat.reduceLT, reduceIte, Int.reduceLT, Int.reduceLE, Int.reduceAdd, Int.reduceSub, Int.reduceMul, Int.reduceEq, Int.reduceToNat, Int.reduceNeg, Int.reduceNe])
  refine call_intro (rd16 S.p1 hl) ?_
  rintro _ h ⟨rfl, S⟩
  change St _ _ (inA i (q1 q).1 (q1 q).2 :: _) at S
  (try simp (disch := first | omega | assumption | exact Nat.le_of_ble_eq_true rfl) only [go_sem, ↓mwp_block, Nat.reduceEqDiff, Nat.reduceAdd, Nat.reduceMul, Nat.reduceSub, Nat.reduceLeDiff, Nat.reduceLT, reduceIte, Int.reduceLT, Int.reduceLE, Int.reduceAdd, Int.reduceSub, Int.reduceMul, Int.reduceEq, Int.reduceToNat, Int.reduceNeg, Int.reduceNe])
  (refine st_alloc S ?_; clear S; intro g h S; (try simp only [splice_cons, splice_nil, List.set_cons_zero, List.set_cons_succ, Nat.zero_add, Nat.reduceAdd, List.cons_append, List.nil_append] at S); ((try clear F); have F := S.all; (try simp only [all_cons, all_nil, says_cell, and_true] at F)))
  (try simp (disch := first | omega | assumption | exact Nat.le_of_ble_eq_true rfl) only [go_sem, ↓mwp_block, Nat.reduceEqDiff, Nat.reduceAdd, Nat.reduceMul, Nat.reduceSub, Nat.reduceLeDiff, Nat.reduceLT, reduceIte, Int.reduceLT, Int.reduceLE, Int.reduceAdd, Int.reduceSub, Int.reduceMul, Int.reduceEq, Int.reduceToNat, Int.reduceNeg, Int.reduceNe])
  (refine st_store (by first | exact S | exact S.p1 | exact S.p2 | exact S.p3 | exact S.p4 | exact S.p5 | exact S.p6 | exact S.p7 | exact S.p8 | exact S.p9 | exact S.p10 | exact S.p11) (by rfl) (by rfl) (Nat.le_of_ble_eq_true rfl) ?_; clear S; intro h S; (try simp only [splice_cons, splice_nil, List.set_cons_zero, List.set_cons_succ, Nat.zero_add, Nat.reduceAdd, List.cons_append, List.nil_append] at S); ((try clear F); have F := S.all; (try simp only [all_cons, all_nil, says_cell, and_true] at F)))
  (try simp (disch := first | omega | assumption | exact Nat.le_of_ble_eq_true rfl) only [go_sem, ↓mwp_block, Nat.reduceEqDiff, Nat.reduceAdd, Nat.reduceMul, Nat.reduceSub, Nat.reduceLeDiff, Nat.reduceLT, reduceIte, Int.reduceLT, Int.reduceLE, Int.reduceAdd, Int.reduceSub, Int.reduceMul, Int.reduceEq, Int.reduceToNat, Int.reduceNeg, Int.reduceNe])
  refine call_intro (rd8 (q := q1 q) (by first | exact S | exact S.p1 | exact S.p2 | exact S.p3 | exact S.p4 | exact S.p5 | exact S.p6 | exact S.p7 | exact S.p8 | exact S.p9 | exact S.p10 | exact S.p11) (by omega)) ?_
  rintro _ h ⟨rfl, S⟩
  change St _ _ (inA i (q2 q).1 (q2 q).2 :: _) at S
  ((try clear F); have F := S.all; (try simp only [all_cons, all_nil, says_cell, and_true] at F))
  (try simp (disch := first | omega | assumption | exact Nat.le_of_ble_eq_true rfl) only [go_sem, ↓mwp_block, Nat.reduceEqDiff, Nat.reduceAdd, Nat.reduceMul, Nat.reduceSub, Nat.reduceLeDiff, Nat.reduceLT, reduceIte, Int.reduceLT, Int.reduceLE, Int.reduceAdd, Int.reduceSub, Int.reduceMul, Int.reduceEq, Int.reduceToNat, Int.reduceNeg, Int.reduceNe, b1, b2, b4, fb_dcd])
  (refine st_store (by first | exact S | exact S.p1 | exact S.p2 | exact S.p3 | exact S.p4 | exact S.p5 | exact S.p6 | exact S.p7 | exact S.p8 | exact S.p9 | exact S.p10 | exact S.p11) (by rfl) (by rfl) (Nat.le_of_ble_eq_true rfl) ?_; clear S; intro h S; (try simp only [splice_cons, splice_nil, List.set_cons_zero, List.set_cons_succ, Nat.zero_add, Nat.reduceAdd, List.cons_append, List.nil_append] at S); ((try clear F); have F := S.all; (try simp only [all_cons, all_nil, says_cell, and_true] at F)))
  (try simp (disch := first | omega | assumption | exact Nat.le_of_ble_eq_true rfl) only [go_sem, ↓mwp_block, Nat.reduceEqDiff, Nat.reduceAdd, Nat.reduceMul, Nat.reduceSub, Nat.reduceLeDiff, Nat.reduceLT, reduceIte, Int.reduceLT, Int.reduceLE, Int.reduceAdd, Int.reduceSub, Int.reduceMul, Int.reduceEq, Int.reduceToNat, Int.reduceNeg, Int.reduceNe])
  (refine st_store (by first | exact S | exact S.p1 | exact S.p2 | exact S.p3 | exact S.p4 | exact S.p5 | exact S.p6 | exact S.p7 | exact S.p8 | exact S.p9 | exact S.p10 | exact S.p11) (by rfl) (by rfl) (Nat.le_of_ble_eq_true rfl) ?_; clear S; intro h S; (try simp only [splice_cons, splice_nil, List.set_cons_zero, List.set_cons_succ, Nat.zero_add, Nat.reduceAdd, List.cons_append, List.nil_append] at S); ((try clear F); have F := S.all; (try simp only [all_cons, all_nil, says_cell, and_true] at F)))
  (try simp (disch := first | omega | assumption | exact Nat.le_of_ble_eq_true rfl) only [go_sem, ↓mwp_block, Nat.reduceEqDiff, Nat.reduceAdd, Nat.reduceMul, Nat.reduceSub, Nat.reduceLeDiff, Nat.reduceLT, reduceIte, Int.reduceLT, Int.reduceLE, Int.reduceAdd, Int.reduceSub, Int.reduceMul, Int.reduceEq, Int.reduceToNat, Int.reduceNeg, Int.reduceNe])
  (refine st_store (by first | exact S | exact S.p1 | exact S.p2 | exact S.p3 | exact S.p4 | exact S.p5 | exact S.p6 | exact S.p7 | exact S.p8 | exact S.p9 | exact S.p10 | exact S.p11) (by rfl) (by rfl) (Nat.le_of_ble_eq_true rfl) ?_; clear S; intro h S; (try simp only [splice_cons, splice_nil, List.set_cons_zero, List.set_cons_succ, Nat.zero_add, Nat.reduceAdd, List.cons_append, List.nil_append] at S); ((try clear F); have F := S.all; (try simp only [all_cons, all_nil, says_cell, and_true] at F)))
  (try simp (disch := first | omega | assumption | exact Nat.le_of_ble_eq_true rfl) only [go_sem, ↓mwp_block, Nat.reduceEqDiff, Nat.reduceAdd, Nat.reduceMul, Nat.reduceSub, Nat.reduceLeDiff, Nat.reduceLT, reduceIte, Int.reduceLT, Int.reduceLE, Int.reduceAdd, Int.reduceSub, Int.reduceMul, Int.reduceEq, Int.reduceToNat, Int.reduceNeg, Int.reduceNe])
  refine loop_unroll 5 ?_
  (try simp (disch := first | omega | assumption | exact Nat.le_of_ble_eq_true rfl) only [go_sem, ↓mwp_block, Nat.reduceEqDiff, Nat.reduceAdd, Nat.reduceMul, Nat.reduceSub, Nat.reduceLeDiff, Nat.reduceLT, reduceIte, Int.reduceLT, Int.reduceLE, Int.reduceAdd, Int.reduceSub, Int.reduceMul, Int.reduceEq, Int.reduceToNat, Int.reduceNeg, Int.reduceNe])
  refine call_intro (rd16 (q := q2 q) (by first | exact S | exact S.p1 | exact S.p2 | exact S.p3 | exact S.p4 | exact S.p5 | exact S.p6 | exact S.p7 | exact S.p8 | exact S.p9 | exact S.p10 | exact S.p11) (by omega)) ?_
  rintro _ h ⟨rfl, S⟩
  change St _ _ (inA i (q3 q).1 (q3 q).2 :: _) at S
  (try simp (disch := first | omega | assumption | exact Nat.le_of_ble_eq_true rfl) only [go_sem, ↓mwp_block, Nat.reduceEqDiff, Nat.reduceAdd, Nat.reduceMul, Nat.reduceSub, Nat.reduceLeDiff, Nat.reduceLT, reduceIte, Int.reduceLT, Int.reduceLE, Int.reduceAdd, Int.reduceSub, Int.reduceMul, Int.reduceEq, Int.reduceToNat, Int.reduceNeg, Int.reduceNe])
  (refine st_store (by first | exact S | exact S.p1 | exact S.p2 | exact S.p3 | exact S.p4 | exact S.p5 | exact S.p6 | exact S.p7 | exact S.p8 | exact S.p9 | exact S.p10 | exact S.p11) (by rfl) (by rfl) (Nat.le_of_ble_eq_true rfl) ?_; clear S; intro h S; (try simp only [splice_cons, splice_nil, List.set_cons_zero, List.set_cons_succ, Nat.zero_add, Nat.reduceAdd, List.cons_append, List.nil_append] at S); ((try clear F); have F := S.all; (try simp only [all_cons, all_nil, says_cell, and_true] at F)))
  (try simp (disch := first | omega | assumption | exact Nat.le_of_ble_eq_true rfl) only [go_sem, ↓mwp_block, Nat.reduceEqDiff, Nat.reduceAdd, Nat.reduceMul, Nat.reduceSub, Nat.reduceLeDiff, Nat.reduceLT, reduceIte, Int.reduceLT, Int.reduceLE, Int.reduceAdd, Int.reduceSub, Int.reduceMul, Int.reduceEq, Int.reduceToNat, Int.reduceNeg, Int.reduceNe])
  refine call_intro (rd16 (q := q3 q) (by first | exact S | exact S.p1 | exact S.p2 | exact S.p3 | exact S.p4 | exact S.p5 | exact S.p6 | exact S.p7 | exact S.p8 | exact S.p9 | exact S.p10 | exact S.p11) (by omega)) ?_
  rintro _ h ⟨rfl, S⟩
  change St _ _ (inA i (q4 q).1 (q4 q).2 :: _) at S
  (try simp (disch := first | omega | assumption | exact Nat.le_of_ble_eq_true rfl) only [go_sem, ↓mwp_block, Nat.reduceEqDiff, Nat.reduceAdd, Nat.reduceMul, Nat.reduceSub, Nat.reduceLeDiff, Nat.reduceLT, reduceIte, Int.reduceLT, Int.reduceLE, Int.reduceAdd, Int.reduceSub, Int.reduceMul, Int.reduceEq, Int.reduceToNat, Int.reduceNeg, Int.reduceNe])
  (refine st_store (by first | exact S | exact S.p1 | exact S.p2 | exact S.p3 | exact S.p4 | exact S.p5 | exact S.p6 | exact S.p7 | exact S.p8 | exact S.p9 | exact S.p10 | exact S.p11) (by rfl) (by rfl) (Nat.le_of_ble_eq_true rfl) ?_; clear S; intro h S; (try simp only [splice_cons, splice_nil, List.set_cons_zero, List.set_cons_succ, Nat.zero_add, Nat.reduceAdd, List.cons_append, List.nil_append] at S); ((try clear F); have F := S.all; (try simp only [all_cons, all_nil, says_cell, and_true] at F)))
  (try simp (disch := first | omega | assumption | exact Nat.le_of_ble_eq_true rfl) only [go_sem, ↓mwp_block, Nat.reduceEqDiff, Nat.reduceAdd, Nat.reduceMul, Nat.reduceSub, Nat.reduceLeDiff, Nat.reduceLT, reduceIte, Int.reduceLT, Int.reduceLE, Int.reduceAdd, Int.reduceSub, Int.reduceMul, Int.reduceEq, Int.reduceToNat, Int.reduceNeg, Int.reduceNe])
  refine call_intro (rd16 (q := q4 q) (by first | exact S | exact S.p1 | exact S.p2 | exact S.p3 | exact S.p4 | exact S.p5 | exact S.p6 | exact S.p7 | exact S.p8 | exact S.p9 | exact S.p10 | exact S.p11) (by omega)) ?_
  rintro _ h ⟨rfl, S⟩
  change St _ _ (inA i (q5 q).1 (q5 q).2 :: _) at S
  (try simp (disch := first | omega | assumption | exact Nat.le_of_ble_eq_true rfl) only [go_sem, ↓mwp_block, Nat.reduceEqDiff, Nat.reduceAdd, Nat.reduceMul, Nat.reduceSub, Nat.reduceLeDiff, Nat.reduceLT, reduceIte, Int.reduceLT, Int.reduceLE, Int.reduceAdd, Int.reduceSub, Int.reduceMul, Int.reduceEq, Int.reduceToNat, Int.reduceNeg, Int.reduceNe])
  (refine st_store (by first | exact S | exact S.p1 | exact S.p2 | exact S.p3 | exact S.p4 | exact S.p5 | exact S.p6 | exact S.p7 | exact S.p8 | exact S.p9 | exact S.p10 | exact S.p11) (by rfl) (by rfl) (Nat.le_of_ble_eq_true rfl) ?_; clear S; intro h S; (try simp only [splice_cons, splice_nil, List.set_cons_zero, List.set_cons_succ, Nat.zero_add, Nat.reduceAdd, List.cons_append, List.nil_append] at S); ((try clear F); have F := S.all; (try simp only [all_cons, all_nil, says_cell, and_true] at F)))
  (try simp (disch := first | omega | assumption | exact Nat.le_of_ble_eq_true rfl) only [go_sem, ↓mwp_block, Nat.reduceEqDiff, Nat.reduceAdd, Nat.reduceMul, Nat.reduceSub, Nat.reduceLeDiff, Nat.reduceLT, reduceIte, Int.reduceLT, Int.reduceLE, Int.reduceAdd, Int.reduceSub, Int.reduceMul, Int.reduceEq, Int.reduceToNat, Int.reduceNeg, Int.reduceNe])
  refine call_intro (rd16 (q := q5 q) (by first | exact S | exact S.p1 | exact S.p2 | exact S.p3 | exact S.p4 | exact S.p5 | exact S.p6 | exact S.p7 | exact S.p8 | exact S.p9 | exact S.p10 | exact S.p11) (by omega)) ?_
  rintro _ h ⟨rfl, S⟩
  change St _ _ (inA i (q6 q).1 (q6 q).2 :: _) at S
  (try simp (disch := first | omega | assumption | exact Nat.le_of_ble_eq_true rfl) only [go_sem, ↓mwp_block, Nat.reduceEqDiff, Nat.reduceAdd, Nat.reduceMul, Nat.reduceSub, Nat.reduceLeDiff, Nat.reduceLT, reduceIte, Int.reduceLT, Int.reduceLE, Int.reduceAdd, Int.reduceSub, Int.reduceMul, Int.reduceEq, Int.reduceToNat, Int.reduceNeg, Int.reduceNe])
  (refine st_store (by first | exact S | exact S.p1 | exact S.p2 | exact S.p3 | exact S.p4 | exact S.p5 | exact S.p6 | exact S.p7 | exact S.p8 | exact S.p9 | exact S.p10 | exact S.p11) (by rfl) (by rfl) (Nat.le_of_ble_eq_true rfl) ?_; clear S; intro h S; (try simp only [splice_cons, splice_nil, List.set_cons_zero, List.set_cons_succ, Nat.zero_add, Nat.reduceAdd, List.cons_append, List.nil_append] at S); ((try clear F); have F := S.all; (try simp only [all_cons, all_nil, says_cell, and_true] at F)))
  (try simp (disch := first | omega | assumption | exact Nat.le_of_ble_eq_true rfl) only [go_sem, ↓mwp_block, Nat.reduceEqDiff, Nat.reduceAdd, Nat.reduceMul, Nat.reduceSub, Nat.reduceLeDiff, Nat.reduceLT, reduceIte, Int.reduceLT, Int.reduceLE, Int.reduceAdd, Int.reduceSub, Int.reduceMul, Int.reduceEq, Int.reduceToNat, Int.reduceNeg, Int.reduceNe])
  refine loop_unroll 5 ?_
  (try simp (disch := first | omega | assumption | exact Nat.le_of_ble_eq_true rfl) only [go_sem, ↓mwp_block, Nat.reduceEqDiff, Nat.reduceAdd, Nat.reduceMul, Nat.reduceSub, Nat.reduceLeDiff, Nat.reduceLT, reduceIte, Int.reduceLT, Int.reduceLE, Int.reduceAdd, Int.reduceSub, Int.reduceMul, Int.reduceEq, Int.reduceToNat, Int.reduceNeg, Int.reduceNe])
  refine call_intro (rd16 (q := q6 q) (by first | exact S | exact S.p1 | exact S.p2 | exact S.p3 | exact S.p4 | exact S.p5 | exact S.p6 | exact S.p7 | exact S.p8 | exact S.p9 | exact S.p10 | exact S.p11) (by omega)) ?_
  rintro _ h ⟨rfl, S⟩
  change St _ _ (inA i (q7 q).1 (q7 q).2 :: _) at S
  (try simp (disch := first | omega | assumption | exact Nat.le_of_ble_eq_true rfl) only [go_sem, ↓mwp_block, Nat.reduceEqDiff, Nat.reduceAdd, Nat.reduceMul, Nat.reduceSub, Nat.reduceLeDiff, Nat.reduceLT, reduceIte, Int.reduceLT, Int.reduceLE, Int.reduceAdd, Int.reduceSub, Int.reduceMul, Int.reduceEq, Int.reduceToNat, Int.reduceNeg, Int.reduceNe])
  refine call_intro (rd8 (q := q7 q) (by first | exact S | exact S.p1 | exact S.p2 | exact S.p3 | exact S.p4 | exact S.p5 | exact S.p6 | exact S.p7 | exact S.p8 | exact S.p9 | exact S.p10 | exact S.p11) (by omega)) ?_
  rintro _ h ⟨rfl, S⟩
  change St _ _ (inA i (q8 q).1 (q8 q).2 :: _) at S
  (try simp (disch := first | omega | assumption | exact Nat.le_of_ble_eq_true rfl) only [go_sem, ↓mwp_block, Nat.reduceEqDiff, Nat.reduceAdd, Nat.reduceMul, Nat.reduceSub, Nat.reduceLeDiff, Nat.reduceLT, reduceIte, Int.reduceLT, Int.reduceLE, Int.reduceAdd, Int.reduceSub, Int.reduceMul, Int.reduceEq, Int.reduceToNat, Int.reduceNeg, Int.reduceNe])
  (refine st_store (by first | exact S | exact S.p1 | exact S.p2 | exact S.p3 | exact S.p4 | exact S.p5 | exact S.p6 | exact S.p7 | exact S.p8 | exact S.p9 | exact S.p10 | exact S.p11) (by rfl) (by rfl) (Nat.le_of_ble_eq_true rfl) ?_; clear S; intro h S; (try simp only [splice_cons, splice_nil, List.set_cons_zero, List.set_cons_succ, Nat.zero_add, Nat.reduceAdd, List.cons_append, List.nil_append] at S); ((try clear F); have F := S.all; (try simp only [all_cons, all_nil, says_cell, and_true] at F)))
  (try simp (disch := first | omega | assumption | exact Nat.le_of_ble_eq_true rfl) only [go_sem, ↓mwp_block, Nat.reduceEqDiff, Nat.reduceAdd, Nat.reduceMul, Nat.reduceSub, Nat.reduceLeDiff, Nat.reduceLT, reduceIte, Int.reduceLT, Int.reduceLE, Int.reduceAdd, Int.reduceSub, Int.reduceMul, Int.reduceEq, Int.reduceToNat, Int.reduceNeg, Int.reduceNe])
  refine call_intro (rd16 (q := q8 q) (by first | exact S | exact S.p1 | exact S.p2 | exact S.p3 | exact S.p4 | exact S.p5 | exact S.p6 | exact S.p7 | exact S.p8 | exact S.p9 | exact S.p10 | exact S.p11) (by omega)) ?_
  rintro _ h ⟨rfl, S⟩
  change St _ _ (inA i (q9 q).1 (q9 q).2 :: _) at S
  (try simp (disch := first | omega | assumption | exact Nat.le_of_ble_eq_true rfl) only [go_sem, ↓mwp_block, Nat.reduceEqDiff, Nat.reduceAdd, Nat.reduceMul, Nat.reduceSub, Nat.reduceLeDiff, Nat.reduceLT, reduceIte, Int.reduceLT, Int.reduceLE, Int.reduceAdd, Int.reduceSub, Int.reduceMul, Int.reduceEq, Int.reduceToNat, Int.reduceNeg, Int.reduceNe])
  refine call_intro (rd8 (q := q9 q) (by first | exact S | exact S.p1 | exact S.p2 | exact S.p3 | exact S.p4 | exact S.p5 | exact S.p6 | exact S.p7 | exact S.p8 | exact S.p9 | exact S.p10 | exact S.p11) (by omega)) ?_
  rintro _ h ⟨rfl, S⟩
  change St _ _ (inA i (q10 q).1 (q10 q).2 :: _) at S
  (try simp (disch := first | omega | assumption | exact Nat.le_of_ble_eq_true rfl) only [go_sem, ↓mwp_block, Nat.reduceEqDiff, Nat.reduceAdd, Nat.reduceMul, Nat.reduceSub, Nat.reduceLeDiff, Nat.reduceLT, reduceIte, Int.reduceLT, Int.reduceLE, Int.reduceAdd, Int.reduceSub, Int.reduceMul, Int.reduceEq, Int.reduceToNat, Int.reduceNeg, Int.reduceNe])
  (refine st_store (by first | exact S | exact S.p1 | exact S.p2 | exact S.p3 | exact S.p4 | exact S.p5 | exact S.p6 | exact S.p7 | exact S.p8 | exact S.p9 | exact S.p10 | exact S.p11) (by rfl) (by rfl) (Nat.le_of_ble_eq_true rfl) ?_; clear S; intro h S; (try simp only [splice_cons, splice_nil, List.set_cons_zero, List.set_cons_succ, Nat.zero_add, Nat.reduceAdd, List.cons_append, List.nil_append] at S); ((try clear F); have F := S.all; (try simp only [all_cons, all_nil, says_cell, and_true] at F)))
  (try simp (disch := first | omega | assumption | exact Nat.le_of_ble_eq_true rfl) only [go_sem, ↓mwp_block, Nat.reduceEqDiff, Nat.reduceAdd, Nat.reduceMul, Nat.reduceSub, Nat.reduceLeDiff, Nat.reduceLT, reduceIte, Int.reduceLT, Int.reduceLE, Int.reduceAdd, Int.reduceSub, Int.reduceMul, Int.reduceEq, Int.reduceToNat, Int.reduceNeg, Int.reduceNe])
  refine call_intro (rd16 (q := q10 q) (by first | exact S | exact S.p1 | exact S.p2 | exact S.p3 | exact S.p4 | exact S.p5 | exact S.p6 | exact S.p7 | exact S.p8 | exact S.p9 | exact S.p10 | exact S.p11) (by omega)) ?_
  rintro _ h ⟨rfl, S⟩
  change St _ _ (inA i (q11 q).1 (q11 q).2 :: _) at S
  (try simp (disch := first | omega | assumption | exact Nat.le_of_ble_eq_true rfl) only [go_sem, ↓mwp_block, Nat.reduceEqDiff, Nat.reduceAdd, Nat.reduceMul, Nat.reduceSub, Nat.reduceLeDiff, Nat.reduceLT, reduceIte, Int.reduceLT, Int.reduceLE, Int.reduceAdd, Int.reduceSub, Int.reduceMul, Int.reduceEq, Int.reduceToNat, Int.reduceNeg, Int.reduceNe])
  refine call_intro (rd8 (q := q11 q) (by first | exact S | exact S.p1 | exact S.p2 | exact S.p3 | exact S.p4 | exact S.p5 | exact S.p6 | exact S.p7 | exact S.p8 | exact S.p9 | exact S.p10 | exact S.p11) (by omega)) ?_
  rintro _ h ⟨rfl, S⟩
  change St _ _ (inA i (q12 q).1 (q12 q).2 :: _) at S
  (try simp (disch := first | omega | assumption | exact Nat.le_of_ble_eq_true rfl) only [go_sem, ↓mwp_block, Nat.reduceEqDiff, Nat.reduceAdd, Nat.reduceMul, Nat.reduceSub, Nat.reduceLeDiff, Nat.reduceLT, reduceIte, Int.reduceLT, Int.reduceLE, Int.reduceAdd, Int.reduceSub, Int.reduceMul, Int.reduceEq, Int.reduceToNat, Int.reduceNeg, Int.reduceNe])
  (refine st_store (by first | exact S | exact S.p1 | exact S.p2 | exact S.p3 | exact S.p4 | exact S.p5 | exact S.p6 | exact S.p7 | exact S.p8 | exact S.p9 | exact S.p10 | exact S.p11) (by rfl) (by rfl) (Nat.le_of_ble_eq_true rfl) ?_; clear S; intro h S; (try simp only [splice_cons, splice_nil, List.set_cons_zero, List.set_cons_succ, Nat.zero_add, Nat.reduceAdd, List.cons_append, List.nil_append] at S); ((try clear F); have F := S.all; (try simp only [all_cons, all_nil, says_cell, and_true] at F)))
  (try simp (disch := first | omega | assumption | exact Nat.le_of_ble_eq_true rfl) only [go_sem, ↓mwp_block, Nat.reduceEqDiff, Nat.reduceAdd, Nat.reduceMul, Nat.reduceSub, Nat.reduceLeDiff, Nat.reduceLT, reduceIte, Int.reduceLT, Int.reduceLE, Int.reduceAdd, Int.reduceSub, Int.reduceMul, Int.reduceEq, Int.reduceToNat, Int.reduceNeg, Int.reduceNe])
  refine call_intro (rd16 (q := q12 q) (by first | exact S | exact S.p1 | exact S.p2 | exact S.p3 | exact S.p4 | exact S.p5 | exact S.p6 | exact S.p7 | exact S.p8 | exact S.p9 | exact S.p10 | exact S.p11) (by omega)) ?_
  rintro _ h ⟨rfl, S⟩
  change St _ _ (inA i (q13 q).1 (q13 q).2 :: _) at S
  (try simp (disch := first | omega | assumption | exact Nat.le_of_ble_eq_true rfl) only [go_sem, ↓mwp_block, Nat.reduceEqDiff, Nat.reduceAdd, Nat.reduceMul, Nat.reduceSub, Nat.reduceLeDiff, Nat.reduceLT, reduceIte, Int.reduceLT, Int.reduceLE, Int.reduceAdd, Int.reduceSub, Int.reduceMul, Int.reduceEq, Int.reduceToNat, Int.reduceNeg, Int.reduceNe])
  refine call_intro (rd8 (q := q13 q) (by first | exact S | exact S.p1 | exact S.p2 | exact S.p3 | exact S.p4 | exact S.p5 | exact S.p6 | exact S.p7 | exact S.p8 | exact S.p9 | exact S.p10 | exact S.p11) (by omega)) ?_
  rintro _ h ⟨rfl, S⟩
  change St _ _ (inA i (q14 q).1 (q14 q).2 :: _) at S
  (try simp (disch := first | omega | assumption | exact Nat.le_of_ble_eq_true rfl) only [go_sem, ↓mwp_block, Nat.reduceEqDiff, Nat.reduceAdd, Nat.reduceMul, Nat.reduceSub, Nat.reduceLeDiff, Nat.reduceLT, reduceIte, Int.reduceLT, Int.reduceLE, Int.reduceAdd, Int.reduceSub, Int.reduceMul, Int.reduceEq, Int.reduceToNat, Int.reduceNeg, Int.reduceNe])
  (refine st_store (by first | exact S | exact S.p1 | exact S.p2 | exact S.p3 | exact S.p4 | exact S.p5 | exact S.p6 | exact S.p7 | exact S.p8 | exact S.p9 | exact S.p10 | exact S.p11) (by rfl) (by rfl) (Nat.le_of_ble_eq_true rfl) ?_; clear S; intro h S; (try simp only [splice_cons, splice_nil, List.set_cons_zero, List.set_cons_succ, Nat.zero_add, Nat.reduceAdd, List.cons_append, List.nil_append] at S); ((try clear F); have F := S.all; (try simp only [all_cons, all_nil, says_cell, and_true] at F)))
  (try simp (disch := first | omega | assumption | exact Nat.le_of_ble_eq_true rfl) only [go_sem, ↓mwp_block, Nat.reduceEqDiff, Nat.reduceAdd, Nat.reduceMul, Nat.reduceSub, Nat.reduceLeDiff, Nat.reduceLT, reduceIte, Int.reduceLT, Int.reduceLE, Int.reduceAdd, Int.reduceSub, Int.reduceMul, Int.reduceEq, Int.reduceToNat, Int.reduceNeg, Int.reduceNe, F])
  (refine st_store (by first | exact S | exact S.p1 | exact S.p2 | exact S.p3 | exact S.p4 | exact S.p5 | exact S.p6 | exact S.p7 | exact S.p8 | exact S.p9 | exact S.p10 | exact S.p11) (by rfl) (by rfl) (Nat.le_of_ble_eq_true rfl) ?_; clear S; intro h S; (try simp only [splice_cons, splice_nil, List.set_cons_zero, List.set_cons_succ, Nat.zero_add, Nat.reduceAdd, List.cons_append, List.nil_append] at S); ((try clear F); have F := S.all; (try simp only [all_cons, all_nil, says_cell, and_true] at F)))
  (try simp (disch := first | omega | assumption | exact Nat.le_of_ble_eq_true rfl) only [go_sem, ↓mwp_block, Nat.reduceEqDiff, Nat.reduceAdd, Nat.reduceMul, Nat.reduceSub, Nat.reduceLeDiff, Nat.reduceLT, reduceIte, Int.reduceLT, Int.reduceLE, Int.reduceAdd, Int.reduceSub, Int.reduceMul, Int.reduceEq, Int.reduceToNat, Int.reduceNeg, Int.reduceNe, F])
  refine hK _ _ ⟨rfl, ?_⟩
  exact S.tl.tl
end Go.Proofs.Ytackopkhelochaa.MX
