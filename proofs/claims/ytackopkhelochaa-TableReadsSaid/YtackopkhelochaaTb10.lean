/- The law TableReads. -/
import Derived.Test.YtackopkhelochaaTb9
import Derived.Test.YtackopkhelochaaFr2
namespace Go.Proofs.Ytackopkhelochaa.MX
open Go Go.Proofs
set_option linter.unusedSimpArgs false
set_option linter.unusedVariables false

theorem TableReads_ok' (A : Option Addr) (c : Nat) (b : List UInt8) (h : Heap) (ha : Arr bEnc 1 h A b) (hc : b.length ≤ c) :
    CallsH Try.prog 10 [.slice A b.length c] h fun v h' => v = .bool true ∧ Fr h h' [] := by
  have S := St.nil h
  (refine enterK c_recouplaw08_TableReads (Nat.le_of_ble_eq_true rfl) fun K hK => ?_; (try simp (disch := first | omega | assumption | exact Nat.le_of_ble_eq_true rfl) only [go_sem, ↓mwp_block, Nat.reduceEqDiff, Nat.reduceAdd, Nat.reduceMul, Nat.reduceSub, Nat.reduceLeDiff, Nat.reduceLT, reduceIte, Int.reduceLT, Int.reduceLE, Int.reduceAdd, Int.reduceSub, Int.reduceMul, Int.reduceEq, Int.reduceToNat, Int.reduceNeg, Int.reduceNe, ir_recouplaw08_TableReads]))
  refine call_intro (awake08_ok _) ?_
  rintro _ h1 ⟨rfl, hf⟩
  have S := S.frame hf
  (try simp (disch := first | omega | assumption | exact Nat.le_of_ble_eq_true rfl) only [go_sem, ↓mwp_block, Nat.reduceEqDiff, Nat.reduceAdd, Nat.reduceMul, Nat.reduceSub, Nat.reduceLeDiff, Nat.reduceLT, reduceIte, Int.reduceLT, Int.reduceLE, Int.reduceAdd, Int.reduceSub, Int.reduceMul, Int.reduceEq, Int.reduceToNat, Int.reduceNeg, Int.reduceNe])
  refine cond_dec (fun hg => ?_) (fun hg => ?_)
  · (try simp (disch := first | omega | assumption | exact Nat.le_of_ble_eq_true rfl) only [go_sem, ↓mwp_block, Nat.reduceEqDiff, Nat.reduceAdd, Nat.reduceMul, Nat.reduceSub, Nat.reduceLeDiff, Nat.reduceLT, reduceIte, Int.reduceLT, Int.reduceLE, Int.reduceAdd, Int.reduceSub, Int.reduceMul, Int.reduceEq, Int.reduceToNat, Int.reduceNeg, Int.reduceNe])
    refine call_intro (awake08_ok _) ?_
    rintro _ h2 ⟨rfl, hf⟩
    (try simp (disch := first | omega | assumption | exact Nat.le_of_ble_eq_true rfl) only [go_sem, ↓mwp_block, Nat.reduceEqDiff, Nat.reduceAdd, Nat.reduceMul, Nat.reduceSub, Nat.reduceLeDiff, Nat.reduceLT, reduceIte, Int.reduceLT, Int.reduceLE, Int.reduceAdd, Int.reduceSub, Int.reduceMul, Int.reduceEq, Int.reduceToNat, Int.reduceNeg, Int.reduceNe])
    exact hK _ _ ⟨rfl, (S.frame hf).fr⟩
  · (try simp (disch := first | omega | assumption | exact Nat.le_of_ble_eq_true rfl) only [go_sem, ↓mwp_block, Nat.reduceEqDiff, Nat.reduceAdd, Nat.reduceMul, Nat.reduceSub, Nat.reduceLeDiff, Nat.reduceLT, reduceIte, Int.reduceLT, Int.reduceLE, Int.reduceAdd, Int.reduceSub, Int.reduceMul, Int.reduceEq, Int.reduceToNat, Int.reduceNeg, Int.reduceNe])
    refine call_intro (Decode_ok S (ha.fr S.fr (by simp)) (by omega)) ?_
    rintro _ h (⟨l, s, hR, he, rfl, S⟩ | ⟨hN, rfl, S⟩)
    · obtain ⟨B, d, rfl⟩ := S.sl
      have h16 := hR.1
      (try simp (disch := first | omega | assumption | exact Nat.le_of_ble_eq_true rfl) only [go_sem, ↓mwp_block, Nat.reduceEqDiff, Nat.reduceAdd, Nat.reduceMul, Nat.reduceSub, Nat.reduceLeDiff, Nat.reduceLT, reduceIte, Int.reduceLT, Int.reduceLE, Int.reduceAdd, Int.reduceSub, Int.reduceMul, Int.reduceEq, Int.reduceToNat, Int.reduceNeg, Int.reduceNe])
      refine call_intro (RightTable_ok (S.arr Pol.enc_len) (by omega)) ?_
      rintro _ h ⟨rfl, hf⟩
      have S := S.frame hf
      (try simp (disch := first | omega | assumption | exact Nat.le_of_ble_eq_true rfl) only [go_sem, ↓mwp_block, Nat.reduceEqDiff, Nat.reduceAdd, Nat.reduceMul, Nat.reduceSub, Nat.reduceLeDiff, Nat.reduceLT, reduceIte, Int.reduceLT, Int.reduceLE, Int.reduceAdd, Int.reduceSub, Int.reduceMul, Int.reduceEq, Int.reduceToNat, Int.reduceNeg, Int.reduceNe])
      refine call_intro (bytes_ok S (fun h' S => S.arr Pol.enc_len) hR) ?_
      intro r h S
      obtain ⟨B2, d2, rfl⟩ := S.sl
      (try simp (disch := first | omega | assumption | exact Nat.le_of_ble_eq_true rfl) only [go_sem, ↓mwp_block, Nat.reduceEqDiff, Nat.reduceAdd, Nat.reduceMul, Nat.reduceSub, Nat.reduceLeDiff, Nat.reduceLT, reduceIte, Int.reduceLT, Int.reduceLE, Int.reduceAdd, Int.reduceSub, Int.reduceMul, Int.reduceEq, Int.reduceToNat, Int.reduceNeg, Int.reduceNe])
      refine call_intro (Bytes_ok (S.arr bEnc_len) (ha.fr S.fr (by simp)) (by rw [encT_len]; omega) (by omega)) ?_
      rintro _ _ ⟨rfl, rfl⟩
      (try simp (disch := first | omega | assumption | exact Nat.le_of_ble_eq_true rfl) only [go_sem, ↓mwp_block, Nat.reduceEqDiff, Nat.reduceAdd, Nat.reduceMul, Nat.reduceSub, Nat.reduceLeDiff, Nat.reduceLT, reduceIte, Int.reduceLT, Int.reduceLE, Int.reduceAdd, Int.reduceSub, Int.reduceMul, Int.reduceEq, Int.reduceToNat, Int.reduceNeg, Int.reduceNe])
      exact hK _ _ ⟨rfl, S.fr⟩
    · (try simp (disch := first | omega | assumption | exact Nat.le_of_ble_eq_true rfl) only [go_sem, ↓mwp_block, Nat.reduceEqDiff, Nat.reduceAdd, Nat.reduceMul, Nat.reduceSub, Nat.reduceLeDiff, Nat.reduceLT, reduceIte, Int.reduceLT, Int.reduceLE, Int.reduceAdd, Int.reduceSub, Int.reduceMul, Int.reduceEq, Int.reduceToNat, Int.reduceNeg, Int.reduceNe])
      refine call_intro (readable_ok S ha hc (by omega)) ?_
      rintro _ h ⟨rfl, S⟩
      rw [dcd_false hN]
      (try simp (disch := first | omega | assumption | exact Nat.le_of_ble_eq_true rfl) only [go_sem, ↓mwp_block, Nat.reduceEqDiff, Nat.reduceAdd, Nat.reduceMul, Nat.reduceSub, Nat.reduceLeDiff, Nat.reduceLT, reduceIte, Int.reduceLT, Int.reduceLE, Int.reduceAdd, Int.reduceSub, Int.reduceMul, Int.reduceEq, Int.reduceToNat, Int.reduceNeg, Int.reduceNe])
      exact hK _ _ ⟨rfl, S.fr⟩
theorem TableReads_ok (A : Option Addr) (c : Nat) (xs : List U8) (h : Heap) (ha : Arr U8.enc 1 h A xs) (h1 : xs.length ≤ c) (h2 : c ≤ maxLen) (hok : ∀ x ∈ xs, x.ok) :
    CallsH Try.prog 10 [.slice A xs.length c] h fun v h' => v = .bool true ∧ Fr h h' [] := by
  have := TableReads_ok' A c (xs.map U8.n) h (arrU8 ha) (by simpa using h1)
  rwa [List.length_map] at this
end Go.Proofs.Ytackopkhelochaa.MX
