/- The document's tables: which are right, and their bytes. -/
import Derived.Test.YtackopkhelochaaTb3
import Derived.Test.YtackopkhelochaaBy2
namespace Go.Proofs.Ytackopkhelochaa.MX
open Go Go.Proofs
set_option linter.unusedSimpArgs false
set_option linter.unusedVariables false

def Pol.fee (p : Pol) : Nat → Int | 0 => p.f0 | 1 => p.f1 | 2 => p.f2 | _ => p.f3
def Pol.sh (p : Pol) : Nat → Int | 0 => p.s0 | 1 => p.s1 | 2 => p.s2 | _ => p.s3
def Pol.to (p : Pol) : Nat → Int | 0 => p.t0 | 1 => p.t1 | 2 => p.t2 | _ => p.t3
def Pol.okAt (p : Pol) (i : Nat) : Prop := okPts (p.fee i) ∧ okGrade (p.sh i) (p.to i)
theorem Pol.right_iff (p : Pol) : p.right ↔ (∀ i, i < 4 → p.okAt i) ∧ 0 ≤ p.w ∧ p.w ≤ 1000 := by
  constructor
  · rintro ⟨⟨a0, a1, a2, a3⟩, ⟨b0, b1, b2, b3⟩, hw⟩
    refine ⟨fun i hi => ?_, hw⟩
    obtain rfl | rfl | rfl | rfl : i = 0 ∨ i = 1 ∨ i = 2 ∨ i = 3 := by omega
    · exact ⟨a0, b0⟩
    · exact ⟨a1, b1⟩
    · exact ⟨a2, b2⟩
    · exact ⟨a3, b3⟩
  · rintro ⟨h, hw⟩
    have h0 := h 0 (by omega)
    have h1 := h 1 (by omega)
    have h2 := h 2 (by omega)
    have h3 := h 3 (by omega)
    exact ⟨⟨h0.1, h1.1, h2.1, h3.1⟩, ⟨h0.2, h1.2, h2.2, h3.2⟩, hw⟩
theorem Pol.enc_fee (p : Pol) {i : Nat} (hi : i < 4) : p.enc[4 + i]? = some (.int .i64 (p.fee i)) := by
  obtain rfl | rfl | rfl | rfl : i = 0 ∨ i = 1 ∨ i = 2 ∨ i = 3 := by omega
  all_goals rfl
theorem Pol.enc_gr (p : Pol) {i : Nat} (hi : i < 4) : (p.enc.drop (8 + i * 2)).take 2 = [.int .i64 (p.sh i), .int .i64 (p.to i)] := by
  obtain rfl | rfl | rfl | rfl : i = 0 ∨ i = 1 ∨ i = 2 ∨ i = 3 := by omega
  all_goals rfl
theorem Pol.enc_sh (p : Pol) {i : Nat} (hi : i < 4) : p.enc[8 + i * 2]? = some (.int .i64 (p.sh i)) := by
  obtain rfl | rfl | rfl | rfl : i = 0 ∨ i = 1 ∨ i = 2 ∨ i = 3 := by omega
  all_goals rfl
theorem Pol.enc_to (p : Pol) {i : Nat} (hi : i < 4) : p.enc[8 + i * 2 + 1]? = some (.int .i64 (p.to i)) := by
  obtain rfl | rfl | rfl | rfl : i = 0 ∨ i = 1 ∨ i = 2 ∨ i = 3 := by omega
  all_goals rfl

set_option maxHeartbeats 4000000 in
theorem RightPolicy_ok (p : Pol) (h0 : Heap) : CallsH Try.prog 62 [.agg p.enc.toArray] h0 fun v h' => v = .bool (dcd p.right) ∧ Fr h0 h' [] := by
  have S := St.nil h0
  have hel : p.enc.length = 16 := rfl
  (refine enterK c_recoupref05_RightPolicy (Nat.le_of_ble_eq_true rfl) fun K hK => ?_; (try simp (disch := first | omega | assumption | exact Nat.le_of_ble_eq_true rfl) only [go_sem, ↓mwp_block, Nat.reduceEqDiff, Nat.reduceAdd, Nat.reduceMul, Nat.reduceSub, Nat.reduceLeDiff, Nat.reduceLT, reduceIte, Int.reduceLT, Int.reduceLE, Int.reduceAdd, Int.reduceSub, Int.reduceMul, Int.reduceEq, Int.reduceToNat, Int.reduceNeg, Int.reduceNe, ir_recoupref05_RightPolicy]))
  (refine st_alloc S ?_; clear S; intro b h S; (try simp only [splice_cons, splice_nil, List.set_cons_zero, List.set_cons_succ, Nat.zero_add, Nat.reduceAdd, List.cons_append, List.nil_append] at S); ((try clear F); have F := S.all; (try simp only [all_cons, all_nil, says_cell, and_true] at F)))
  (try simp (disch := first | omega | assumption | exact Nat.le_of_ble_eq_true rfl) only [go_sem, ↓mwp_block, Nat.reduceEqDiff, Nat.reduceAdd, Nat.reduceMul, Nat.reduceSub, Nat.reduceLeDiff, Nat.reduceLT, reduceIte, Int.reduceLT, Int.reduceLE, Int.reduceAdd, Int.reduceSub, Int.reduceMul, Int.reduceEq, Int.reduceToNat, Int.reduceNeg, Int.reduceNe, F])
  refine loop_intro (fun ρ h' => ρ 1 = .pointer (some ⟨b, 0, none⟩) ∧ ∃ i : Nat, ρ 5 = .int .i64 i ∧ i ≤ 4 ∧ (∀ j, j < i → p.okAt j) ∧ St h0 h' [cellA b p.enc 41]) (fun ρ _ => 4 - (iv (ρ 5)).toNat) ?_ ?_
  · (try simp (disch := first | omega | assumption | exact Nat.le_of_ble_eq_true rfl) only [go_sem, ↓mwp_block, Nat.reduceEqDiff, Nat.reduceAdd, Nat.reduceMul, Nat.reduceSub, Nat.reduceLeDiff, Nat.reduceLT, reduceIte, Int.reduceLT, Int.reduceLE, Int.reduceAdd, Int.reduceSub, Int.reduceMul, Int.reduceEq, Int.reduceToNat, Int.reduceNeg, Int.reduceNe])
    exact ⟨0, rfl, by omega, by omega, S⟩
  · clear S F
    rintro ρ h' J hJ ⟨e1, i, e5, hi, hok, S⟩
    (try simp (disch := first | omega | assumption | exact Nat.le_of_ble_eq_true rfl) only [go_sem, ↓mwp_block, Nat.reduceEqDiff, Nat.reduceAdd, Nat.reduceMul, Nat.reduceSub, Nat.reduceLeDiff, Nat.reduceLT, reduceIte, Int.reduceLT, Int.reduceLE, Int.reduceAdd, Int.reduceSub, Int.reduceMul, Int.reduceEq, Int.reduceToNat, Int.reduceNeg, Int.reduceNe, e5])
    refine cond_dec (fun hg => ?_) (fun hg => ?_)
    · have hi4 : i < 4 := by omega
      have g1 := p.enc_fee hi4
      have g2 := p.enc_gr hi4
      have hfail : ¬ p.okAt i → ¬ p.right := fun h1 h2 => h1 (p.right_iff.1 h2 |>.1 i hi4)
      have hnext : p.okAt i → ∀ j, j < i + 1 → p.okAt j := fun h1 j hj => by
        rcases Nat.lt_or_ge j i with h2 | h2
        · exact hok j h2
        · obtain rfl : j = i := by omega
          exact h1
      simp only [Pol.okAt] at hfail hnext
      generalize p.fee i = f at g1 hfail hnext
      generalize p.sh i = s at g2 hfail hnext
      generalize p.to i = t at g2 hfail hnext
      ((try clear F); have F := S.all; (try simp only [all_cons, all_nil, says_cell, and_true] at F))
      (try simp (disch := first | omega | assumption | exact Nat.le_of_ble_eq_true rfl) only [go_sem, ↓mwp_block, Nat.reduceEqDiff, Nat.reduceAdd, Nat.reduceMul, Nat.reduceSub, Nat.reduceLeDiff, Nat.reduceLT, reduceIte, Int.reduceLT, Int.reduceLE, Int.reduceAdd, Int.reduceSub, Int.reduceMul, Int.reduceEq, Int.reduceToNat, Int.reduceNeg, Int.reduceNe, e1, e5, F, Nat.mul_one, g2])
      (refine st_alloc S ?_; clear S; intro q h S; (try simp only [splice_cons, splice_nil, List.set_cons_zero, List.set_cons_succ, Nat.zero_add, Nat.reduceAdd, List.cons_append, List.nil_append] at S); ((try clear F); have F := S.all; (try simp only [all_cons, all_nil, says_cell, and_true] at F)))
      (try simp (disch := first | omega | assumption | exact Nat.le_of_ble_eq_true rfl) only [go_sem, ↓mwp_block, Nat.reduceEqDiff, Nat.reduceAdd, Nat.reduceMul, Nat.reduceSub, Nat.reduceLeDiff, Nat.reduceLT, reduceIte, Int.reduceLT, Int.reduceLE, Int.reduceAdd, Int.reduceSub, Int.reduceMul, Int.reduceEq, Int.reduceToNat, Int.reduceNeg, Int.reduceNe, e1, e5, F, Nat.mul_one, g1, g2])
      (refine st_store (by first | exact S | exact S.p1 | exact S.p2 | exact S.p3 | exact S.p4 | exact S.p5 | exact S.p6 | exact S.p7 | exact S.p8 | exact S.p9 | exact S.p10 | exact S.p11) (by rfl) (by rfl) (Nat.le_of_ble_eq_true rfl) ?_; clear S; intro h S; (try simp only [splice_cons, splice_nil, List.set_cons_zero, List.set_cons_succ, Nat.zero_add, Nat.reduceAdd, List.cons_append, List.nil_append] at S); ((try clear F); have F := S.all; (try simp only [all_cons, all_nil, says_cell, and_true] at F)))
      (try simp (disch := first | omega | assumption | exact Nat.le_of_ble_eq_true rfl) only [go_sem, ↓mwp_block, Nat.reduceEqDiff, Nat.reduceAdd, Nat.reduceMul, Nat.reduceSub, Nat.reduceLeDiff, Nat.reduceLT, reduceIte, Int.reduceLT, Int.reduceLE, Int.reduceAdd, Int.reduceSub, Int.reduceMul, Int.reduceEq, Int.reduceToNat, Int.reduceNeg, Int.reduceNe, e1, e5, F, Nat.mul_one, g1])
      refine call_intro (refPoints_ok _ _) ?_
      rintro _ _ ⟨rfl, rfl⟩
      have S' := S.tl
      by_cases hf : okPts f
      · (try simp (disch := first | omega | assumption | exact Nat.le_of_ble_eq_true rfl) only [go_sem, ↓mwp_block, Nat.reduceEqDiff, Nat.reduceAdd, Nat.reduceMul, Nat.reduceSub, Nat.reduceLeDiff, Nat.reduceLT, reduceIte, Int.reduceLT, Int.reduceLE, Int.reduceAdd, Int.reduceSub, Int.reduceMul, Int.reduceEq, Int.reduceToNat, Int.reduceNeg, Int.reduceNe, F])
        refine call_intro (refPoints_ok _ _) ?_
        rintro _ _ ⟨rfl, rfl⟩
        by_cases hs : okPts s
        · by_cases ht : okGrade s t
          · have hgo : p.okAt i → True := fun _ => trivial
            rcases ht.2 with ⟨ht0, hs0⟩ | ⟨ht3, ht5⟩
            · (try simp (disch := first | omega | assumption | exact Nat.le_of_ble_eq_true rfl) only [go_sem, ↓mwp_block, Nat.reduceEqDiff, Nat.reduceAdd, Nat.reduceMul, Nat.reduceSub, Nat.reduceLeDiff, Nat.reduceLT, reduceIte, Int.reduceLT, Int.reduceLE, Int.reduceAdd, Int.reduceSub, Int.reduceMul, Int.reduceEq, Int.reduceToNat, Int.reduceNeg, Int.reduceNe, F, e1, e5])
              refine hJ _ _ ?_ ?_
              · (try simp (disch := first | omega | assumption | exact Nat.le_of_ble_eq_true rfl) only [go_sem, ↓mwp_block, Nat.reduceEqDiff, Nat.reduceAdd, Nat.reduceMul, Nat.reduceSub, Nat.reduceLeDiff, Nat.reduceLT, reduceIte, Int.reduceLT, Int.reduceLE, Int.reduceAdd, Int.reduceSub, Int.reduceMul, Int.reduceEq, Int.reduceToNat, Int.reduceNeg, Int.reduceNe, e1, e5])
                exact ⟨i + 1, rfl, by omega, hnext ⟨hf, ht⟩, S'⟩
              · (try simp (disch := first | omega | assumption | exact Nat.le_of_ble_eq_true rfl) only [go_sem, ↓mwp_block, Nat.reduceEqDiff, Nat.reduceAdd, Nat.reduceMul, Nat.reduceSub, Nat.reduceLeDiff, Nat.reduceLT, reduceIte, Int.reduceLT, Int.reduceLE, Int.reduceAdd, Int.reduceSub, Int.reduceMul, Int.reduceEq, Int.reduceToNat, Int.reduceNeg, Int.reduceNe, e5])
                omega
            · obtain rfl | rfl | rfl : t = 3 ∨ t = 4 ∨ t = 5 := by omega
              all_goals
                (try simp (disch := first | omega | assumption | exact Nat.le_of_ble_eq_true rfl) only [go_sem, ↓mwp_block, Nat.reduceEqDiff, Nat.reduceAdd, Nat.reduceMul, Nat.reduceSub, Nat.reduceLeDiff, Nat.reduceLT, reduceIte, Int.reduceLT, Int.reduceLE, Int.reduceAdd, Int.reduceSub, Int.reduceMul, Int.reduceEq, Int.reduceToNat, Int.reduceNeg, Int.reduceNe, F, e1, e5])
                refine hJ _ _ ?_ ?_
                · (try simp (disch := first | omega | assumption | exact Nat.le_of_ble_eq_true rfl) only [go_sem, ↓mwp_block, Nat.reduceEqDiff, Nat.reduceAdd, Nat.reduceMul, Nat.reduceSub, Nat.reduceLeDiff, Nat.reduceLT, reduceIte, Int.reduceLT, Int.reduceLE, Int.reduceAdd, Int.reduceSub, Int.reduceMul, Int.reduceEq, Int.reduceToNat, Int.reduceNeg, Int.reduceNe, e1, e5])
                  exact ⟨i + 1, rfl, by omega, hnext ⟨hf, ht⟩, S'⟩
                · (try simp (disch := first | omega | assumption | exact Nat.le_of_ble_eq_true rfl) only [go_sem, ↓mwp_block, Nat.reduceEqDiff, Nat.reduceAdd, Nat.reduceMul, Nat.reduceSub, Nat.reduceLeDiff, Nat.reduceLT, reduceIte, Int.reduceLT, Int.reduceLE, Int.reduceAdd, Int.reduceSub, Int.reduceMul, Int.reduceEq, Int.reduceToNat, Int.reduceNeg, Int.reduceNe, e5])
                  omega
          · have hr : ¬ p.right := hfail fun h => ht h.2
            by_cases ht0 : t = 0
            · have hs0 : ¬ s = 0 := fun h => ht ⟨hs, .inl ⟨ht0, h⟩⟩
              (try simp (disch := first | omega | assumption | exact Nat.le_of_ble_eq_true rfl) only [go_sem, ↓mwp_block, Nat.reduceEqDiff, Nat.reduceAdd, Nat.reduceMul, Nat.reduceSub, Nat.reduceLeDiff, Nat.reduceLT, reduceIte, Int.reduceLT, Int.reduceLE, Int.reduceAdd, Int.reduceSub, Int.reduceMul, Int.reduceEq, Int.reduceToNat, Int.reduceNeg, Int.reduceNe, F])
              exact hK _ _ ⟨by rw [dcd_false hr], S.fr⟩
            · have ht3 : ¬ t = 3 := fun h => ht ⟨hs, .inr (by omega)⟩
              have ht4 : ¬ t = 4 := fun h => ht ⟨hs, .inr (by omega)⟩
              have ht5 : ¬ t = 5 := fun h => ht ⟨hs, .inr (by omega)⟩
              (try simp (disch := first | omega | assumption | exact Nat.le_of_ble_eq_true rfl) only [go_sem, ↓mwp_block, Nat.reduceEqDiff, Nat.reduceAdd, Nat.reduceMul, Nat.reduceSub, Nat.reduceLeDiff, Nat.reduceLT, reduceIte, Int.reduceLT, Int.reduceLE, Int.reduceAdd, Int.reduceSub, Int.reduceMul, Int.reduceEq, Int.reduceToNat, Int.reduceNeg, Int.reduceNe, F])
              exact hK _ _ ⟨by rw [dcd_false hr], S.fr⟩
        · have hr : ¬ p.right := hfail fun h => hs h.2.1
          (try simp (disch := first | omega | assumption | exact Nat.le_of_ble_eq_true rfl) only [go_sem, ↓mwp_block, Nat.reduceEqDiff, Nat.reduceAdd, Nat.reduceMul, Nat.reduceSub, Nat.reduceLeDiff, Nat.reduceLT, reduceIte, Int.reduceLT, Int.reduceLE, Int.reduceAdd, Int.reduceSub, Int.reduceMul, Int.reduceEq, Int.reduceToNat, Int.reduceNeg, Int.reduceNe, F])
          exact hK _ _ ⟨by rw [dcd_false hr], S.fr⟩
      · have hr : ¬ p.right := hfail fun h => hf h.1
        (try simp (disch := first | omega | assumption | exact Nat.le_of_ble_eq_true rfl) only [go_sem, ↓mwp_block, Nat.reduceEqDiff, Nat.reduceAdd, Nat.reduceMul, Nat.reduceSub, Nat.reduceLeDiff, Nat.reduceLT, reduceIte, Int.reduceLT, Int.reduceLE, Int.reduceAdd, Int.reduceSub, Int.reduceMul, Int.reduceEq, Int.reduceToNat, Int.reduceNeg, Int.reduceNe, F])
        exact hK _ _ ⟨by rw [dcd_false hr], S.fr⟩
    · obtain rfl : i = 4 := by omega
      ((try clear F); have F := S.all; (try simp only [all_cons, all_nil, says_cell, and_true] at F))
      have gw : p.enc[0]? = some (.int .i64 p.w) := rfl
      by_cases hw0 : 0 ≤ p.w
      · by_cases h1 : p.w ≤ 1000
        · (try simp (disch := first | omega | assumption | exact Nat.le_of_ble_eq_true rfl) only [go_sem, ↓mwp_block, Nat.reduceEqDiff, Nat.reduceAdd, Nat.reduceMul, Nat.reduceSub, Nat.reduceLeDiff, Nat.reduceLT, reduceIte, Int.reduceLT, Int.reduceLE, Int.reduceAdd, Int.reduceSub, Int.reduceMul, Int.reduceEq, Int.reduceToNat, Int.reduceNeg, Int.reduceNe, e1, F, gw])
          exact hK _ _ ⟨by rw [dcd_true]; exact p.right_iff.2 ⟨hok, hw0, h1⟩, S.fr⟩
        · (try simp (disch := first | omega | assumption | exact Nat.le_of_ble_eq_true rfl) only [go_sem, ↓mwp_block, Nat.reduceEqDiff, Nat.reduceAdd, Nat.reduceMul, Nat.reduceSub, Nat.reduceLeDiff, Nat.reduceLT, reduceIte, Int.reduceLT, Int.reduceLE, Int.reduceAdd, Int.reduceSub, Int.reduceMul, Int.reduceEq, Int.reduceToNat, Int.reduceNeg, Int.reduceNe, e1, F, gw])
          exact hK _ _ ⟨by rw [dcd_false]; exact fun h => h1 h.2.2.2, S.fr⟩
      · (try simp (disch := first | omega | assumption | exact Nat.le_of_ble_eq_true rfl) only [go_sem, ↓mwp_block, Nat.reduceEqDiff, Nat.reduceAdd, Nat.reduceMul, Nat.reduceSub, Nat.reduceLeDiff, Nat.reduceLT, reduceIte, Int.reduceLT, Int.reduceLE, Int.reduceAdd, Int.reduceSub, Int.reduceMul, Int.reduceEq, Int.reduceToNat, Int.reduceNeg, Int.reduceNe, e1, F, gw])
        exact hK _ _ ⟨by rw [dcd_false]; exact fun h => hw0 h.2.2.1, S.fr⟩

theorem RightTable_ok {A : Option Addr} {c : Nat} {xs : List Pol} {h0 : Heap} (ha : Arr Pol.enc 16 h0 A xs) (hl : xs.length < 1000000000) :
    CallsH Try.prog 23 [.slice A xs.length c] h0 fun v h' => v = .bool (dcd (RightT xs)) ∧ Fr h0 h' [] := by
  have S := St.nil h0
  (refine enterK c_recoupref05_RightTable (Nat.le_of_ble_eq_true rfl) fun K hK => ?_; (try simp (disch := first | omega | assumption | exact Nat.le_of_ble_eq_true rfl) only [go_sem, ↓mwp_block, Nat.reduceEqDiff, Nat.reduceAdd, Nat.reduceMul, Nat.reduceSub, Nat.reduceLeDiff, Nat.reduceLT, reduceIte, Int.reduceLT, Int.reduceLE, Int.reduceAdd, Int.reduceSub, Int.reduceMul, Int.reduceEq, Int.reduceToNat, Int.reduceNeg, Int.reduceNe, ir_recoupref05_RightTable]))
  refine loop_intro (fun ρ h' => ρ 0 = .slice A xs.length c ∧ ρ 5 = .int .i64 xs.length ∧ ∃ i : Nat, ρ 6 = .int .i64 i ∧ i ≤ xs.length ∧ i ≤ 16 ∧ (∀ p ∈ xs.take i, p.right) ∧ St h0 h' []) (fun ρ _ => xs.length - (iv (ρ 6)).toNat) ?_ ?_
  · (try simp (disch := first | omega | assumption | exact Nat.le_of_ble_eq_true rfl) only [go_sem, ↓mwp_block, Nat.reduceEqDiff, Nat.reduceAdd, Nat.reduceMul, Nat.reduceSub, Nat.reduceLeDiff, Nat.reduceLT, reduceIte, Int.reduceLT, Int.reduceLE, Int.reduceAdd, Int.reduceSub, Int.reduceMul, Int.reduceEq, Int.reduceToNat, Int.reduceNeg, Int.reduceNe])
    exact ⟨0, rfl, by omega, by omega, by simp, S⟩
  · clear S
    rintro ρ h' J hJ ⟨e0, e5, i, e6, hi, hi16, hok, S⟩
    (try simp (disch := first | omega | assumption | exact Nat.le_of_ble_eq_true rfl) only [go_sem, ↓mwp_block, Nat.reduceEqDiff, Nat.reduceAdd, Nat.reduceMul, Nat.reduceSub, Nat.reduceLeDiff, Nat.reduceLT, reduceIte, Int.reduceLT, Int.reduceLE, Int.reduceAdd, Int.reduceSub, Int.reduceMul, Int.reduceEq, Int.reduceToNat, Int.reduceNeg, Int.reduceNe, e5, e6])
    refine cond_dec (fun hg => ?_) (fun hg => ?_)
    · have hlt : i < xs.length := by omega
      by_cases h16 : i = 16
      · (try simp (disch := first | omega | assumption | exact Nat.le_of_ble_eq_true rfl) only [go_sem, ↓mwp_block, Nat.reduceEqDiff, Nat.reduceAdd, Nat.reduceMul, Nat.reduceSub, Nat.reduceLeDiff, Nat.reduceLT, reduceIte, Int.reduceLT, Int.reduceLE, Int.reduceAdd, Int.reduceSub, Int.reduceMul, Int.reduceEq, Int.reduceToNat, Int.reduceNeg, Int.reduceNe, e0, e6])
        exact hK _ _ ⟨by rw [dcd_false]; exact fun h => by have := h.1; omega, S.fr⟩
      · obtain ⟨b, off, rfl, hr1⟩ := (ha.fr S.fr (by simp)).at hlt
        (try simp (disch := first | omega | assumption | exact Nat.le_of_ble_eq_true rfl) only [go_sem, ↓mwp_block, Nat.reduceEqDiff, Nat.reduceAdd, Nat.reduceMul, Nat.reduceSub, Nat.reduceLeDiff, Nat.reduceLT, reduceIte, Int.reduceLT, Int.reduceLE, Int.reduceAdd, Int.reduceSub, Int.reduceMul, Int.reduceEq, Int.reduceToNat, Int.reduceNeg, Int.reduceNe, e0, e6, hr1])
        refine call_intro (RightPolicy_ok xs[i] _) ?_
        rintro _ h ⟨rfl, hf⟩
        have S := S.frame hf
        (try simp (disch := first | omega | assumption | exact Nat.le_of_ble_eq_true rfl) only [go_sem, ↓mwp_block, Nat.reduceEqDiff, Nat.reduceAdd, Nat.reduceMul, Nat.reduceSub, Nat.reduceLeDiff, Nat.reduceLT, reduceIte, Int.reduceLT, Int.reduceLE, Int.reduceAdd, Int.reduceSub, Int.reduceMul, Int.reduceEq, Int.reduceToNat, Int.reduceNeg, Int.reduceNe])
        refine cond_decn (fun hn => ?_) (fun hp => ?_)
        · (try simp (disch := first | omega | assumption | exact Nat.le_of_ble_eq_true rfl) only [go_sem, ↓mwp_block, Nat.reduceEqDiff, Nat.reduceAdd, Nat.reduceMul, Nat.reduceSub, Nat.reduceLeDiff, Nat.reduceLT, reduceIte, Int.reduceLT, Int.reduceLE, Int.reduceAdd, Int.reduceSub, Int.reduceMul, Int.reduceEq, Int.reduceToNat, Int.reduceNeg, Int.reduceNe])
          exact hK _ _ ⟨by rw [dcd_false]; exact fun h => hn (h.2 _ (List.getElem_mem hlt)), S.fr⟩
        · (try simp (disch := first | omega | assumption | exact Nat.le_of_ble_eq_true rfl) only [go_sem, ↓mwp_block, Nat.reduceEqDiff, Nat.reduceAdd, Nat.reduceMul, Nat.reduceSub, Nat.reduceLeDiff, Nat.reduceLT, reduceIte, Int.reduceLT, Int.reduceLE, Int.reduceAdd, Int.reduceSub, Int.reduceMul, Int.reduceEq, Int.reduceToNat, Int.reduceNeg, Int.reduceNe, e6])
          refine hJ _ _ ?_ ?_
          · (try simp (disch := first | omega | assumption | exact Nat.le_of_ble_eq_true rfl) only [go_sem, ↓mwp_block, Nat.reduceEqDiff, Nat.reduceAdd, Nat.reduceMul, Nat.reduceSub, Nat.reduceLeDiff, Nat.reduceLT, reduceIte, Int.reduceLT, Int.reduceLE, Int.reduceAdd, Int.reduceSub, Int.reduceMul, Int.reduceEq, Int.reduceToNat, Int.reduceNeg, Int.reduceNe, e0, e5, e6])
            refine ⟨i + 1, rfl, by omega, by omega, ?_, S⟩
            rw [List.take_succ_eq_append_getElem hlt]
            intro q hq
            rcases List.mem_append.1 hq with hq | hq
            · exact hok q hq
            · simp at hq; rw [hq]; exact hp
          · (try simp (disch := first | omega | assumption | exact Nat.le_of_ble_eq_true rfl) only [go_sem, ↓mwp_block, Nat.reduceEqDiff, Nat.reduceAdd, Nat.reduceMul, Nat.reduceSub, Nat.reduceLeDiff, Nat.reduceLT, reduceIte, Int.reduceLT, Int.reduceLE, Int.reduceAdd, Int.reduceSub, Int.reduceMul, Int.reduceEq, Int.reduceToNat, Int.reduceNeg, Int.reduceNe, e6])
            omega
    · obtain rfl : i = xs.length := by omega
      rw [List.take_length] at hok
      (try simp (disch := first | omega | assumption | exact Nat.le_of_ble_eq_true rfl) only [go_sem, ↓mwp_block, Nat.reduceEqDiff, Nat.reduceAdd, Nat.reduceMul, Nat.reduceSub, Nat.reduceLeDiff, Nat.reduceLT, reduceIte, Int.reduceLT, Int.reduceLE, Int.reduceAdd, Int.reduceSub, Int.reduceMul, Int.reduceEq, Int.reduceToNat, Int.reduceNeg, Int.reduceNe])
      exact hK _ _ ⟨by rw [dcd_true]; exact ⟨hi16, hok⟩, S.fr⟩
end Go.Proofs.Ytackopkhelochaa.MX
