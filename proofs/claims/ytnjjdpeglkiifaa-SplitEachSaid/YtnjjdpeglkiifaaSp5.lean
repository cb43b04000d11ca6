/- The library's sort, part 2: a rotation. -/
import Derived.Test.YtnjjdpeglkiifaaSp4
namespace Go.Proofs.Ytnjjdpeglkiifaa.MX
open Go Go.Proofs
set_option linter.unusedSimpArgs false
set_option linter.unusedVariables false
set_option maxHeartbeats 4000000
section
variable {h0 h : Heap} {l : List HP}
theorem rotate_ok {A : Option Addr} {c : Nat} {fv : Value} (L X Y R : List Int) {n a m b : Nat} (hn : n = (L ++ (X ++ (Y ++ R))).length) (ha : a = L.length) (hm : m = L.length + X.length) (hb : b = m + Y.length) (hX : 0 < X.length) (hY : 0 < Y.length) (hs : n < 1000000)
    (S : St h0 h (ownA zEnc 1 3 (.slice A n c) (L ++ (X ++ (Y ++ R))) :: l)) :
    CallsH Try.prog 126 [.slice A n c, .int .i64 a, .int .i64 m, .int .i64 b, fv] h fun v h' => St h0 h' (ownA zEnc 1 3 (.slice A n c) (L ++ (Y ++ (X ++ R))) :: l) := by
  have hnl : n = L.length + (X.length + (Y.length + R.length)) := by rw [hn]; simp only [List.length_append]
  have w1 := subI (a := m) (b := a) (c := X.length) (by omega) (by omega)
  have w2 := subI (a := b) (b := m) (c := Y.length) (by omega) (by omega)
  refine enterK c_slices_rotateCmpFunc_int (Nat.le_of_ble_eq_true rfl) fun K hK => ?_
  (try simp (maxSteps := 1000000) (disch := first | omega | assumption | exact Nat.le_of_ble_eq_true rfl) only [go_sem, ↓mwp_block, simprocAttr, ir_slices_rotateCmpFunc_int, w1, w2])
  refine loop_intro (fun ρ h' => ρ 0 = .slice A n c ∧ ρ 2 = .int .i64 m ∧ ρ 4 = fv ∧ ∃ L' P Q R' : List Int, ρ 10 = .int .i64 P.length ∧ ρ 11 = .int .i64 Q.length ∧ 0 < P.length ∧ 0 < Q.length ∧ m = L'.length + P.length ∧ n = (L' ++ (P ++ (Q ++ R'))).length ∧ L' ++ (Q ++ (P ++ R')) = L ++ (Y ++ (X ++ R)) ∧ St h0 h' (ownA zEnc 1 3 (.slice A n c) (L' ++ (P ++ (Q ++ R'))) :: l)) (fun ρ _ => (iv (ρ 10)).toNat + (iv (ρ 11)).toNat) ?_ ?_
  · (try simp (maxSteps := 1000000) (disch := first | omega | assumption | exact Nat.le_of_ble_eq_true rfl) only [go_sem, ↓mwp_block, simprocAttr])
    exact ⟨L, X, Y, R, rfl, rfl, hX, hY, hm, hn, rfl, S⟩
  · clear S w1 w2
    rintro ρ h J hJ ⟨e0, e2, e4, L', P, Q, R', e10, e11, hP, hQ, hm', hn', ht, S⟩
    have hnl' : n = L'.length + (P.length + (Q.length + R'.length)) := by rw [hn']; simp only [List.length_append]
    have w1 := subI (a := m) (b := P.length) (c := L'.length) (by omega) (by omega)
    by_cases heq : (P.length : Int) = Q.length
    case neg =>
      (try simp (maxSteps := 1000000) (disch := first | omega | assumption | exact Nat.le_of_ble_eq_true rfl) only [go_sem, ↓mwp_block, simprocAttr, e10, e11, heq])
      by_cases hgt : (Q.length : Int) < P.length
      · have w2 := subI (a := P.length) (b := Q.length) (c := P.length - Q.length) (by omega) (by omega)
        have hsp : P = P.take Q.length ++ P.drop Q.length := (List.take_append_drop _ _).symm
        have hl1 : (P.take Q.length).length = Q.length := by rw [List.length_take]; omega
        have hl2 : (P.drop Q.length).length = P.length - Q.length := List.length_drop
        (try simp (maxSteps := 1000000) (disch := first | omega | assumption | exact Nat.le_of_ble_eq_true rfl) only [go_sem, ↓mwp_block, simprocAttr, e0, e2, e4, e10, e11, hgt, w1])
        rw [← hl2] at w2
        generalize P.take Q.length = P1 at hsp hl1
        generalize P.drop Q.length = P2 at hsp hl2 w2
        subst hsp
        rw [List.append_assoc] at S
        refine call_intro (swapRange_ok L' P1 P2 Q R' hl1 (by rw [hn', List.append_assoc]) rfl (by rw [hm', List.length_append]; omega) hs hl1.symm S) ?_
        clear S
        intro _ h S
        (try simp (maxSteps := 1000000) (disch := first | omega | assumption | exact Nat.le_of_ble_eq_true rfl) only [go_sem, ↓mwp_block, simprocAttr, e10, e11, w2])
        refine hJ _ _ ?_ ?_
        · (try simp (maxSteps := 1000000) (disch := first | omega | assumption | exact Nat.le_of_ble_eq_true rfl) only [go_sem, ↓mwp_block, simprocAttr, e0, e2, e4])
          refine ⟨L' ++ Q, P2, P1, R', rfl, by rw [hl1, e11], by simp only [List.length_append] at *; omega, by omega, by simp only [List.length_append] at *; omega, by simp only [List.length_append] at *; omega, ?_, ?_⟩
          · rw [← ht]; simp only [List.append_assoc]
          · rw [List.append_assoc]; exact S
        · (try simp (maxSteps := 1000000) (disch := first | omega | assumption | exact Nat.le_of_ble_eq_true rfl) only [go_sem, ↓mwp_block, simprocAttr, e10, e11])
          simp only [List.length_append] at *
          omega
      · have hlt : P.length < Q.length := by omega
        have w2 := subI (a := Q.length) (b := P.length) (c := Q.length - P.length) (by omega) (by omega)
        have w3 := addI (a := m) (b := Q.length) rfl (by omega)
        have w4 := subI (a := m + Q.length) (b := P.length) (c := m + (Q.length - P.length)) (by omega) (by omega)
        have hsp : Q = Q.take (Q.length - P.length) ++ Q.drop (Q.length - P.length) := (List.take_append_drop _ _).symm
        have hl1 : (Q.take (Q.length - P.length)).length = Q.length - P.length := by rw [List.length_take]; omega
        have hl2 : (Q.drop (Q.length - P.length)).length = P.length := by rw [List.length_drop]; omega
        (try simp (maxSteps := 1000000) (disch := first | omega | assumption | exact Nat.le_of_ble_eq_true rfl) only [go_sem, ↓mwp_block, simprocAttr, e0, e2, e4, e10, e11, hgt, w1, w3, w4])
        rw [← hl1] at w2
        generalize hQ1 : Q.take (Q.length - P.length) = Q1 at hsp hl1 w2
        generalize hQ2 : Q.drop (Q.length - P.length) = Q2 at hsp hl2
        have hbl : m + (Q.length - P.length) = L'.length + P.length + Q1.length := by omega
        rw [hbl]
        have S2 := S
        rw [hsp, List.append_assoc] at S2
        refine call_intro (swapRange_ok L' P Q1 Q2 R' hl2.symm (by rw [hn', hsp, List.append_assoc]) rfl rfl hs rfl S2) ?_
        clear S S2
        intro _ h S
        (try simp (maxSteps := 1000000) (disch := first | omega | assumption | exact Nat.le_of_ble_eq_true rfl) only [go_sem, ↓mwp_block, simprocAttr, e10, e11, w2])
        refine hJ _ _ ?_ ?_
        · (try simp (maxSteps := 1000000) (disch := first | omega | assumption | exact Nat.le_of_ble_eq_true rfl) only [go_sem, ↓mwp_block, simprocAttr, e0, e2, e4, e10])
          refine ⟨L', Q2, Q1, P ++ R', by rw [hl2], rfl, by omega, by omega, by omega, by simp only [List.length_append] at *; omega, ?_, S⟩
          rw [← ht, hsp]; simp only [List.append_assoc]
        · (try simp (maxSteps := 1000000) (disch := first | omega | assumption | exact Nat.le_of_ble_eq_true rfl) only [go_sem, ↓mwp_block, simprocAttr, e10, e11])
          omega
    case pos =>
      have heq' : P.length = Q.length := by omega
      have hd := dcd_true heq
      (try simp (maxSteps := 1000000) (disch := first | omega | assumption | exact Nat.le_of_ble_eq_true rfl) only [go_sem, ↓mwp_block, simprocAttr, e0, e2, e4, e10, e11, hd, w1, Bool.not_true])
      have S0 : St h0 h (ownA zEnc 1 3 (.slice A n c) (L' ++ (P ++ ([] ++ (Q ++ R')))) :: l) := S
      have hc := swapRange_ok (fv := fv) L' P [] Q R' heq' hn' rfl (show m = L'.length + P.length + 0 from hm') hs rfl S0
      refine call_intro hc ?_
      clear S
      intro _ h S
      (try simp (maxSteps := 1000000) (disch := first | omega | assumption | exact Nat.le_of_ble_eq_true rfl) only [go_sem, ↓mwp_block, simprocAttr])
      rw [List.nil_append, ht] at S
      exact hK _ _ S
end
end Go.Proofs.Ytnjjdpeglkiifaa.MX
