/- The library's sort, part 1: swaps. -/
import Derived.Test.YtnjjdpeglkiifaaSp1
import Derived.Test.YtnjjdpeglkiifaaMXV
namespace Go.Proofs.Ytnjjdpeglkiifaa.MX
open Go Go.Proofs
set_option linter.unusedSimpArgs false
set_option linter.unusedVariables false
set_option maxHeartbeats 4000000
def zEnc (x : Int) : List Value := [.int .i64 x]
theorem zEnc_len (x : Int) : (zEnc x).length = 1 := rfl
theorem zEnc_plain (x : Int) : plainCells (zEnc x) = true := rfl
section
variable {h0 h : Heap} {l : List HP}
theorem own_rd {T b n c : Nat} {D : List Int} (S : St h0 h (ownA zEnc 1 T (.slice (some ⟨b, 0, none⟩) n c) D :: l)) {i : Nat} {x : Int} (hx : D[i]? = some x) : rd1 h (.pointer (some ⟨b, i * 1, none⟩)) = some (.int .i64 x) := by
  obtain ⟨hi, rfl⟩ := List.getElem?_eq_some_iff.1 hx
  obtain ⟨b', o', hA, hr⟩ := S.arr zEnc_len i hi
  cases hA
  have := rd1_part hr 0 (by omega)
  simpa [zEnc] using this
theorem swap_list (A1 A2 A3 : List Int) (x y : Int) :
    let D := A1 ++ x :: (A2 ++ y :: A3)
    D[A1.length]? = some x ∧ D[A1.length + 1 + A2.length]? = some y ∧ (D.set A1.length y).set (A1.length + 1 + A2.length) x = A1 ++ y :: (A2 ++ x :: A3) ∧ (D.set (A1.length + 1 + A2.length) x).set A1.length y = A1 ++ y :: (A2 ++ x :: A3) := by
  have e : ∀ a : Int, (A1 ++ a :: (A2 ++ y :: A3)) = (A1 ++ a :: A2) ++ y :: A3 := fun a => by simp
  have e2 : ∀ a : Int, (A1 ++ a :: (A2 ++ x :: A3)) = (A1 ++ a :: A2) ++ x :: A3 := fun a => by simp
  have hl : ∀ a : Int, (A1 ++ a :: A2).length = A1.length + 1 + A2.length := fun a => by simp; omega
  intro D
  refine ⟨?_, ?_, ?_, ?_⟩
  · show (A1 ++ x :: _)[A1.length]? = _
    rw [List.getElem?_append_right (Nat.le_refl _), Nat.sub_self]; rfl
  · show (A1 ++ x :: (A2 ++ y :: A3))[_]? = _
    rw [e, ← hl x, List.getElem?_append_right (Nat.le_refl _), Nat.sub_self]; rfl
  · show ((A1 ++ x :: (A2 ++ y :: A3)).set _ y).set _ x = _
    rw [List.set_append_right _ _ (Nat.le_refl _), Nat.sub_self, List.set_cons_zero, e, ← hl y, List.set_append_right _ _ (Nat.le_refl _), Nat.sub_self, List.set_cons_zero, e2]
  · show ((A1 ++ x :: (A2 ++ y :: A3)).set _ x).set _ y = _
    rw [e, ← hl x, List.set_append_right _ _ (Nat.le_refl _), Nat.sub_self, List.set_cons_zero, ← e2, List.set_append_right _ _ (Nat.le_refl _), Nat.sub_self, List.set_cons_zero]
theorem i64N {n : Nat} (h : n < 9223372036854775808) : IntKind.i64.wrap (n : Int) = n := wrap_i64 (by omega) (by omega)
theorem addI {a b c : Nat} (h : a + b = c) (hc : c < 9223372036854775808) : IntKind.i64.wrap ((a : Int) + b) = c := by rw [show (a : Int) + b = c by omega]; exact i64N hc
theorem subI {a b c : Nat} (h : a = c + b) (hc : c < 9223372036854775808) : IntKind.i64.wrap ((a : Int) - b) = c := by rw [show (a : Int) - b = c by omega]; exact i64N hc
theorem swapRange_ok {A : Option Addr} {c : Nat} {fv : Value} (L P M Q R : List Int) (hPQ : P.length = Q.length) {n a b : Nat} (hn : n = (L ++ (P ++ (M ++ (Q ++ R)))).length) (ha : a = L.length) (hb : b = L.length + P.length + M.length) (hs : n < 1000000) {k : Nat} (hk : k = P.length)
    (S : St h0 h (ownA zEnc 1 3 (.slice A n c) (L ++ (P ++ (M ++ (Q ++ R)))) :: l)) :
    CallsH Try.prog 130 [.slice A n c, .int .i64 a, .int .i64 b, .int .i64 k, fv] h fun v h' => St h0 h' (ownA zEnc 1 3 (.slice A n c) (L ++ (Q ++ (M ++ (P ++ R)))) :: l) := by
  subst hk
  have hnl : n = L.length + (P.length + (M.length + (Q.length + R.length))) := by rw [hn]; simp only [List.length_append]
  (refine enterK c_slices_swapRangeCmpFunc_int (Nat.le_of_ble_eq_true rfl) fun K hK => ?_; (try simp (maxSteps := 1000000) (disch := first | omega | assumption | exact Nat.le_of_ble_eq_true rfl) only [go_sem, ↓mwp_block, simprocAttr, ir_slices_swapRangeCmpFunc_int]))
  refine loop_intro (fun ρ h' => ρ 0 = .slice A n c ∧ ρ 1 = .int .i64 a ∧ ρ 2 = .int .i64 b ∧ ρ 3 = .int .i64 P.length ∧ ∃ i : Nat, ρ 10 = .int .i64 i ∧ i ≤ P.length ∧ St h0 h' (ownA zEnc 1 3 (.slice A n c) (L ++ ((Q.take i ++ P.drop i) ++ (M ++ ((P.take i ++ Q.drop i) ++ R)))) :: l)) (fun ρ _ => P.length - (iv (ρ 10)).toNat) ?_ ?_
  · (try simp (maxSteps := 1000000) (disch := first | omega | assumption | exact Nat.le_of_ble_eq_true rfl) only [go_sem, ↓mwp_block, simprocAttr])
    exact ⟨0, rfl, by omega, by simpa using S⟩
  · clear S
    rintro ρ h J hJ ⟨e0, e1, e2, e3, i, e10, hi, S⟩
    (try simp (maxSteps := 1000000) (disch := first | omega | assumption | exact Nat.le_of_ble_eq_true rfl) only [go_sem, ↓mwp_block, simprocAttr, e10, e3])
    refine cond_dec (fun hlt => ?_) (fun hlt => ?_)
    · have hiP : i < P.length := by omega
      have hiQ : i < Q.length := by omega
      have hD : L ++ ((Q.take i ++ P.drop i) ++ (M ++ ((P.take i ++ Q.drop i) ++ R))) = (L ++ Q.take i) ++ P[i] :: ((P.drop (i + 1) ++ M ++ P.take i) ++ Q[i] :: (Q.drop (i + 1) ++ R)) := by
        rw [List.drop_eq_getElem_cons hiP, List.drop_eq_getElem_cons hiQ]
        simp only [List.append_assoc, List.cons_append, List.nil_append]
      have hD2 : (L ++ Q.take i) ++ Q[i] :: ((P.drop (i + 1) ++ M ++ P.take i) ++ P[i] :: (Q.drop (i + 1) ++ R)) = L ++ ((Q.take (i + 1) ++ P.drop (i + 1)) ++ (M ++ ((P.take (i + 1) ++ Q.drop (i + 1)) ++ R))) := by
        rw [List.take_succ_eq_append_getElem hiP, List.take_succ_eq_append_getElem hiQ]
        simp only [List.append_assoc, List.cons_append, List.nil_append]
      have hl1 : (L ++ Q.take i).length = a + i := by rw [List.length_append, List.length_take]; omega
      have hl2 : (L ++ Q.take i).length + 1 + (P.drop (i + 1) ++ M ++ P.take i).length = b + i := by simp only [List.length_append, List.length_take, List.length_drop]; omega
      obtain ⟨g1, g2, g3, _⟩ := swap_list (L ++ Q.take i) (P.drop (i + 1) ++ M ++ P.take i) (Q.drop (i + 1) ++ R) P[i] Q[i]
      rw [hD] at S
      obtain ⟨bk, rfl⟩ := S.ownAt (by simp only [List.length_append, List.length_cons]; omega)
      have r1 := own_rd S g1
      have r2 := own_rd S g2
      rw [hl2] at r2 g3
      rw [hl1] at r1 g3
      have w1 := addI (a := a) (b := i) rfl (by omega)
      have w2 := addI (a := b) (b := i) rfl (by omega)
      (try simp (maxSteps := 1000000) (disch := first | omega | assumption | exact Nat.le_of_ble_eq_true rfl) only [go_sem, ↓mwp_block, simprocAttr])
      refine draw_eq ?_
      (try simp (maxSteps := 1000000) (disch := first | omega | assumption | exact Nat.le_of_ble_eq_true rfl) only [go_sem, ↓mwp_block, simprocAttr, e0, e1, e2, e10, w1, w2, r1, r2])
      refine st_setOwn (i := a + i) (x := Q[i]) zEnc_len S (by rw [← hl1]; simp only [List.length_append, List.length_cons]; omega) rfl rfl rfl rfl ?_
      clear S r1 r2
      intro h S
      (try simp (maxSteps := 1000000) (disch := first | omega | assumption | exact Nat.le_of_ble_eq_true rfl) only [go_sem, ↓mwp_block, simprocAttr])
      refine st_setOwn (i := b + i) (x := P[i]) zEnc_len S (by rw [List.length_set, ← hl2]; simp only [List.length_append, List.length_cons]; omega) rfl rfl rfl rfl ?_
      clear S
      intro h S
      rw [g3, hD2] at S
      (try simp (maxSteps := 1000000) (disch := first | omega | assumption | exact Nat.le_of_ble_eq_true rfl) only [go_sem, ↓mwp_block, simprocAttr, e10])
      refine hJ _ _ ?_ ?_
      · (try simp (maxSteps := 1000000) (disch := first | omega | assumption | exact Nat.le_of_ble_eq_true rfl) only [go_sem, ↓mwp_block, simprocAttr, e0, e1, e2, e3])
        exact ⟨i + 1, rfl, by omega, S⟩
      · (try simp (maxSteps := 1000000) (disch := first | omega | assumption | exact Nat.le_of_ble_eq_true rfl) only [go_sem, ↓mwp_block, simprocAttr, e10])
        omega
    · obtain rfl : i = P.length := by omega
      (try simp (maxSteps := 1000000) (disch := first | omega | assumption | exact Nat.le_of_ble_eq_true rfl) only [go_sem, ↓mwp_block, simprocAttr])
      refine hK _ _ ?_
      rw [List.take_length, List.drop_length, hPQ, List.take_length, List.drop_length] at S
      simpa using S
end
end Go.Proofs.Ytnjjdpeglkiifaa.MX
