/- Frames one behind the other, of which a byte is changed. No program in sight. -/
import Derived.Test.YtackopkhelochaaFr8
namespace Go.Proofs.Ytackopkhelochaa.MX
open Go Go.Proofs
set_option linter.unusedSimpArgs false
set_option linter.unusedVariables false

theorem torn_law {ys : List (List UInt8)} (hs : ∀ x ∈ ys, 1 ≤ x.length ∧ x.length ≤ 60000) {n k : Nat} {c : UInt8} (hn : n < ys.length) (h1 : endOf (ys.take n) ≤ k) (h2 : k < endOf (ys.take (n + 1))) (hc : (ys.flatMap frameOf)[k]? ≠ some c) :
    n ≤ (framesOf ((ys.flatMap frameOf).set k c)).length ∧ (framesOf ((ys.flatMap frameOf).set k c)).take n = ys.take n ∧
    ((framesOf ((ys.flatMap frameOf).set k c)).length = n ∨ endOf ((framesOf ((ys.flatMap frameOf).set k c)).take (n + 1)) ≠ endOf (ys.take (n + 1))) := by
  have hy := hs _ (List.getElem_mem hn)
  have hP := endOf_flat (ys.take n)
  have hall : ys.flatMap frameOf = (ys.take n).flatMap frameOf ++ (frameOf ys[n] ++ (ys.drop (n + 1)).flatMap frameOf) := by
    conv => lhs; rw [← List.take_append_drop n ys, List.drop_eq_getElem_cons hn, List.flatMap_append, List.flatMap_cons]
  have htk : endOf (ys.take (n + 1)) = endOf (ys.take n) + (7 + ys[n].length) := by
    rw [List.take_succ_eq_append_getElem hn, endOf_app]
    simp [endOf]
  have hfl := frameOf_len ys[n]
  have htl : (ys.take n).length = n := by rw [List.length_take]; omega
  have hcat : framesOf ((ys.flatMap frameOf).set k c) = ys.take n ++ framesOf ((frameOf ys[n]).set (k - endOf (ys.take n)) c ++ (ys.drop (n + 1)).flatMap frameOf) := by
    rw [hall, List.set_append_right _ _ (by omega), ← hP, List.set_append_left _ _ (by omega), framesOf_cat _ (fun x hx => hs x (List.mem_of_mem_take hx))]
  have hcj : (frameOf ys[n])[k - endOf (ys.take n)]? ≠ some c := by
    rw [hall, List.getElem?_append_right (by omega), ← hP, List.getElem?_append_left (by omega)] at hc
    exact hc
  rw [hcat]
  refine ⟨by rw [List.length_append, htl]; omega, by rw [List.take_append_of_le_length (by omega), List.take_of_length_le (by omega)], ?_⟩
  have hfe := framesOf_eq ((frameOf ys[n]).set (k - endOf (ys.take n)) c ++ (ys.drop (n + 1)).flatMap frameOf)
  cases hf : firstOf ((frameOf ys[n]).set (k - endOf (ys.take n)) c ++ (ys.drop (n + 1)).flatMap frameOf) with
  | none =>
    rw [hf] at hfe
    simp only at hfe
    exact .inl (by rw [hfe, List.append_nil, htl])
  | some x =>
    rw [hf] at hfe
    simp only at hfe
    refine .inr ?_
    have hne := torn_one hy.1 hy.2 (by omega) hcj hf
    rw [hfe, List.take_append, List.take_of_length_le (by omega), htl, Nat.add_sub_cancel_left, List.take_succ_cons, List.take_zero, endOf_app, htk]
    simp only [endOf]
    omega
theorem torn_at : ∀ (ys : List (List UInt8)) {k : Nat}, k < endOf ys → ∃ n, n < ys.length ∧ endOf (ys.take n) ≤ k ∧ k < endOf (ys.take (n + 1))
  | [], k, h => by simp [endOf] at h
  | y :: ys, k, h => by
    by_cases hk : k < 7 + y.length
    · exact ⟨0, by simp, by simp [endOf], by simp [endOf]; omega⟩
    · obtain ⟨n, h1, h2, h3⟩ := torn_at ys (k := k - (7 + y.length)) (by simp only [endOf] at h; omega)
      exact ⟨n + 1, by simpa using h1, by simp only [List.take_succ_cons, endOf]; omega, by simp only [List.take_succ_cons, endOf] at h3 ⊢; omega⟩
theorem endOf_mono (ys : List (List UInt8)) {a b : Nat} (h : a ≤ b) : endOf (ys.take a) ≤ endOf (ys.take b) := by
  have : ys.take b = ys.take a ++ (ys.take b).drop a := by
    conv => lhs; rw [← List.take_append_drop a (ys.take b)]
    rw [List.take_take, Nat.min_eq_left h]
  rw [this, endOf_app]
  omega
end Go.Proofs.Ytackopkhelochaa.MX
