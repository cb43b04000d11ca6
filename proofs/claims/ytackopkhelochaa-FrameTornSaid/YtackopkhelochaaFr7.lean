/- Frames, as bytes. -/
import Derived.Test.YtackopkhelochaaFr4
namespace Go.Proofs.Ytackopkhelochaa.MX
open Go Go.Proofs
set_option linter.unusedSimpArgs false
set_option linter.unusedVariables false

theorem le1_165 : le 1 165 = [165] := rfl
theorem frameOf_eq (x : List UInt8) : frameOf x = 165 :: (le 2 x.length ++ (le 4 (fsum x) ++ x)) := rfl
theorem frHead {x r : List UInt8} (h2 : x.length ≤ 60000) :
    ((frameOf x ++ r).drop 1).take 2 = le 2 x.length ∧ ((frameOf x ++ r).drop 3).take 4 = le 4 (fsum x) ∧ (frameOf x ++ r).drop 7 = x ++ r := by
  have l2 := le_length 2 (x.length : Int)
  have l4 := le_length 4 (fsum x : Int)
  have e : frameOf x ++ r = ([165] ++ le 2 x.length) ++ (le 4 (fsum x) ++ (x ++ r)) := by rw [frameOf_eq]; simp
  have e3 : (frameOf x ++ r).drop 3 = le 4 (fsum x) ++ (x ++ r) := by
    rw [e, List.drop_append_of_le_length (by simp [l2]), List.drop_of_length_le (by simp [l2]), List.nil_append]
  refine ⟨?_, ?_, ?_⟩
  · rw [e, List.append_assoc, List.singleton_append, List.drop_succ_cons, List.drop_zero, List.take_append_of_le_length (by omega), List.take_of_length_le (by omega)]
  · rw [e3, List.take_append_of_le_length (by omega), List.take_of_length_le (by omega)]
  · rw [show (7 : Nat) = 3 + 4 from rfl, ← List.drop_drop, e3, List.drop_append_of_le_length (by omega), List.drop_of_length_le (by omega), List.nil_append]
theorem frN_frame {x r : List UInt8} (h2 : x.length ≤ 60000) : frN (frameOf x ++ r) = x.length := by
  rw [frN, (frHead h2).1, num_le 2 _ (by omega) (by omega)]
theorem firstOf_frame {x r : List UInt8} (h1 : 1 ≤ x.length) (h2 : x.length ≤ 60000) : firstOf (frameOf x ++ r) = some x := by
  have hn := frN_frame (r := r) h2
  have hX : frX (frameOf x ++ r) = x := by
    rw [frX, hn, (frHead h2).2.2, Int.toNat_natCast, List.take_append_of_le_length (Nat.le_refl _), List.take_length]
  have hlen : (frameOf x ++ r).length = 7 + x.length + r.length := by rw [List.length_append, frameOf_len]
  have hfs : fsum x < 4294967296 := sum_lt _
  have ho : frOk (frameOf x ++ r) := by
    refine ⟨by omega, rfl, by omega, by omega, by omega, ?_⟩
    rw [(frHead h2).2.1, hX, num_le 4 _ (by omega) (by omega)]
  rw [firstOf_yes ho, hX]
theorem framesOf_frame {x r : List UInt8} (h1 : 1 ≤ x.length) (h2 : x.length ≤ 60000) : framesOf (frameOf x ++ r) = x :: framesOf r := by
  rw [framesOf_eq, firstOf_frame h1 h2]
  simp only [List.cons.injEq, true_and]
  rw [List.drop_append_of_le_length (by rw [frameOf_len]; omega), List.drop_of_length_le (by rw [frameOf_len]; omega), List.nil_append]
theorem framesOf_cat : ∀ (l : List (List UInt8)) {r : List UInt8}, (∀ x ∈ l, 1 ≤ x.length ∧ x.length ≤ 60000) → framesOf (l.flatMap frameOf ++ r) = l ++ framesOf r
  | [], r, _ => by simp
  | x :: l, r, h => by
    rw [List.flatMap_cons, List.append_assoc, framesOf_frame (h x (by simp)).1 (h x (by simp)).2, framesOf_cat l fun y hy => h y (List.mem_cons_of_mem _ hy)]
    rfl
theorem framesOf_part {x : List UInt8} {k : Nat} (h1 : 1 ≤ x.length) (h2 : x.length ≤ 60000) (hk : k < 7 + x.length) : framesOf ((frameOf x).take k) = [] := by
  rw [framesOf_eq]
  have : firstOf ((frameOf x).take k) = none := firstOf_no fun ho => by
    obtain ⟨g1, _, _, _, g5, _⟩ := ho
    have hl : ((frameOf x).take k).length = k := by simp [frameOf_len]; omega
    rw [hl] at g1 g5
    have hn : frN ((frameOf x).take k) = x.length := by
      have := frN_frame (r := []) h2
      rw [List.append_nil] at this
      rw [← this, frN, frN, List.drop_take, List.take_take, Nat.min_eq_left (by omega)]
    omega
  rw [this]
theorem endOf_flat : ∀ (l : List (List UInt8)), endOf l = (l.flatMap frameOf).length
  | [] => rfl
  | x :: l => by rw [endOf, List.flatMap_cons, List.length_append, frameOf_len, endOf_flat l]
end Go.Proofs.Ytackopkhelochaa.MX
