/- No sum takes one changed byte for none; frames of which a byte is changed. No program in sight. -/
import Derived.Test.YtackopkhelochaaFr7
namespace Go.Proofs.Ytackopkhelochaa.MX
open Go Go.Proofs
set_option linter.unusedSimpArgs false
set_option linter.unusedVariables false

theorem xor_inj {a b c : Nat} (h : a ^^^ c = b ^^^ c) : a = b := by
  have := congrArg (· ^^^ c) h
  simpa [Nat.xor_assoc, Nat.xor_self] using this
theorem xor_inj' {a b c : Nat} (h : c ^^^ a = c ^^^ b) : a = b := by
  rw [Nat.xor_comm c a, Nat.xor_comm c b] at h
  exact xor_inj h
theorem step_mix {s t : Nat} (hs : s < 4294967296) (ht : t < 4294967296) (h1 : s % 2 = 1) (h2 : ¬ t % 2 = 1) : step s ≠ step t := by
  unfold step
  rw [if_pos h1, if_neg h2]
  intro h
  have e := congrArg (fun n => Nat.testBit n 31) h
  have b1 : (s / 2).testBit 31 = false := Nat.testBit_lt_two_pow (by omega)
  have b2 : (t / 2).testBit 31 = false := Nat.testBit_lt_two_pow (by omega)
  have b3 : poly.testBit 31 = true := by decide
  simp only [Nat.testBit_xor, b1, b2, b3] at e
  cases e
theorem step_inj {s t : Nat} (hs : s < 4294967296) (ht : t < 4294967296) (h : step s = step t) : s = t := by
  by_cases h1 : s % 2 = 1
  · by_cases h2 : t % 2 = 1
    · unfold step at h
      rw [if_pos h1, if_pos h2] at h
      have := xor_inj h
      omega
    · exact absurd h (step_mix hs ht h1 h2)
  · by_cases h2 : t % 2 = 1
    · exact absurd h.symm (step_mix ht hs h2 h1)
    · unfold step at h
      rw [if_neg h1, if_neg h2] at h
      omega
theorem steps_inj {s t : Nat} (hs : s < 4294967296) (ht : t < 4294967296) : ∀ k, steps k s = steps k t → s = t
  | 0, h => h
  | k + 1, h => steps_inj hs ht k (step_inj (steps_lt hs k) (steps_lt ht k) h)
theorem eat_inj {s t : Nat} {b : UInt8} (hs : s < 4294967296) (ht : t < 4294967296) (h : eat s b = eat t b) : s = t :=
  xor_inj (steps_inj (xor_lt32 hs (by have := b.toNat_lt; omega)) (xor_lt32 ht (by have := b.toNat_lt; omega)) 8 h)
theorem eat_byte {s : Nat} {b c : UInt8} (hs : s < 4294967296) (h : eat s b = eat s c) : b = c := by
  have := steps_inj (xor_lt32 hs (by have := b.toNat_lt; omega)) (xor_lt32 hs (by have := c.toNat_lt; omega)) 8 h
  exact UInt8.toNat_inj.1 (xor_inj' this)
theorem fold_inj : ∀ (l : List UInt8) {s t : Nat}, s < 4294967296 → t < 4294967296 → l.foldl eat s = l.foldl eat t → s = t
  | [], _, _, _, _, h => h
  | b :: l, _, _, hs, ht, h => eat_inj hs ht (fold_inj l (eat_lt hs b) (eat_lt ht b) h)
theorem sum_torn {p q : List UInt8} {b c : UInt8} (h : sumOf (p ++ b :: q) = sumOf (p ++ c :: q)) : b = c := by
  have h1 := xor_inj h
  simp only [crcOf, List.foldl_append, List.foldl_cons] at h1
  have hp : p.foldl eat 4294967295 < 4294967296 := crc_lt p
  exact eat_byte hp (fold_inj q (eat_lt hp b) (eat_lt hp c) h1)
theorem num_inj : ∀ {a b : List UInt8}, a.length = b.length → num a = num b → a = b := by
  intro a b hl h
  rw [← le_num a, ← le_num b, hl, h]

/-- A frame of which a byte is changed is not told as one of its length. -/
theorem torn_one {y : List UInt8} {j : Nat} {c : UInt8} {r x : List UInt8} (h1 : 1 ≤ y.length) (h2 : y.length ≤ 60000) (hj : j < 7 + y.length) (hc : (frameOf y)[j]? ≠ some c)
    (hx : firstOf ((frameOf y).set j c ++ r) = some x) : x.length ≠ y.length := by
  intro hl
  obtain ⟨ho, rfl, _⟩ := firstOf_some hx
  have hxl := frX_len ho
  obtain ⟨g1, g2, g3, g4, g5, g6⟩ := ho
  have hfl := frameOf_len y
  have l2 := le_length 2 (y.length : Int)
  have l4 := le_length 4 (fsum y : Int)
  have hfs : fsum y < 4294967296 := sum_lt _
  have hfs2 : fsum (frX ((frameOf y).set j c ++ r)) < 4294967296 := sum_lt _
  rw [frameOf_eq] at hc hx hl hxl g1 g2 g3 g4 g5 g6 hfs2
  match j with
  | 0 =>
    simp only [List.set_cons_zero, List.cons_append, List.getElem?_cons_zero] at g2 hc
    exact hc g2.symm
  | j + 1 =>
    simp only [List.set_cons_succ, List.cons_append, List.getElem?_cons_succ] at hc hxl g6 hl hfs2
    simp only [frN, List.drop_succ_cons, List.drop_zero] at hxl
    by_cases c1 : j < 2
    · rw [List.getElem?_append_left (by omega)] at hc
      rw [List.set_append_left _ _ (by omega)] at hxl hl
      rw [List.append_assoc] at hl hxl
      rw [List.take_append_of_le_length (by simp [l2]), List.take_of_length_le (by simp [l2])] at hxl
      have e : (le 2 y.length).set j c = le 2 y.length := num_inj (by simp) (by rw [num_le 2 _ (by omega) (by omega), ← hxl, hl])
      have := congrArg (·[j]?) e
      simp only [List.getElem?_set_self (show j < (le 2 y.length).length by omega)] at this
      exact hc this.symm
    · rw [List.getElem?_append_right (by omega), l2] at hc
      rw [List.set_append_right _ _ (by omega), l2] at hxl hl g6 hfs2
      simp only [frX, frN, List.drop_succ_cons, List.drop_zero, List.append_assoc] at hl g6 hfs2 hxl
      have hN : num ((le 2 ↑y.length ++ (((le 4 ↑(fsum y) ++ y).set (j - 2) c) ++ r)).take 2) = y.length := by
        rw [List.take_append_of_le_length (by omega), List.take_of_length_le (by omega), num_le 2 _ (by omega) (by omega)]
      have hd2 : ∀ z : List UInt8, (le 2 ↑y.length ++ z).drop 2 = z := fun z => by rw [List.drop_append_of_le_length (by omega), List.drop_of_length_le (by omega), List.nil_append]
      rw [hN, Int.toNat_natCast] at g6 hl hfs2
      have hd6 : ∀ z : List UInt8, (le 2 ↑y.length ++ z).drop 6 = z.drop 4 := fun z => by rw [show (6 : Nat) = 2 + 4 from rfl, ← List.drop_drop, hd2]
      rw [hd2, hd6] at g6
      by_cases c2 : j - 2 < 4
      · rw [List.set_append_left _ _ (by omega)] at g6
        rw [List.getElem?_append_left (by omega)] at hc
        rw [List.append_assoc, List.take_append_of_le_length (by simp [l4]), List.take_of_length_le (by simp [l4]), List.drop_append_of_le_length (by simp [l4]), List.drop_of_length_le (by simp [l4]), List.nil_append,
          List.take_append_of_le_length (Nat.le_refl _), List.take_length] at g6
        have e : (le 4 (fsum y : Int)).set (j - 2) c = le 4 (fsum y : Int) := num_inj (by simp) (by rw [g6, num_le 4 _ (by omega) (by omega)])
        have := congrArg (·[j - 2]?) e
        simp only [List.getElem?_set_self (show j - 2 < (le 4 (fsum y : Int)).length by omega)] at this
        exact hc this.symm
      · rw [List.set_append_right _ _ (by omega), l4] at g6
        rw [List.getElem?_append_right (by omega), l4] at hc
        rw [List.append_assoc, List.take_append_of_le_length (by omega), List.take_of_length_le (by omega), num_le 4 _ (by omega) (by omega), List.drop_append_of_le_length (by omega), List.drop_of_length_le (by omega), List.nil_append,
          List.take_append_of_le_length (by simp), List.take_of_length_le (by simp)] at g6
        have hi : j - 2 - 4 < y.length := by omega
        have hy : y = y.take (j - 2 - 4) ++ y[j - 2 - 4] :: y.drop (j - 2 - 4 + 1) := by rw [← List.drop_eq_getElem_cons hi, List.take_append_drop]
        have hset : y.set (j - 2 - 4) c = y.take (j - 2 - 4) ++ c :: y.drop (j - 2 - 4 + 1) := by rw [List.set_eq_take_append_cons_drop, if_pos hi]
        have g7 : fsum y = fsum (y.set (j - 2 - 4) c) := by omega
        unfold fsum at g7
        rw [List.length_set, hset] at g7
        conv at g7 => lhs; rw [hy]
        rw [List.length_append, List.length_cons] at g7
        have hlen : (y.take (j - 2 - 4)).length + ((y.drop (j - 2 - 4 + 1)).length + 1) = y.length := by simp; omega
        rw [hlen, ← List.append_assoc, ← List.append_assoc] at g7
        have := sum_torn g7
        rw [List.getElem?_eq_getElem hi, this] at hc
        exact hc rfl
end Go.Proofs.Ytackopkhelochaa.MX
