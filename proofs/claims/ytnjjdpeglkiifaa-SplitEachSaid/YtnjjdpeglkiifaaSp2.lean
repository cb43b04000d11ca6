/- The library's Div64: the plain law, and its walk. -/
import Derived.Test.YtnjjdpeglkiifaaSp1
namespace Go.Proofs.Ytnjjdpeglkiifaa.MX
open Go Go.Proofs
set_option linter.unusedSimpArgs false
set_option linter.unusedVariables false
set_option maxHeartbeats 8000000
set_option maxRecDepth 100000
/-! A digit, guessed and set right. -/
section
variable {y1 y0 u u1 q r : Nat}
theorem dig_top (hy : 0 < y1) (hu1 : u1 < 4294967296) : (u * 4294967296 + u1) / (y1 * 4294967296 + y0) ≤ u / y1 := by
  have h1 : (u * 4294967296 + u1) / (y1 * 4294967296 + y0) ≤ (u * 4294967296 + u1) / (4294967296 * y1) := Nat.div_le_div_left (by omega) (by omega)
  rw [← Nat.div_div_eq_div_mul, show (u * 4294967296 + u1) / 4294967296 = u by omega] at h1
  exact h1
theorem dig_low (hy : 0 < y1) (hq : q * y1 + r = u) (h : q * y0 ≤ r * 4294967296 + u1) : q ≤ (u * 4294967296 + u1) / (y1 * 4294967296 + y0) := by
  rw [Nat.le_div_iff_mul_le (by omega), Nat.mul_add, ← Nat.mul_assoc, ← hq, Nat.add_mul]
  omega
theorem dig_step (hy : 0 < y1) (hq : q * y1 + r = u) (h : r * 4294967296 + u1 < q * y0) : (u * 4294967296 + u1) / (y1 * 4294967296 + y0) < q := by
  rw [Nat.div_lt_iff_lt_mul (by omega)]
  have e1 : q * (y1 * 4294967296 + y0) = q * y1 * 4294967296 + q * y0 := by rw [Nat.mul_add, ← Nat.mul_assoc]
  rw [e1, ← hq]
  generalize q * y1 = a at *
  generalize q * y0 = b at *
  rw [Nat.add_mul, Nat.add_assoc]
  exact Nat.add_lt_add_left h _
theorem dig_lt (hy : 0 < y1) (hu1 : u1 < 4294967296) (hu : u < y1 * 4294967296 + y0) : (u * 4294967296 + u1) / (y1 * 4294967296 + y0) < 4294967296 := by
  rw [Nat.div_lt_iff_lt_mul (by omega)]
  omega
theorem dig_q0 (hy : 2147483648 ≤ y1) (hy0 : y0 < 4294967296) (hu : u < y1 * 4294967296 + y0) : u / y1 ≤ 4294967297 := by
  apply Nat.le_of_lt_succ
  rw [Nat.div_lt_iff_lt_mul (by omega)]
  omega
end
theorem loop_join {P : Program} {c : MCode} {id : Nat} {T : Env → Heap → Prop} {Q : MExit → Env → Heap → Prop} {ρ : Env} {h : Heap} {t1 : Tag c} {t2 : Tag (qblk id (qseq T Q))} {t3 : Tag ρ} {t4 : Tag h} (I : Env → Heap → Prop)
    (hw : ∀ J : Env → Heap → Prop, (∀ ρ h, I ρ h → J ρ h) → loopT P c (qblk id (qseq J Q)) ρ h ⟨⟩ ⟨⟩ ⟨⟩ ⟨⟩) (hT : ∀ ρ h, I ρ h → T ρ h) : loopT P c (qblk id (qseq T Q)) ρ h t1 t2 t3 t4 := hw T hT
theorem LeadingZeros64_ok (x : Nat) (hx : x < 18446744073709551616) (h : Heap) : CallsH Try.prog 98 [.int .u64 x] h fun v h' => v = .int .i64 (64 - (bitLen x : Int)) ∧ h' = h := by
  (refine enterK c_math_bits_LeadingZeros64 (Nat.le_of_ble_eq_true rfl) fun K hK => ?_; (try simp (maxSteps := 1000000) (disch := first | omega | assumption | exact Nat.le_of_ble_eq_true rfl) only [go_sem, ↓mwp_block, simprocAttr, ir_math_bits_LeadingZeros64]))
  refine call_intro (Len64_ok x hx h) ?_
  rintro _ _ ⟨rfl, rfl⟩
  have hb : bitLen x ≤ 64 := by
    by_cases h0 : x = 0
    · subst h0; decide
    · have := (bitLen_spec h0).1
      have h2 := (bitLen_spec h0).2.2
      apply Nat.le_of_not_lt
      intro h3
      have : 2 ^ 64 ≤ 2 ^ (bitLen x - 1) := Nat.pow_le_pow_right (by decide) (by omega)
      omega
  have hw : IntKind.i64.wrap (64 - (bitLen x : Int)) = 64 - (bitLen x : Int) := wrap_i64 (by omega) (by omega)
  (try simp (maxSteps := 1000000) (disch := first | omega | assumption | exact Nat.le_of_ble_eq_true rfl) only [go_sem, ↓mwp_block, simprocAttr, hw])
  exact hK _ _ ⟨rfl, rfl⟩
/-- How far a number is shifted, and what then holds. -/
theorem norm_spec {y : Nat} (h0 : 0 < y) (hy : y < 18446744073709551616) : ∃ s : Nat, 64 - (bitLen y : Int) = s ∧ s < 64 ∧ y * 2 ^ s < 18446744073709551616 ∧ 9223372036854775808 ≤ y * 2 ^ s := by
  obtain ⟨h1, h2, h3⟩ := bitLen_spec (n := y) (by omega)
  have hb : bitLen y ≤ 64 := by
    apply Nat.le_of_not_lt
    intro h4
    have : 2 ^ 64 ≤ 2 ^ (bitLen y - 1) := Nat.pow_le_pow_right (by decide) (by omega)
    omega
  refine ⟨64 - bitLen y, by omega, by omega, ?_, ?_⟩
  · have : y * 2 ^ (64 - bitLen y) < 2 ^ bitLen y * 2 ^ (64 - bitLen y) := Nat.mul_lt_mul_of_pos_right h2 (Nat.pow_pos (by decide))
    rw [← Nat.pow_add, show bitLen y + (64 - bitLen y) = 64 by omega] at this
    exact this
  · have : 2 ^ (bitLen y - 1) * 2 ^ (64 - bitLen y) ≤ y * 2 ^ (64 - bitLen y) := Nat.mul_le_mul_right _ h1
    rw [← Nat.pow_add, show bitLen y - 1 + (64 - bitLen y) = 63 by omega] at this
    exact this
/-- The whole, shifted, in digits. -/
theorem whole_spec {hi lo s : Nat} (hs : s < 64) (hlo : lo < 18446744073709551616) : (hi * 2 ^ s + lo / 2 ^ (64 - s)) * 18446744073709551616 + lo * 2 ^ s % 18446744073709551616 = (hi * 18446744073709551616 + lo) * 2 ^ s := by
  have e : 2 ^ (64 - s) * 2 ^ s = 18446744073709551616 := by rw [← Nat.pow_add, show 64 - s + s = 64 by omega]
  have h1 : lo * 2 ^ s / 18446744073709551616 = lo / 2 ^ (64 - s) := by rw [← e, Nat.mul_div_mul_right _ _ (Nat.pow_pos (by decide))]
  have h2 := Nat.div_add_mod (lo * 2 ^ s) 18446744073709551616
  rw [h1] at h2
  rw [Nat.add_mul, Nat.add_mul, Nat.mul_right_comm hi]
  omega
theorem two_digits {Y u32 u1 u0 : Nat} (hY : 0 < Y) (h0 : u0 < 4294967296) :
    let N1 := u32 * 4294967296 + u1
    let N0 := (N1 % Y) * 4294967296 + u0
    (u32 * 18446744073709551616 + (u1 * 4294967296 + u0)) / Y = (N1 / Y) * 4294967296 + N0 / Y ∧ (u32 * 18446744073709551616 + (u1 * 4294967296 + u0)) % Y = N0 % Y := by
  intro N1 N0
  have e1 := Nat.div_add_mod N1 Y
  have e2 := Nat.div_add_mod N0 Y
  have hlt := Nat.mod_lt N0 hY
  have hW : u32 * 18446744073709551616 + (u1 * 4294967296 + u0) = ((N1 / Y) * 4294967296 + N0 / Y) * Y + N0 % Y := by
    have e3 : N1 * 4294967296 + u0 = u32 * 18446744073709551616 + (u1 * 4294967296 + u0) := by show (u32 * 4294967296 + u1) * 4294967296 + u0 = _; omega
    have e4 : N0 = N1 % Y * 4294967296 + u0 := rfl
    rw [Nat.add_mul, Nat.mul_right_comm, Nat.mul_comm (N1 / Y) Y, Nat.mul_comm (N0 / Y) Y, Nat.add_assoc, e2, e4, ← e3, ← Nat.add_assoc, ← Nat.add_mul, e1]
  rw [hW]
  constructor
  · rw [Nat.mul_comm, Nat.mul_add_div hY, Nat.div_eq_of_lt hlt, Nat.add_zero]
  · rw [Nat.mul_comm, Nat.mul_add_mod, Nat.mod_eq_of_lt hlt]
theorem digits_ex {Y u32 u1 u0 : Nat} (hY : 0 < Y) (h0 : u0 < 4294967296) : ∃ q1 u21 q0 rm, q1 = (u32 * 4294967296 + u1) / Y ∧ q1 * Y + u21 = u32 * 4294967296 + u1 ∧ u21 < Y ∧ q0 = (u21 * 4294967296 + u0) / Y ∧ q0 * Y + rm = u21 * 4294967296 + u0 ∧ rm < Y ∧
    (u32 * 18446744073709551616 + (u1 * 4294967296 + u0)) / Y = q1 * 4294967296 + q0 ∧ (u32 * 18446744073709551616 + (u1 * 4294967296 + u0)) % Y = rm := by
  have h := two_digits (u32 := u32) (u1 := u1) hY h0
  refine ⟨_, _, _, _, rfl, ?_, Nat.mod_lt _ hY, rfl, ?_, Nat.mod_lt _ hY, h.1, h.2⟩
  · rw [Nat.mul_comm]; exact Nat.div_add_mod _ _
  · rw [Nat.mul_comm]; exact Nat.div_add_mod _ _
theorem lt_m1 {q : Nat} (h : q < 4294967296) : q * 4294967296 < 18446744073709551616 := by omega
theorem lt_m2 {q r : Nat} (h : q < 4294967296) (k : r < 4294967296) : q * 4294967296 + r < 18446744073709551616 := by omega
end Go.Proofs.Ytnjjdpeglkiifaa.MX
