/- The number of some bytes, as the document reckons it. -/
import Derived.Test.YtackopkhelochaaBy2
import Derived.Test.YtackopkhelochaaIn1
namespace Go.Proofs.Ytackopkhelochaa.MX
open Go Go.Proofs
set_option linter.unusedSimpArgs false
set_option linter.unusedVariables false

theorem Number_ok {A : Option Addr} {c : Nat} {ys : List UInt8} {h : Heap} (ha : Arr bEnc 1 h A ys) (hl : ys.length ≤ 8) :
    CallsH Try.prog 71 [.slice A ys.length c] h fun v h' => v = .int .u64 (num ys) ∧ h' = h := by
  (refine enterK c_recoupref01_Number (Nat.le_of_ble_eq_true rfl) fun K hK => ?_; (try simp (maxSteps := 1000000) (disch := first | omega | assumption | exact Nat.le_of_ble_eq_true rfl) only [go_sem, ↓mwp_block, simprocAttr, ir_recoupref01_Number]))
  refine loop_intro (fun ρ h' => h' = h ∧ ρ 0 = .slice A ys.length c ∧ ∃ i : Nat, ρ 4 = .int .i64 ((i : Int) - 1) ∧ i ≤ ys.length ∧ ρ 3 = .int .u64 (num (ys.drop i))) (fun ρ _ => (iv (ρ 4) + 1).toNat) ?_ ?_
  · (try simp (maxSteps := 1000000) (disch := first | omega | assumption | exact Nat.le_of_ble_eq_true rfl) only [go_sem, ↓mwp_block, simprocAttr])
    exact ⟨ys.length, rfl, Nat.le_refl _, by simp [num]⟩
  · rintro ρ h' J hJ ⟨hh, e0, i, e4, hi, e3⟩
    subst hh
    (try simp (maxSteps := 1000000) (disch := first | omega | assumption | exact Nat.le_of_ble_eq_true rfl) only [go_sem, ↓mwp_block, simprocAttr, e4])
    refine cond_dec (fun hg => ?_) (fun hg => ?_)
    · obtain ⟨j, rfl⟩ : ∃ j, i = j + 1 := ⟨i - 1, by omega⟩
      have e4' : ρ 4 = .int .i64 (j : Int) := by rw [e4]; congr 1; omega
      have hj : j < ys.length := by omega
      obtain ⟨b, off, rfl, hr⟩ := ha.at hj
      have r1 := rd1_part0 hr (by omega)
      simp only [bEnc, List.getElem?_cons_zero] at r1
      have hd : ys.drop j = ys[j] :: ys.drop (j + 1) := List.drop_eq_getElem_cons hj
      generalize ys[j] = x at r1 hd
      have hx := u8_lt x
      have hn0 := num_nonneg (ys.drop (j + 1))
      have hn1 := num_lt (ys.drop (j + 1))
      have hpw : (256 : Int) ^ (ys.drop (j + 1)).length ≤ 256 ^ 7 := by
        have h1 : (ys.drop (j + 1)).length ≤ 7 := by simp; omega
        have h2 : (256 : Nat) ^ (ys.drop (j + 1)).length ≤ 256 ^ 7 := Nat.pow_le_pow_right (by decide) h1
        have h3 : ((256 ^ (ys.drop (j + 1)).length : Nat) : Int) ≤ ((256 ^ 7 : Nat) : Int) := by omega
        simpa using h3
      have h7 : (256 : Int) ^ 7 = 72057594037927936 := rfl
      rw [h7] at hpw
      have hnj : num (ys.drop j) = num (ys.drop (j + 1)) * 256 + x.toNat := by
        rw [hd, num, Int.mul_comm, Int.add_comm]
      generalize num (ys.drop (j + 1)) = m at e3 hn0 hn1 hnj
      generalize (256 : Int) ^ (ys.drop (j + 1)).length = M at hn1 hpw
      have w1 : IntKind.u64.wrap (m * 256) = m * 256 := wrap_u64 (by omega) (by omega)
      have w2 : IntKind.u64.wrap (x.toNat : Int) = x.toNat := wrap_u64 (by omega) (by omega)
      have w3 : IntKind.u64.wrap (m * 256 + x.toNat) = m * 256 + x.toNat := wrap_u64 (by omega) (by omega)
      (try simp (maxSteps := 1000000) (disch := first | omega | assumption | exact Nat.le_of_ble_eq_true rfl) only [go_sem, ↓mwp_block, simprocAttr, e0, e3, e4', r1, w1, w2, w3])
      refine hJ _ _ ?_ ?_
      · (try simp (maxSteps := 1000000) (disch := first | omega | assumption | exact Nat.le_of_ble_eq_true rfl) only [go_sem, ↓mwp_block, simprocAttr, e0])
        exact ⟨j, rfl, by omega, by rw [hnj]⟩
      · (try simp (maxSteps := 1000000) (disch := first | omega | assumption | exact Nat.le_of_ble_eq_true rfl) only [go_sem, ↓mwp_block, simprocAttr, e4'])
        omega
    · obtain rfl : i = 0 := by omega
      (try simp (maxSteps := 1000000) (disch := first | omega | assumption | exact Nat.le_of_ble_eq_true rfl) only [go_sem, ↓mwp_block, simprocAttr, e3])
      exact hK _ _ ⟨rfl, rfl⟩
theorem Number2_ok {A : Option Addr} {n c : Nat} {ys : List UInt8} {h : Heap} (ha : Arr bEnc 1 h A ys) (hn : ys.length = n) (hl : ys.length ≤ 8) :
    CallsH Try.prog 71 [.slice A n c] h fun v h' => v = .int .u64 (num ys) ∧ h' = h := by
  subst hn
  exact Number_ok ha hl
end Go.Proofs.Ytackopkhelochaa.MX
