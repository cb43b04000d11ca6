/- The reference's numbers as bytes; lists of bytes compared. -/
import Derived.Test.YtnjjdpeglkiifaaCd1
namespace Go.Proofs.Ytnjjdpeglkiifaa.MX
open Go Go.Proofs
set_option linter.unusedSimpArgs false
set_option linter.unusedVariables false

theorem Bytes_ok {A B : Option Addr} {c d : Nat} {xs ys : List UInt8} {h : Heap} (ha : Arr bEnc 1 h A xs) (hb : Arr bEnc 1 h B ys) (hl : xs.length < 1000000000) (hl2 : ys.length < 1000000000) :
    CallsH Try.prog 78 [.slice A xs.length c, .slice B ys.length d] h fun v h' => v = .bool (dcd (xs = ys)) ∧ h' = h := by
  by_cases hlen : xs.length = ys.length
  · (refine enterK c_recouplaw01_Bytes (Nat.le_of_ble_eq_true rfl) fun K hK => ?_; (try simp (maxSteps := 1000000) (disch := first | omega | assumption | exact Nat.le_of_ble_eq_true rfl) only [go_sem, ↓mwp_block, simprocAttr, ir_recouplaw01_Bytes]))
    refine loop_intro (fun ρ h' => h' = h ∧ ρ 0 = .slice A xs.length c ∧ ρ 1 = .slice B ys.length d ∧ ρ 12 = .int .i64 xs.length ∧ ∃ i : Nat, ρ 13 = .int .i64 i ∧ i ≤ xs.length ∧ xs.take i = ys.take i) (fun ρ _ => xs.length - (iv (ρ 13)).toNat) ?_ ?_
    · (try simp (maxSteps := 1000000) (disch := first | omega | assumption | exact Nat.le_of_ble_eq_true rfl) only [go_sem, ↓mwp_block, simprocAttr])
      exact ⟨0, rfl, Nat.zero_le _, rfl⟩
    · rintro ρ _ J hJ ⟨rfl, e0, e1, e12, i, e13, hi, hx⟩
      (try simp (maxSteps := 1000000) (disch := first | omega | assumption | exact Nat.le_of_ble_eq_true rfl) only [go_sem, ↓mwp_block, simprocAttr, e12, e13])
      refine cond_dec (fun hg => ?_) (fun hg => ?_)
      · have hi1 : i < xs.length := by omega
        have hi2 : i < ys.length := by omega
        obtain ⟨b, off, rfl, hr1⟩ := ha.at hi1
        obtain ⟨b', off', rfl, hr2⟩ := hb.at hi2
        have r1 := rd1_part0 hr1 (by omega)
        have r2 := rd1_part0 hr2 (by omega)
        simp only [bEnc, List.getElem?_cons_zero] at r1 r2
        (try simp (maxSteps := 1000000) (disch := first | omega | assumption | exact Nat.le_of_ble_eq_true rfl) only [go_sem, ↓mwp_block, simprocAttr, e0, e1, e13])
        refine draw_eq ?_
        (try simp (maxSteps := 1000000) (disch := first | omega | assumption | exact Nat.le_of_ble_eq_true rfl) only [go_sem, ↓mwp_block, simprocAttr, e0, e1, e13, r1, r2])
        by_cases hxy : xs[i] = ys[i]
        · have : (xs[i].toNat : Int) = ys[i].toNat := by rw [hxy]
          (try simp (maxSteps := 1000000) (disch := first | omega | assumption | exact Nat.le_of_ble_eq_true rfl) only [go_sem, ↓mwp_block, simprocAttr, e13])
          refine hJ _ _ ?_ ?_
          · (try simp (maxSteps := 1000000) (disch := first | omega | assumption | exact Nat.le_of_ble_eq_true rfl) only [go_sem, ↓mwp_block, simprocAttr, e0, e1, e12, e13])
            refine ⟨i + 1, rfl, by omega, ?_⟩
            rw [List.take_succ_eq_append_getElem hi1, List.take_succ_eq_append_getElem hi2, hx, hxy]
          · (try simp (maxSteps := 1000000) (disch := first | omega | assumption | exact Nat.le_of_ble_eq_true rfl) only [go_sem, ↓mwp_block, simprocAttr, e13])
            omega
        · have : ¬ (xs[i].toNat : Int) = ys[i].toNat := fun h => hxy (UInt8.toNat_inj.1 (by omega))
          (try simp (maxSteps := 1000000) (disch := first | omega | assumption | exact Nat.le_of_ble_eq_true rfl) only [go_sem, ↓mwp_block, simprocAttr])
          exact hK _ _ ⟨by rw [dcd_false]; rintro rfl; exact hxy rfl, rfl⟩
      · obtain rfl : i = xs.length := by omega
        (try simp (maxSteps := 1000000) (disch := first | omega | assumption | exact Nat.le_of_ble_eq_true rfl) only [go_sem, ↓mwp_block, simprocAttr])
        refine hK _ _ ⟨?_, rfl⟩
        rw [dcd_true]
        rw [List.take_length, hlen, List.take_length] at hx
        exact hx
  · (refine enterK c_recouplaw01_Bytes (Nat.le_of_ble_eq_true rfl) fun K hK => ?_; (try simp (maxSteps := 1000000) (disch := first | omega | assumption | exact Nat.le_of_ble_eq_true rfl) only [go_sem, ↓mwp_block, simprocAttr, ir_recouplaw01_Bytes]))
    exact hK _ _ ⟨by rw [dcd_false]; rintro rfl; exact hlen rfl, rfl⟩
end Go.Proofs.Ytnjjdpeglkiifaa.MX
