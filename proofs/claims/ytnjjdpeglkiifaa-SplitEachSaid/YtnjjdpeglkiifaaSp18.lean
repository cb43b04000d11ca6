/- Split: the reference's Asked and Part, and Same. -/
import Derived.Test.YtnjjdpeglkiifaaSp17
namespace Go.Proofs.Ytnjjdpeglkiifaa.MX
open Go Go.Proofs
set_option linter.unusedSimpArgs false
set_option linter.unusedVariables false
set_option maxHeartbeats 8000000
section
variable {h : Heap}
theorem RAsked_ok {A : Option Addr} {c : Nat} {ws : List Int} (sum : Int) (ha : Arr zEnc 1 h A ws) (hl : ws.length < 1000000000) :
    CallsH Try.prog 29 [.int .i64 sum, .slice A ws.length c] h fun v h' => v = .int .i64 (askE sum ws) ∧ h' = h := by
  by_cases h1 : (ws.length : Int) < 1
  · have e : askE sum ws = 1 := by unfold askE; rw [if_pos (.inl (by omega))]
    (refine enterK c_recoupref05_Asked (Nat.le_of_ble_eq_true rfl) fun K hK => ?_; (try simp (maxSteps := 1000000) (disch := first | omega | assumption | exact Nat.le_of_ble_eq_true rfl) only [go_sem, ↓mwp_block, simprocAttr, ir_recoupref05_Asked]))
    (try simp (maxSteps := 1000000) (disch := first | omega | assumption | exact Nat.le_of_ble_eq_true rfl) only [go_sem, ↓mwp_block, simprocAttr, h1])
    exact hK _ _ ⟨by rw [e], rfl⟩
  by_cases h2 : (200 : Int) < ws.length
  · have e : askE sum ws = 1 := by unfold askE; rw [if_pos (.inr (.inl (by omega)))]
    (refine enterK c_recoupref05_Asked (Nat.le_of_ble_eq_true rfl) fun K hK => ?_; (try simp (maxSteps := 1000000) (disch := first | omega | assumption | exact Nat.le_of_ble_eq_true rfl) only [go_sem, ↓mwp_block, simprocAttr, ir_recoupref05_Asked]))
    (try simp (maxSteps := 1000000) (disch := first | omega | assumption | exact Nat.le_of_ble_eq_true rfl) only [go_sem, ↓mwp_block, simprocAttr, h1, h2])
    exact hK _ _ ⟨by rw [e], rfl⟩
  (refine enterK c_recoupref05_Asked (Nat.le_of_ble_eq_true rfl) fun K hK => ?_; (try simp (maxSteps := 1000000) (disch := first | omega | assumption | exact Nat.le_of_ble_eq_true rfl) only [go_sem, ↓mwp_block, simprocAttr, ir_recoupref05_Asked]))
  (try simp (maxSteps := 1000000) (disch := first | omega | assumption | exact Nat.le_of_ble_eq_true rfl) only [go_sem, ↓mwp_block, simprocAttr, h1, h2])
  refine loop_intro (fun ρ h' => h' = h ∧ ρ 0 = .int .i64 sum ∧ ρ 1 = .slice A ws.length c ∧ ρ 16 = .int .i64 ws.length ∧ ∃ i : Nat, ρ 17 = .int .i64 i ∧ i ≤ ws.length ∧ (∀ w ∈ ws.take i, fitW w) ∧ ρ 5 = .int .i64 (ws.take i).sum) (fun ρ _ => ws.length - (iv (ρ 17)).toNat) ?_ ?_
  · (try simp (maxSteps := 1000000) (disch := first | omega | assumption | exact Nat.le_of_ble_eq_true rfl) only [go_sem, ↓mwp_block, simprocAttr])
    exact ⟨0, rfl, by omega, by simp, by simp⟩
  rintro ρ h' J hJ ⟨rfl, e0, e1, e16, i, e17, hi, hfit, e5⟩
  (try simp (maxSteps := 1000000) (disch := first | omega | assumption | exact Nat.le_of_ble_eq_true rfl) only [go_sem, ↓mwp_block, simprocAttr, e16, e17])
  refine cond_dec (fun hlt => ?_) (fun hlt => ?_)
  · have hil : i < ws.length := by omega
    obtain ⟨bk, off, rfl, hr⟩ := ha i hil
    have hr := rd1_part hr 0 (by omega)
    simp only [zEnc, List.getElem?_cons_zero, Nat.add_zero] at hr
    have hmem : ws[i] ∈ ws := List.getElem_mem hil
    have hb := sum_bound hfit
    have hbl : (ws.take i).length ≤ 200 := by rw [List.length_take]; omega
    generalize hz : ws[i] = z at hr hmem
    have hbad : ¬ fitW z → askE sum ws = 1 := fun hn => by
      unfold askE
      rw [if_pos (.inr (.inr fun h => hn (h z hmem)))]
    by_cases c1 : z < 0
    · have e := hbad fun h => by unfold fitW at h; omega
      (try simp (maxSteps := 1000000) (disch := first | omega | assumption | exact Nat.le_of_ble_eq_true rfl) only [go_sem, ↓mwp_block, simprocAttr, e1, e17, hr, c1])
      exact hK _ _ ⟨by rw [e], rfl⟩
    by_cases c2 : (1125899906842624 : Int) < z
    · have e := hbad fun h => by unfold fitW at h; omega
      (try simp (maxSteps := 1000000) (disch := first | omega | assumption | exact Nat.le_of_ble_eq_true rfl) only [go_sem, ↓mwp_block, simprocAttr, e1, e17, hr, c1, c2])
      exact hK _ _ ⟨by rw [e], rfl⟩
    have w1 : IntKind.i64.wrap ((ws.take i).sum + z) = (ws.take i).sum + z := wrap_i64 (by omega) (by omega)
    (try simp (maxSteps := 1000000) (disch := first | omega | assumption | exact Nat.le_of_ble_eq_true rfl) only [go_sem, ↓mwp_block, simprocAttr, e1, e17, hr, c1, c2, e5, w1])
    refine hJ _ _ ?_ ?_
    · (try simp (maxSteps := 1000000) (disch := first | omega | assumption | exact Nat.le_of_ble_eq_true rfl) only [go_sem, ↓mwp_block, simprocAttr, e0, e1, e16])
      refine ⟨i + 1, rfl, by omega, ?_, ?_⟩
      · rw [List.take_succ_eq_append_getElem hil, hz]
        intro w hw
        rcases List.mem_append.1 hw with hw | hw
        · exact hfit w hw
        · simp only [List.mem_singleton] at hw
          subst hw
          exact ⟨by omega, by omega⟩
      · rw [List.take_succ_eq_append_getElem hil, hz, List.sum_append]
        simp
    · (try simp (maxSteps := 1000000) (disch := first | omega | assumption | exact Nat.le_of_ble_eq_true rfl) only [go_sem, ↓mwp_block, simprocAttr, e17])
      omega
  · obtain rfl : i = ws.length := by omega
    rw [List.take_length] at hfit e5
    have e9 : (sum < 0 ∨ 1125899906842624 < sum ∨ 1125899906842624 < ws.sum) → askE sum ws = 9 := fun hx => by
      unfold askE
      rw [if_neg (by rintro (h | h | h) <;> first | omega | exact h hfit), if_pos hx]
    have e00 : ¬ (sum < 0 ∨ 1125899906842624 < sum ∨ 1125899906842624 < ws.sum) → askE sum ws = 0 := fun hx => by
      unfold askE
      rw [if_neg (by rintro (h | h | h) <;> first | omega | exact h hfit), if_neg hx]
    by_cases c1 : sum < 0
    · have e := e9 (.inl c1)
      (try simp (maxSteps := 1000000) (disch := first | omega | assumption | exact Nat.le_of_ble_eq_true rfl) only [go_sem, ↓mwp_block, simprocAttr, e0, e5, c1])
      exact hK _ _ ⟨by rw [e], rfl⟩
    by_cases c2 : (1125899906842624 : Int) < sum
    · have e := e9 (.inr (.inl c2))
      (try simp (maxSteps := 1000000) (disch := first | omega | assumption | exact Nat.le_of_ble_eq_true rfl) only [go_sem, ↓mwp_block, simprocAttr, e0, e5, c1, c2])
      exact hK _ _ ⟨by rw [e], rfl⟩
    by_cases c3 : (1125899906842624 : Int) < ws.sum
    · have e := e9 (.inr (.inr c3))
      (try simp (maxSteps := 1000000) (disch := first | omega | assumption | exact Nat.le_of_ble_eq_true rfl) only [go_sem, ↓mwp_block, simprocAttr, e0, e5, c1, c2, c3])
      exact hK _ _ ⟨by rw [e], rfl⟩
    have e := e00 (by omega)
    (try simp (maxSteps := 1000000) (disch := first | omega | assumption | exact Nat.le_of_ble_eq_true rfl) only [go_sem, ↓mwp_block, simprocAttr, e0, e5, c1, c2, c3])
    exact hK _ _ ⟨by rw [e], rfl⟩
theorem RPart_ok (a n of : Nat) (ha : a ≤ 1125899906842624) (hn : n ≤ of) (h0 : 0 < of) (hof : of ≤ 1125899906842624) (h : Heap) :
    CallsH Try.prog 32 [.int .i64 a, .int .i64 n, .int .i64 of] h fun v h' => v = .tuple #[.int .i64 (a * n / of : Nat), .int .i64 0] ∧ h' = h := by
  have c1 : ¬ (a : Int) < 0 := by omega
  have c2 : ¬ (1125899906842624 : Int) < a := by omega
  have c3 : ¬ (of : Int) < 1 := by omega
  have c4 : ¬ (n : Int) < 0 := by omega
  have c5 : ¬ (of : Int) < n := by omega
  (refine enterK c_recoupref05_Part (Nat.le_of_ble_eq_true rfl) fun K hK => ?_; (try simp (maxSteps := 1000000) (disch := first | omega | assumption | exact Nat.le_of_ble_eq_true rfl) only [go_sem, ↓mwp_block, simprocAttr, ir_recoupref05_Part]))
  (try simp (maxSteps := 1000000) (disch := first | omega | assumption | exact Nat.le_of_ble_eq_true rfl) only [go_sem, ↓mwp_block, simprocAttr, c1, c2, c3, c4, c5])
  refine call_intro (divided_ok a n of ha hn h0 hof _) ?_
  rintro _ _ ⟨rfl, rfl⟩
  (try simp (maxSteps := 1000000) (disch := first | omega | assumption | exact Nat.le_of_ble_eq_true rfl) only [go_sem, ↓mwp_block, simprocAttr])
  exact hK _ _ ⟨rfl, rfl⟩
theorem Same06_ok {A B : Option Addr} {c d : Nat} {xs ys : List Int} (ha : Arr zEnc 1 h A xs) (hb : Arr zEnc 1 h B ys) (hl : xs.length < 1000000000) :
    CallsH Try.prog 30 [.slice A xs.length c, .slice B ys.length d] h fun v h' => v = .bool (dcd (xs = ys)) ∧ h' = h := by
  by_cases hle : xs.length = ys.length
  case neg =>
    have hle' : ¬ (xs.length : Int) = ys.length := by omega
    (refine enterK c_recouplaw06_Same (Nat.le_of_ble_eq_true rfl) fun K hK => ?_; (try simp (maxSteps := 1000000) (disch := first | omega | assumption | exact Nat.le_of_ble_eq_true rfl) only [go_sem, ↓mwp_block, simprocAttr, ir_recouplaw06_Same]))
    (try simp (maxSteps := 1000000) (disch := first | omega | assumption | exact Nat.le_of_ble_eq_true rfl) only [go_sem, ↓mwp_block, simprocAttr, hle'])
    exact hK _ _ ⟨by rw [dcd_false (fun e => hle (congrArg List.length e))], rfl⟩
  rw [hle]
  (refine enterK c_recouplaw06_Same (Nat.le_of_ble_eq_true rfl) fun K hK => ?_; (try simp (maxSteps := 1000000) (disch := first | omega | assumption | exact Nat.le_of_ble_eq_true rfl) only [go_sem, ↓mwp_block, simprocAttr, ir_recouplaw06_Same]))
  (try simp (maxSteps := 1000000) (disch := first | omega | assumption | exact Nat.le_of_ble_eq_true rfl) only [go_sem, ↓mwp_block, simprocAttr])
  refine loop_intro (fun ρ h' => h' = h ∧ ρ 0 = .slice A ys.length c ∧ ρ 1 = .slice B ys.length d ∧ ρ 12 = .int .i64 ys.length ∧ ∃ i : Nat, ρ 13 = .int .i64 i ∧ i ≤ ys.length ∧ xs.take i = ys.take i) (fun ρ _ => ys.length - (iv (ρ 13)).toNat) ?_ ?_
  · (try simp (maxSteps := 1000000) (disch := first | omega | assumption | exact Nat.le_of_ble_eq_true rfl) only [go_sem, ↓mwp_block, simprocAttr])
    exact ⟨0, rfl, by omega, rfl⟩
  rintro ρ h' J hJ ⟨rfl, e0, e1, e12, i, e13, hi, htk⟩
  (try simp (maxSteps := 1000000) (disch := first | omega | assumption | exact Nat.le_of_ble_eq_true rfl) only [go_sem, ↓mwp_block, simprocAttr, e12, e13])
  refine cond_dec (fun hlt => ?_) (fun hlt => ?_)
  · have hil : i < xs.length := by omega
    have hil2 : i < ys.length := by omega
    obtain ⟨bk, off, rfl, hr⟩ := ha i hil
    obtain ⟨bk2, off2, rfl, hr2⟩ := hb i hil2
    have hr := rd1_part hr 0 (by omega)
    have hr2 := rd1_part hr2 0 (by omega)
    simp only [zEnc, List.getElem?_cons_zero, Nat.add_zero] at hr hr2
    by_cases he : xs[i] = ys[i]
    · rw [← he] at hr2
      (try simp (maxSteps := 1000000) (disch := first | omega | assumption | exact Nat.le_of_ble_eq_true rfl) only [go_sem, ↓mwp_block, simprocAttr])
      refine draw_eq ?_
      (try simp (maxSteps := 1000000) (disch := first | omega | assumption | exact Nat.le_of_ble_eq_true rfl) only [go_sem, ↓mwp_block, simprocAttr, e0, e1, e13, hr, hr2])
      refine hJ _ _ ?_ ?_
      · (try simp (maxSteps := 1000000) (disch := first | omega | assumption | exact Nat.le_of_ble_eq_true rfl) only [go_sem, ↓mwp_block, simprocAttr, e0, e1, e12])
        exact ⟨i + 1, rfl, by omega, by rw [List.take_succ_eq_append_getElem hil, List.take_succ_eq_append_getElem hil2, he, htk]⟩
      · (try simp (maxSteps := 1000000) (disch := first | omega | assumption | exact Nat.le_of_ble_eq_true rfl) only [go_sem, ↓mwp_block, simprocAttr, e13])
        omega
    · (try simp (maxSteps := 1000000) (disch := first | omega | assumption | exact Nat.le_of_ble_eq_true rfl) only [go_sem, ↓mwp_block, simprocAttr])
      refine draw_eq ?_
      (try simp (maxSteps := 1000000) (disch := first | omega | assumption | exact Nat.le_of_ble_eq_true rfl) only [go_sem, ↓mwp_block, simprocAttr, e0, e1, e13, hr, hr2, he])
      refine hK _ _ ⟨by rw [dcd_false (fun e => he (by subst e; rfl))], rfl⟩
  · obtain rfl : i = ys.length := by omega
    (try simp (maxSteps := 1000000) (disch := first | omega | assumption | exact Nat.le_of_ble_eq_true rfl) only [go_sem, ↓mwp_block, simprocAttr])
    refine hK _ _ ⟨by rw [dcd_true (by rw [List.take_of_length_le (by omega), List.take_of_length_le (by omega)] at htk; exact htk)], rfl⟩
end
end Go.Proofs.Ytnjjdpeglkiifaa.MX
