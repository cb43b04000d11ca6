/- Split: what is asked. -/
import Derived.Test.YtnjjdpeglkiifaaSp10
namespace Go.Proofs.Ytnjjdpeglkiifaa.MX
open Go Go.Proofs
set_option linter.unusedSimpArgs false
set_option linter.unusedVariables false
set_option maxHeartbeats 4000000
def fitW (w : Int) : Prop := 0 ≤ w ∧ w ≤ 1125899906842624
instance (w : Int) : Decidable (fitW w) := by unfold fitW; exact inferInstance
/-- What is wrong with a sum and weights. -/
def askE (sum : Int) (ws : List Int) : Int :=
  if ws.length < 1 ∨ 200 < ws.length ∨ ¬ ∀ w ∈ ws, fitW w then 1
  else if sum < 0 ∨ 1125899906842624 < sum ∨ 1125899906842624 < ws.sum then 9 else 0
def askA (sum : Int) (ws : List Int) : Int := if askE sum ws = 0 then ws.sum else 0
theorem sum_bound : ∀ {ws : List Int}, (∀ w ∈ ws, fitW w) → 0 ≤ ws.sum ∧ ws.sum ≤ 1125899906842624 * ws.length
  | [], _ => by simp
  | w :: ws, h => by
    have h1 := h w (by simp)
    have h2 := sum_bound (ws := ws) fun x hx => h x (by simp [hx])
    unfold fitW at h1
    rw [List.sum_cons, List.length_cons]
    omega
section
variable {h : Heap}
theorem asked_ok {A : Option Addr} {c : Nat} {ws : List Int} (sum : Int) (ha : Arr zEnc 1 h A ws) (hl : ws.length < 1000000000) :
    CallsH Try.prog 64 [.int .i64 sum, .slice A ws.length c] h fun v h' => v = .tuple #[.int .i64 (askA sum ws), .int .i64 (askE sum ws)] ∧ h' = h := by
  by_cases h1 : (ws.length : Int) < 1
  · have e : askE sum ws = 1 := by unfold askE; rw [if_pos (.inl (by omega))]
    (refine enterK c_split_asked (Nat.le_of_ble_eq_true rfl) fun K hK => ?_; (try simp (maxSteps := 1000000) (disch := first | omega | assumption | exact Nat.le_of_ble_eq_true rfl) only [go_sem, ↓mwp_block, simprocAttr, ir_split_asked]))
    (try simp (maxSteps := 1000000) (disch := first | omega | assumption | exact Nat.le_of_ble_eq_true rfl) only [go_sem, ↓mwp_block, simprocAttr, h1])
    exact hK _ _ ⟨by rw [askA, e]; rfl, rfl⟩
  by_cases h2 : (200 : Int) < ws.length
  · have e : askE sum ws = 1 := by unfold askE; rw [if_pos (.inr (.inl (by omega)))]
    (refine enterK c_split_asked (Nat.le_of_ble_eq_true rfl) fun K hK => ?_; (try simp (maxSteps := 1000000) (disch := first | omega | assumption | exact Nat.le_of_ble_eq_true rfl) only [go_sem, ↓mwp_block, simprocAttr, ir_split_asked]))
    (try simp (maxSteps := 1000000) (disch := first | omega | assumption | exact Nat.le_of_ble_eq_true rfl) only [go_sem, ↓mwp_block, simprocAttr, h1, h2])
    exact hK _ _ ⟨by rw [askA, e]; rfl, rfl⟩
  (refine enterK c_split_asked (Nat.le_of_ble_eq_true rfl) fun K hK => ?_; (try simp (maxSteps := 1000000) (disch := first | omega | assumption | exact Nat.le_of_ble_eq_true rfl) only [go_sem, ↓mwp_block, simprocAttr, ir_split_asked]))
  (try simp (maxSteps := 1000000) (disch := first | omega | assumption | exact Nat.le_of_ble_eq_true rfl) only [go_sem, ↓mwp_block, simprocAttr, h1, h2])
  refine loop_intro (fun ρ h' => h' = h ∧ ρ 0 = .int .i64 sum ∧ ρ 17 = .slice A ws.length c ∧ ρ 18 = .int .i64 ws.length ∧ ∃ i : Nat, ρ 19 = .int .i64 i ∧ i ≤ ws.length ∧ (∀ w ∈ ws.take i, fitW w) ∧ ρ 6 = .int .i64 (ws.take i).sum) (fun ρ _ => ws.length - (iv (ρ 19)).toNat) ?_ ?_
  · (try simp (maxSteps := 1000000) (disch := first | omega | assumption | exact Nat.le_of_ble_eq_true rfl) only [go_sem, ↓mwp_block, simprocAttr])
    exact ⟨0, rfl, by omega, by simp, by simp⟩
  rintro ρ h' J hJ ⟨rfl, e0, e17, e18, i, e19, hi, hfit, e6⟩
  (try simp (maxSteps := 1000000) (disch := first | omega | assumption | exact Nat.le_of_ble_eq_true rfl) only [go_sem, ↓mwp_block, simprocAttr, e18, e19])
  refine cond_dec (fun hlt => ?_) (fun hlt => ?_)
  · have hil : i < ws.length := by omega
    obtain ⟨bk, off, rfl, hr⟩ := ha i hil
    have hr := rd1_part hr 0 (by omega)
    simp only [zEnc, List.getElem?_cons_zero, Nat.add_zero] at hr
    have hmem : ws[i] ∈ ws := List.getElem_mem hil
    have hb := sum_bound hfit
    have hbl : (ws.take i).length ≤ 200 := by rw [List.length_take]; omega
    generalize hz : ws[i] = z at hr hmem
    have hbad : ¬ fitW z → askE sum ws = 1 := fun hn => by
      unfold askE
      rw [if_pos (.inr (.inr fun h => hn (h z hmem)))]
    by_cases c1 : z < 0
    · have e := hbad fun h => by unfold fitW at h; omega
      (try simp (maxSteps := 1000000) (disch := first | omega | assumption | exact Nat.le_of_ble_eq_true rfl) only [go_sem, ↓mwp_block, simprocAttr, e17, e19, hr, c1])
      exact hK _ _ ⟨by rw [askA, e]; rfl, rfl⟩
    by_cases c2 : (1125899906842624 : Int) < z
    · have e := hbad fun h => by unfold fitW at h; omega
      (try simp (maxSteps := 1000000) (disch := first | omega | assumption | exact Nat.le_of_ble_eq_true rfl) only [go_sem, ↓mwp_block, simprocAttr, e17, e19, hr, c1, c2])
      exact hK _ _ ⟨by rw [askA, e]; rfl, rfl⟩
    have w1 : IntKind.i64.wrap ((ws.take i).sum + z) = (ws.take i).sum + z := wrap_i64 (by omega) (by omega)
    (try simp (maxSteps := 1000000) (disch := first | omega | assumption | exact Nat.le_of_ble_eq_true rfl) only [go_sem, ↓mwp_block, simprocAttr, e17, e19, hr, c1, c2, e6, w1])
    refine hJ _ _ ?_ ?_
    · (try simp (maxSteps := 1000000) (disch := first | omega | assumption | exact Nat.le_of_ble_eq_true rfl) only [go_sem, ↓mwp_block, simprocAttr, e0, e17, e18])
      refine ⟨i + 1, rfl, by omega, ?_, ?_⟩
      · rw [List.take_succ_eq_append_getElem hil, hz]
        intro w hw
        rcases List.mem_append.1 hw with hw | hw
        · exact hfit w hw
        · simp only [List.mem_singleton] at hw
          subst hw
          exact ⟨by omega, by omega⟩
      · rw [List.take_succ_eq_append_getElem hil, hz, List.sum_append]
        simp
    · (try simp (maxSteps := 1000000) (disch := first | omega | assumption | exact Nat.le_of_ble_eq_true rfl) only [go_sem, ↓mwp_block, simprocAttr, e19])
      omega
  · obtain rfl : i = ws.length := by omega
    rw [List.take_length] at hfit e6
    have e9 : (sum < 0 ∨ 1125899906842624 < sum ∨ 1125899906842624 < ws.sum) → askE sum ws = 9 := fun hx => by
      unfold askE
      rw [if_neg (by rintro (h | h | h) <;> first | omega | exact h hfit), if_pos hx]
    have e00 : ¬ (sum < 0 ∨ 1125899906842624 < sum ∨ 1125899906842624 < ws.sum) → askE sum ws = 0 := fun hx => by
      unfold askE
      rw [if_neg (by rintro (h | h | h) <;> first | omega | exact h hfit), if_neg hx]
    by_cases c1 : sum < 0
    · have e := e9 (.inl c1)
      (try simp (maxSteps := 1000000) (disch := first | omega | assumption | exact Nat.le_of_ble_eq_true rfl) only [go_sem, ↓mwp_block, simprocAttr, e0, e6, c1])
      exact hK _ _ ⟨by rw [askA, e]; rfl, rfl⟩
    by_cases c2 : (1125899906842624 : Int) < sum
    · have e := e9 (.inr (.inl c2))
      (try simp (maxSteps := 1000000) (disch := first | omega | assumption | exact Nat.le_of_ble_eq_true rfl) only [go_sem, ↓mwp_block, simprocAttr, e0, e6, c1, c2])
      exact hK _ _ ⟨by rw [askA, e]; rfl, rfl⟩
    by_cases c3 : (1125899906842624 : Int) < ws.sum
    · have e := e9 (.inr (.inr c3))
      (try simp (maxSteps := 1000000) (disch := first | omega | assumption | exact Nat.le_of_ble_eq_true rfl) only [go_sem, ↓mwp_block, simprocAttr, e0, e6, c1, c2, c3])
      exact hK _ _ ⟨by rw [askA, e]; rfl, rfl⟩
    have e := e00 (by omega)
    (try simp (maxSteps := 1000000) (disch := first | omega | assumption | exact Nat.le_of_ble_eq_true rfl) only [go_sem, ↓mwp_block, simprocAttr, e0, e6, c1, c2, c3])
    exact hK _ _ ⟨by rw [askA, e]; rfl, rfl⟩
end
end Go.Proofs.Ytnjjdpeglkiifaa.MX
