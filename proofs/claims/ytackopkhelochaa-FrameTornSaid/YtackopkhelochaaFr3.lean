/- The first frame of some bytes. -/
import Derived.Test.YtackopkhelochaaFr2
import Derived.Test.YtackopkhelochaaIn2
namespace Go.Proofs.Ytackopkhelochaa.MX
open Go Go.Proofs
set_option linter.unusedSimpArgs false
set_option linter.unusedVariables false

/-- How many bytes the first frame says that it has. -/
def frN (b : List UInt8) : Int := num ((b.drop 1).take 2)
def frX (b : List UInt8) : List UInt8 := (b.drop 7).take (frN b).toNat
def frOk (b : List UInt8) : Prop := ¬ b.length < 7 ∧ b[0]? = some 165 ∧ ¬ frN b < 1 ∧ ¬ 60000 < frN b ∧ ¬ (b.length : Int) - 7 < frN b ∧ num ((b.drop 3).take 4) = fsum (frX b)
open Classical in
noncomputable def firstOf (b : List UInt8) : Option (List UInt8) := if frOk b then some (frX b) else none
theorem firstOf_no {b : List UInt8} (h : ¬ frOk b) : firstOf b = none := by simp [firstOf, h]
theorem firstOf_yes {b : List UInt8} (h : frOk b) : firstOf b = some (frX b) := by simp [firstOf, h]
theorem frX_len {b : List UInt8} (h : frOk b) : ((frX b).length : Int) = frN b := by
  obtain ⟨h1, _, h2, _, h3, _⟩ := h
  simp only [frX, List.length_take, List.length_drop]
  omega
/-- What it is told as. -/
def toldF (A : Option Addr) (c : Nat) : Option (List UInt8) → Value
  | none => .tuple #[.slice none 0 0, .int .i64 0]
  | some x => .tuple #[.slice A x.length c, .int .i64 ((7 + x.length : Nat) : Int)]

theorem first_ok {h0 h : Heap} {l : List HP} {A : Option Addr} {c : Nat} {b : List UInt8} (S : St h0 h l) (ha : ∀ h', St h0 h' l → Arr bEnc 1 h' A b) (hc : b.length ≤ c) (hc2 : c < 9223372036854775808) (hl : b.length < 10000000) :
    CallsH Try.prog 72 [.slice A b.length c] h fun r h' => (∃ A' c', r = toldF A' c' (firstOf b) ∧ (∀ x, firstOf b = some x → x.length ≤ c' ∧ c' < 9223372036854775808 ∧ ∀ h', St h0 h' l → Arr bEnc 1 h' A' x)) ∧ St h0 h' l := by
  by_cases g1 : b.length < 7
  · (refine enterK c_frame_first (Nat.le_of_ble_eq_true rfl) fun K hK => ?_; (try simp (maxSteps := 1000000) (disch := first | omega | assumption | exact Nat.le_of_ble_eq_true rfl) only [go_sem, ↓mwp_block, simprocAttr, ir_frame_first]))
    refine hK _ _ ⟨⟨none, 0, ?_, ?_⟩, S⟩
    · rw [firstOf_no (fun h => h.1 g1)]; rfl
    · rw [firstOf_no (fun h => h.1 g1)]; intro x hx; cases hx
  obtain ⟨bk, off, rfl, hr0⟩ := (ha h S).at (show 0 < b.length by omega)
  have hb0 : b[0]? = some (b[0]'(by omega)) := List.getElem?_eq_getElem (by omega)
  rw [Nat.zero_mul, Nat.add_zero] at hr0
  have hd := rd1_part (k := 0) hr0
  simp only [bEnc, Nat.add_zero, List.getElem?_cons_zero] at hd
  generalize b[0]'(by omega) = x0 at hb0 hd
  by_cases g2 : (x0.toNat : Int) = 165
  case neg =>
    have hno : firstOf b = none := firstOf_no fun h => by
      have := h.2.1
      rw [hb0] at this
      cases this
      exact g2 rfl
    (refine enterK c_frame_first (Nat.le_of_ble_eq_true rfl) fun K hK => ?_; (try simp (maxSteps := 1000000) (disch := first | omega | assumption | exact Nat.le_of_ble_eq_true rfl) only [go_sem, ↓mwp_block, simprocAttr, ir_frame_first]))
    (try simp (maxSteps := 1000000) (disch := first | omega | assumption | exact Nat.le_of_ble_eq_true rfl) only [go_sem, ↓mwp_block, simprocAttr, hd, Nat.zero_mul, Nat.add_zero])
    refine hK _ _ ⟨⟨none, 0, by rw [hno]; rfl, by rw [hno]; intro x hx; cases hx⟩, S⟩
  have hx0 : x0 = 165 := by
    apply UInt8.toNat_inj.1
    have : x0.toNat = 165 := by omega
    simpa using this
  have h6 : ((b.drop 1).take 6).length = 6 := by simp; omega
  have e1 : rdV 2 ((b.drop 1).take 6) false = frN b := by
    simp only [rdV, h6, Bool.false_eq_true, false_or, show ¬ 6 < 2 by decide, if_false, List.take_take]
    rfl
  have e2 : rdB 2 ((b.drop 1).take 6) false = (b.drop 3).take 4 := by
    simp only [rdB, h6, Bool.false_eq_true, false_or, show ¬ 6 < 2 by decide, if_false, List.drop_take, List.drop_drop]
  have e3 : rdX 2 ((b.drop 1).take 6) false = false := by simp only [rdX, h6]; rfl
  have h4 : ((b.drop 3).take 4).length = 4 := by simp; omega
  have e4 : rdV 4 ((b.drop 3).take 4) false = num ((b.drop 3).take 4) := by
    simp only [rdV, h4, Bool.false_eq_true, false_or, show ¬ 4 < 4 by decide, if_false, List.take_take]
    rfl
  have hN0 : 0 ≤ frN b := num_nonneg _
  have hno : ∀ {p : Prop}, p → ¬ (frOk b ∧ p) → firstOf b = none := fun hp h => firstOf_no fun h1 => h ⟨h1, hp⟩
  have fin : ∀ h', firstOf b = none → St h0 h' l → (∃ A' c', Value.tuple #[.slice none 0 0, .int .i64 0] = toldF A' c' (firstOf b) ∧ (∀ x, firstOf b = some x → x.length ≤ c' ∧ c' < 9223372036854775808 ∧ ∀ h', St h0 h' l → Arr bEnc 1 h' A' x)) ∧ St h0 h' l := fun h' hno S => ⟨⟨none, 0, by rw [hno]; rfl, by rw [hno]; intro x hx; cases hx⟩, S⟩
  (refine enterK c_frame_first (Nat.le_of_ble_eq_true rfl) fun K hK => ?_; (try simp (maxSteps := 1000000) (disch := first | omega | assumption | exact Nat.le_of_ble_eq_true rfl) only [go_sem, ↓mwp_block, simprocAttr, ir_frame_first]))
  (try simp (maxSteps := 1000000) (disch := first | omega | assumption | exact Nat.le_of_ble_eq_true rfl) only [go_sem, ↓mwp_block, simprocAttr, hd, Nat.zero_mul, Nat.add_zero])
  have hin := NewIn_ok (c := ((c : Int) - 1).toNat) S (arr_take (arr_drop (ha h S) 1) 6) (by simp) (by omega)
  rw [h6] at hin
  refine call_intro hin ?_
  rintro _ h ⟨i, rfl, S⟩
  (try simp (maxSteps := 1000000) (disch := first | omega | assumption | exact Nat.le_of_ble_eq_true rfl) only [go_sem, ↓mwp_block, simprocAttr])
  refine call_intro (inU16_ok S (by omega)) ?_
  rintro _ h ⟨rfl, S⟩
  rw [e1, e2, e3] at *
  (try simp (maxSteps := 1000000) (disch := first | omega | assumption | exact Nat.le_of_ble_eq_true rfl) only [go_sem, ↓mwp_block, simprocAttr])
  refine call_intro (inU32_ok S (by omega)) ?_
  rintro _ h ⟨rfl, S⟩
  rw [e4]
  have S := S.tl
  by_cases g3 : frN b < 1
  · (try simp (maxSteps := 1000000) (disch := first | omega | assumption | exact Nat.le_of_ble_eq_true rfl) only [go_sem, ↓mwp_block, simprocAttr])
    exact hK _ _ (fin _ (firstOf_no fun h => h.2.2.1 g3) S)
  by_cases g4 : 60000 < frN b
  · (try simp (maxSteps := 1000000) (disch := first | omega | assumption | exact Nat.le_of_ble_eq_true rfl) only [go_sem, ↓mwp_block, simprocAttr])
    exact hK _ _ (fin _ (firstOf_no fun h => h.2.2.2.1 g4) S)
  by_cases g5 : (b.length : Int) - 7 < frN b
  · (try simp (maxSteps := 1000000) (disch := first | omega | assumption | exact Nat.le_of_ble_eq_true rfl) only [go_sem, ↓mwp_block, simprocAttr])
    exact hK _ _ (fin _ (firstOf_no fun h => h.2.2.2.2.1 g5) S)
  (try simp (maxSteps := 1000000) (disch := first | omega | assumption | exact Nat.le_of_ble_eq_true rfl) only [go_sem, ↓mwp_block, simprocAttr])
  have hXl : (frX b).length = (frN b).toNat := by simp only [frX, List.length_take, List.length_drop]; omega
  have hXa : ∀ h', St h0 h' l → Arr bEnc 1 h' (some ⟨bk, off + 7, none⟩) (frX b) := fun h' S => arr_take (arr_drop (ha h' S) 7) _
  have hE : (7 + frN b - 7).toNat = (frX b).length := by omega
  have hfs : fsum (frX b) < 4294967296 := sum_lt _
  rw [hE]
  refine call_intro (sum_ok S hXa (by omega)) ?_
  rintro _ h ⟨rfl, S⟩
  by_cases g6 : num ((b.drop 3).take 4) = fsum (frX b)
  · have hyes : frOk b := ⟨g1, by rw [hb0, hx0], g3, g4, g5, g6⟩
    (try simp (maxSteps := 1000000) (disch := first | omega | assumption | exact Nat.le_of_ble_eq_true rfl) only [go_sem, ↓mwp_block, simprocAttr])
    refine hK _ _ ⟨⟨some ⟨bk, off + 7, none⟩, ((c : Int) - 7).toNat, ?_, ?_⟩, S⟩
    · rw [firstOf_yes hyes, toldF, show (7 + frN b : Int) = ((7 + (frX b).length : Nat) : Int) by omega]
    · rw [firstOf_yes hyes]
      intro x hx
      cases hx
      exact ⟨by omega, by omega, hXa⟩
  · (try simp (maxSteps := 1000000) (disch := first | omega | assumption | exact Nat.le_of_ble_eq_true rfl) only [go_sem, ↓mwp_block, simprocAttr])
    exact hK _ _ (fin _ (firstOf_no fun h => g6 h.2.2.2.2.2) S)
theorem First_ok {h0 h : Heap} {l : List HP} {A : Option Addr} {c : Nat} {b : List UInt8} (S : St h0 h l) (ha : ∀ h', St h0 h' l → Arr bEnc 1 h' A b) (hc : b.length ≤ c) (hc2 : c < 9223372036854775808) (hl : b.length < 10000000) :
    CallsH Try.prog 38 [.slice A b.length c] h fun r h' => match firstOf b with
      | none => r = .tuple #[.slice none 0 0, .int .i64 0, .int .i64 3] ∧ St h0 h' l
      | some x => ∃ v, r = .tuple #[v, .int .i64 ((7 + x.length : Nat) : Int), .int .i64 0] ∧ St h0 h' (ownA bEnc 1 5 v x :: l) := by
  (refine enterK c_frame_First (Nat.le_of_ble_eq_true rfl) fun K hK => ?_; (try simp (maxSteps := 1000000) (disch := first | omega | assumption | exact Nat.le_of_ble_eq_true rfl) only [go_sem, ↓mwp_block, simprocAttr, ir_frame_First]))
  refine call_intro (first_ok S ha hc hc2 hl) ?_
  rintro _ h ⟨⟨A', c', rfl, hx⟩, S⟩
  cases hf : firstOf b with
  | none =>
    rw [hf] at hK
    (try simp (maxSteps := 1000000) (disch := first | omega | assumption | exact Nat.le_of_ble_eq_true rfl) only [go_sem, ↓mwp_block, simprocAttr, toldF])
    exact hK _ _ ⟨rfl, S⟩
  | some x =>
    rw [hf] at hK
    obtain ⟨hx1, hx2, hx3⟩ := hx x hf
    have hxl : 1 ≤ x.length ∧ x.length ≤ 60000 := by
      by_cases ho : frOk b
      · rw [firstOf_yes ho] at hf
        cases hf
        have := frX_len ho
        have h3 := ho.2.2.1
        have h4 := ho.2.2.2.1
        omega
      · rw [firstOf_no ho] at hf; cases hf
    (try simp (maxSteps := 1000000) (disch := first | omega | assumption | exact Nat.le_of_ble_eq_true rfl) only [go_sem, ↓mwp_block, simprocAttr, toldF])
    refine call_intro (CloneB_ok S (hx3 _ S) rfl ?_ (by omega)) ?_
    · rintro rfl
      obtain ⟨_, _, h, _⟩ := (hx3 _ S).at (show 0 < x.length by omega)
      cases h
    · rintro v h ⟨S, _⟩
      (try simp (maxSteps := 1000000) (disch := first | omega | assumption | exact Nat.le_of_ble_eq_true rfl) only [go_sem, ↓mwp_block, simprocAttr])
      exact hK _ _ ⟨v, rfl, S⟩
end Go.Proofs.Ytackopkhelochaa.MX
