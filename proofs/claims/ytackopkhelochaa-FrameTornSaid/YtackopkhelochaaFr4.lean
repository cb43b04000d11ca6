/- All frames of some bytes, one by one. -/
import Derived.Test.YtackopkhelochaaFr3
import Derived.Test.YtackopkhelochaaMXU
namespace Go.Proofs.Ytackopkhelochaa.MX
open Go Go.Proofs
set_option linter.unusedSimpArgs false
set_option linter.unusedVariables false

noncomputable def frs : Nat → List UInt8 → List (List UInt8)
  | 0, _ => []
  | n + 1, b => match firstOf b with
    | none => []
    | some x => x :: frs n (b.drop (7 + x.length))
/-- The frames with which bytes begin. -/
noncomputable def framesOf (b : List UInt8) : List (List UInt8) := frs b.length b
/-- The place behind so many frames. -/
def endOf : List (List UInt8) → Nat
  | [] => 0
  | x :: l => 7 + x.length + endOf l
theorem endOf_app (a b : List (List UInt8)) : endOf (a ++ b) = endOf a + endOf b := by
  induction a with
  | nil => simp [endOf]
  | cons x a ih => simp only [List.cons_append, endOf, ih]; omega
theorem firstOf_some {b x : List UInt8} (h : firstOf b = some x) : frOk b ∧ x = frX b ∧ 1 ≤ x.length ∧ x.length ≤ 60000 ∧ 7 + x.length ≤ b.length := by
  by_cases ho : frOk b
  · rw [firstOf_yes ho] at h
    cases h
    have h1 := frX_len ho
    have h3 := ho.2.2.1
    have h4 := ho.2.2.2.1
    have h5 := ho.2.2.2.2.1
    exact ⟨ho, rfl, by omega, by omega, by omega⟩
  · rw [firstOf_no ho] at h; cases h
theorem frs_more : ∀ (n m : Nat) (b : List UInt8), b.length ≤ n → b.length ≤ m → frs n b = frs m b
  | 0, 0, _, _, _ => rfl
  | 0, m + 1, b, h1, _ => by
    have : b = [] := List.eq_nil_of_length_eq_zero (by omega)
    subst this
    simp only [frs]
    cases h : firstOf [] with
    | none => rfl
    | some x => have := (firstOf_some h).2.2.2.2; simp at this
  | n + 1, 0, b, _, h2 => by
    have : b = [] := List.eq_nil_of_length_eq_zero (by omega)
    subst this
    simp only [frs]
    cases h : firstOf [] with
    | none => rfl
    | some x => have := (firstOf_some h).2.2.2.2; simp at this
  | n + 1, m + 1, b, h1, h2 => by
    simp only [frs]
    cases h : firstOf b with
    | none => rfl
    | some x =>
      have := (firstOf_some h).2.2
      simp only [List.cons.injEq, true_and]
      exact frs_more n m _ (by simp; omega) (by simp; omega)
theorem framesOf_eq (b : List UInt8) : framesOf b = match firstOf b with
    | none => []
    | some x => x :: framesOf (b.drop (7 + x.length)) := by
  unfold framesOf
  rw [frs_more b.length (b.length + 1) b (Nat.le_refl _) (by omega)]
  simp only [frs]
  cases h : firstOf b with
  | none => rfl
  | some x =>
    simp only [List.cons.injEq, true_and]
    exact frs_more _ _ _ (by simp) (Nat.le_refl _)
/-- Behind some frames come the others. -/
theorem framesOf_drop : ∀ (i : Nat) (b : List UInt8), i ≤ (framesOf b).length → framesOf (b.drop (endOf ((framesOf b).take i))) = (framesOf b).drop i ∧ endOf ((framesOf b).take i) ≤ b.length
  | 0, b, _ => by simp [endOf]
  | i + 1, b, hi => by
    have he := framesOf_eq b
    cases h : firstOf b with
    | none => rw [h] at he; simp only at he; rw [he] at hi; simp at hi
    | some x =>
      rw [h] at he
      simp only at he
      rw [he] at hi ⊢
      obtain ⟨h1, h2⟩ := framesOf_drop i (b.drop (7 + x.length)) (by simpa using hi)
      have hx := (firstOf_some h).2.2.2.2
      simp only [List.take_succ_cons, endOf, List.drop_succ_cons]
      rw [← List.drop_drop]
      refine ⟨h1, ?_⟩
      simp at h2
      omega

theorem All_ok {h0 h : Heap} {l : List HP} {A : Option Addr} {n c : Nat} (S : St h0 h l) :
    CallsH Try.prog 70 [.slice A n c] h fun r h' => ∃ p, r = .func (.func 89) #[] #[.pointer (some ⟨p, 0, none⟩)] ∧ St h0 h' (cellA p [.slice A n c] 22 :: l) := by
  (refine enterK c_frame_All (Nat.le_of_ble_eq_true rfl) fun K hK => ?_; (try simp (maxSteps := 1000000) (disch := first | omega | assumption | exact Nat.le_of_ble_eq_true rfl) only [go_sem, ↓mwp_block, simprocAttr, ir_frame_All]))
  (refine st_alloc S ?_; clear S; intro p h S; (try simp only [splice_cons, splice_nil, List.set_cons_zero, List.set_cons_succ, Nat.zero_add, Nat.reduceAdd, List.cons_append, List.nil_append] at S); ((try clear F); have F := S.all; (try simp only [all_cons, all_nil, says_cell, and_true] at F)))
  (try simp (maxSteps := 1000000) (disch := first | omega | assumption | exact Nat.le_of_ble_eq_true rfl) only [go_sem, ↓mwp_block, simprocAttr])
  exact hK _ _ ⟨p, rfl, S⟩

theorem cut_drop {A : Option Addr} {c at' : Nat} {b : List UInt8} {h : Heap} (ha : Arr bEnc 1 h A b) (h1 : at' ≤ b.length) (hc : b.length ≤ c) (hc2 : c < 9223372036854775808) :
    ∃ A' c', cutV A 1 at' b.length c c = some (.slice A' (b.drop at').length c') ∧ (b.drop at').length ≤ c' ∧ c' < 9223372036854775808 ∧ ∀ h, Arr bEnc 1 h A b → Arr bEnc 1 h A' (b.drop at') := by
  have hl : ((b.length : Int) - at').toNat = (b.drop at').length := by simp
  unfold cutV
  rw [if_pos ⟨by omega, by omega, by omega, by omega⟩, hl]
  by_cases e : (c : Int) = at'
  · rw [if_pos e]
    refine ⟨A, _, rfl, by simp; omega, by omega, fun h ha => ?_⟩
    have : b.drop at' = [] := by simp; omega
    rw [this]
    intro i hi
    simp at hi
  · rw [if_neg e]
    refine ⟨_, _, rfl, by simp; omega, by omega, fun h ha => ?_⟩
    cases A with
    | none =>
      intro i hi
      simp at hi
      obtain ⟨_, _, h1, _⟩ := ha.at (show 0 < b.length by omega)
      cases h1
    | some a =>
      by_cases hb : b = []
      · subst hb
        intro i hi
        simp at hi
      · obtain ⟨bk, off, h1, _⟩ := ha.at (show 0 < b.length by cases b with | nil => exact absurd rfl hb | cons => simp)
        cases h1
        have := arr_drop ha at'
        rw [Option.map_some, Int.toNat_natCast, Nat.mul_one, add_none]
        exact this

set_option maxHeartbeats 1000000 in
theorem All1_ok (yl : Nat) {p : Nat} {A : Option Addr} {c : Nat} {b : List UInt8} (hc : b.length ≤ c) (hc2 : c < 9223372036854775808) (hl : b.length < 10000000) (Inv : Nat → Heap → Prop) (Stop : Heap → Prop)
    (hcell : ∀ i h, Inv i h → rd1 h (.pointer (some ⟨p, 0, none⟩)) = some (.slice A b.length c)) (harr : ∀ i h, Inv i h → Arr bEnc 1 h A b) (hfr : ∀ i h h', Inv i h → Fr h h' [] → Inv i h')
    (hy : ∀ (i : Nat) (x : List UInt8) (h h' : Heap) (v : Value), (framesOf b)[i]? = some x → Inv i h → Fr h h' [] → Own bEnc 1 5 h.size h' v x →
      YieldH Try.prog yl [.int .i64 (endOf ((framesOf b).take (i + 1)) : Nat), v] h' fun r h'' => (r = .bool true ∧ Inv (i + 1) h'') ∨ (r = .bool false ∧ Stop h''))
    {h : Heap} (hi : Inv 0 h) :
    CallsH Try.prog 89 [.func (.yield yl) #[] #[], .pointer (some ⟨p, 0, none⟩)] h fun _ h' => Inv (framesOf b).length h' ∨ Stop h' := by
  refine enterY c_frame_All_1 (by kernel_rfl) (Nat.le_of_ble_eq_true rfl) fun K hK => ?_
  (try simp (maxSteps := 1000000) (disch := first | omega | assumption | exact Nat.le_of_ble_eq_true rfl) only [go_sem, ↓mwp_block, simprocAttr, ir_frame_All_1])
  refine loopY_intro (fun D ρ h => D = [] ∧ ρ 0 = .func (.yield yl) #[] #[] ∧ ρ 1 = .pointer (some ⟨p, 0, none⟩) ∧ ∃ i : Nat, i ≤ (framesOf b).length ∧ ρ 3 = .int .i64 (endOf ((framesOf b).take i) : Nat) ∧ Inv i h) (fun ρ _ => b.length - (iv (ρ 3)).toNat) ?_ ?_
  · (try simp (maxSteps := 1000000) (disch := first | omega | assumption | exact Nat.le_of_ble_eq_true rfl) only [go_sem, ↓mwp_block, simprocAttr])
    exact ⟨0, Nat.zero_le _, rfl, hi⟩
  · clear hi
    rintro D ρ h J hJ ⟨rfl, e0, e1, i, hi, e3, hI⟩
    obtain ⟨hd1, hd2⟩ := framesOf_drop i b hi
    obtain ⟨A', c', hcut, hcl, hcl2, hA'⟩ := cut_drop (harr i h hI) hd2 hc hc2
    (try simp (maxSteps := 1000000) (disch := first | omega | assumption | exact Nat.le_of_ble_eq_true rfl) only [go_sem, ↓mwp_block, simprocAttr, e0, e1, e3, hcell i h hI, hcut])
    refine call_intro (first_ok (St.nil h) (fun h' S => hA' h' ((harr i h hI).fr S.fr (by simp))) hcl hcl2 (by simp; omega)) ?_
    rintro _ h1 ⟨⟨A2, c2, rfl, hx⟩, S⟩
    have hfe := framesOf_eq (b.drop (endOf ((framesOf b).take i)))
    rw [hd1] at hfe
    cases hf : firstOf (b.drop (endOf ((framesOf b).take i))) with
    | none =>
      rw [hf] at hfe
      simp only [List.drop_eq_nil_iff] at hfe
      obtain rfl : i = (framesOf b).length := by omega
      (try simp (maxSteps := 1000000) (disch := first | omega | assumption | exact Nat.le_of_ble_eq_true rfl) only [go_sem, ↓mwp_block, simprocAttr, toldF, e3, e0])
      exact hK _ _ (.inl (hfr _ _ _ hI S.fr))
    | some x =>
      rw [hf] at hfe
      simp only at hfe
      have hil : i < (framesOf b).length := by
        rcases Nat.lt_or_ge i (framesOf b).length with h1 | h1
        · exact h1
        · rw [List.drop_eq_nil_of_le h1] at hfe; cases hfe
      have hxi : (framesOf b)[i] = x := by
        rw [List.drop_eq_getElem_cons hil] at hfe
        exact (List.cons.inj hfe).1
      have htk : endOf ((framesOf b).take (i + 1)) = endOf ((framesOf b).take i) + (7 + x.length) := by
        rw [List.take_succ_eq_append_getElem hil, endOf_app, hxi]
        simp [endOf]
      have hle := (framesOf_drop (i + 1) b hil).2
      obtain ⟨hx1, hx2, hx3⟩ := hx x hf
      obtain ⟨_, _, hxl1, hxl2, _⟩ := firstOf_some hf
      have hgi : (framesOf b)[i]? = some x := by rw [List.getElem?_eq_getElem hil, hxi]
      (try simp (maxSteps := 1000000) (disch := first | omega | assumption | exact Nat.le_of_ble_eq_true rfl) only [go_sem, ↓mwp_block, simprocAttr, toldF, e3, e0])
      refine call_intro (CloneB_ok S (hx3 _ S) rfl ?_ (by omega)) ?_
      · rintro rfl
        obtain ⟨_, _, h, _⟩ := (hx3 _ S).at (show 0 < x.length by omega)
        cases h
      rintro v h2 ⟨S2, _⟩
      (try simp (maxSteps := 1000000) (disch := first | omega | assumption | exact Nat.le_of_ble_eq_true rfl) only [go_sem, ↓mwp_block, simprocAttr])
      have hyi := hy i x h h2 v hgi hI S2.fr (S2.own.rebase S2.ownLt)
      rw [htk] at hyi
      rw [show ((endOf ((framesOf b).take i) : Int) + ((7 + x.length : Nat) : Int)) = ((endOf ((framesOf b).take i) + (7 + x.length) : Nat) : Int) by omega]
      refine yield_intro hyi ?_
      rintro _ h3 (⟨rfl, hI3⟩ | ⟨rfl, hS3⟩)
      · (try simp (maxSteps := 1000000) (disch := first | omega | assumption | exact Nat.le_of_ble_eq_true rfl) only [go_sem, ↓mwp_block, simprocAttr])
        refine hJ _ _ _ ?_ ?_
        · (try simp (maxSteps := 1000000) (disch := first | omega | assumption | exact Nat.le_of_ble_eq_true rfl) only [go_sem, ↓mwp_block, simprocAttr, e0, e1])
          exact ⟨i + 1, hil, by rw [htk], hI3⟩
        · (try simp (maxSteps := 1000000) (disch := first | omega | assumption | exact Nat.le_of_ble_eq_true rfl) only [go_sem, ↓mwp_block, simprocAttr, e3])
          omega
      · (try simp (maxSteps := 1000000) (disch := first | omega | assumption | exact Nat.le_of_ble_eq_true rfl) only [go_sem, ↓mwp_block, simprocAttr])
        exact hK _ _ (.inr hS3)
end Go.Proofs.Ytackopkhelochaa.MX
