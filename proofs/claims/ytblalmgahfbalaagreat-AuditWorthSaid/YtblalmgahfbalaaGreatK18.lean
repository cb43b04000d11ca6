/- Texts in one file: Rl1, Rm2, Rm3, Tb2, Tb3, By2. -/
import Derived.Test.YtblalmgahfbalaaGreatK17
import Derived.Test.YtblalmgahfbalaaGreatK09
import Derived.Test.YtblalmgahfbalaaGreatK11
import Derived.Test.YtblalmgahfbalaaGreatK10

/- The rule: what a share is worth. -/
namespace Go.Proofs.YtblalmgahfbalaaGreat.MX
open Go Go.Proofs
set_option linter.unusedSimpArgs false
set_option linter.unusedVariables false
set_option maxHeartbeats 4000000
def isR (n : Int) : Prop := 0 ≤ n ∧ n < 4
def Pol.feeR (p : Pol) (r : Int) : Int := if r = 0 then p.f0 else if r = 1 then p.f1 else if r = 2 then p.f2 else p.f3
def Pol.gsh (p : Pol) (g : Int) : Int := if g = 0 then p.s0 else if g = 1 then p.s1 else if g = 2 then p.s2 else p.s3
/-- What a share is worth, by a right policy, a reason and a grade. -/
def wrt (p : Pol) (sh r g : Int) : Int := sh * p.gsh g / 10000 - sh * p.gsh g / 10000 * p.feeR r / 10000
theorem isR4 {n : Int} (h : isR n) : n = 0 ∨ n = 1 ∨ n = 2 ∨ n = 3 := by obtain ⟨h1, h2⟩ := h; omega
theorem fee_pts {p : Pol} (hp : p.right) (r : Int) : okPts (p.feeR r) := by
  obtain ⟨⟨h0, h1, h2, h3⟩, _⟩ := hp
  unfold Pol.feeR
  (repeat' split) <;> assumption
theorem gsh_pts {p : Pol} (hp : p.right) (g : Int) : okPts (p.gsh g) := by
  obtain ⟨_, ⟨⟨h0, _⟩, ⟨h1, _⟩, ⟨h2, _⟩, ⟨h3, _⟩⟩, _⟩ := hp
  unfold Pol.gsh
  (repeat' split) <;> assumption
theorem part_le {a n : Int} (ha : 0 ≤ a) (hn : okPts n) : 0 ≤ a * n / 10000 ∧ a * n / 10000 ≤ a := by
  obtain ⟨h1, h2⟩ := hn
  have e1 : 0 ≤ a * n := Int.mul_nonneg ha h1
  have e2 : a * n ≤ a * 10000 := Int.mul_le_mul_of_nonneg_left h2 ha
  omega
theorem partV_in {a n : Int} (ha : 0 ≤ a) (ha2 : a ≤ 1125899906842624) (hn : okPts n) : partV a n 10000 = (a * n / 10000, 0) := by
  obtain ⟨h1, h2⟩ := hn
  rw [partV, if_neg (by omega), if_neg (by omega)]
theorem wrt_bound {p : Pol} {sh r g : Int} (hp : p.right) (h0 : 0 ≤ sh) : 0 ≤ wrt p sh r g ∧ wrt p sh r g ≤ sh := by
  have h1 := part_le h0 (gsh_pts hp g)
  have h2 := part_le h1.1 (fee_pts hp r)
  unfold wrt
  omega
theorem rright_ok (p : Pol) (h : Heap) : CallsH Tryz.prog 69 [.agg p.enc.toArray] h fun v h' => v = .bool (dcd p.right) ∧ Fr h h' [] := by
  have S := St.nil h
  (refine enterK c_rule_right (Nat.le_of_ble_eq_true rfl) fun K hK => ?_; (try simp (maxSteps := 1000000) (disch := first | omega | assumption | exact Nat.le_of_ble_eq_true rfl) only [go_sem, ↓mwp_block, simprocAttr, ir_rule_right]))
  (refine st_alloc S ?_; clear S; intro b h S; (try simp only [splice_cons, splice_nil, List.set_cons_zero, List.set_cons_succ, Nat.zero_add, Nat.reduceAdd, List.cons_append, List.nil_append] at S); ((try clear F); have F := S.all; (try simp only [all_cons, all_nil, says_cell, and_true] at F)))
  (try simp (maxSteps := 1000000) (disch := first | omega | assumption | exact Nat.le_of_ble_eq_true rfl) only [go_sem, ↓mwp_block, simprocAttr, F, Pol.enc])
  (refine st_alloc S ?_; clear S; intro g h S; (try simp only [splice_cons, splice_nil, List.set_cons_zero, List.set_cons_succ, Nat.zero_add, Nat.reduceAdd, List.cons_append, List.nil_append] at S); ((try clear F); have F := S.all; (try simp only [all_cons, all_nil, says_cell, and_true] at F)))
  have S := S.cellOwn (enc := Pol.enc) (sz := 16) (ys := [p]) Pol.enc_len rfl (by simp)
  clear F
  (try simp (maxSteps := 1000000) (disch := first | omega | assumption | exact Nat.le_of_ble_eq_true rfl) only [go_sem, ↓mwp_block, simprocAttr])
  refine call_intro (Right_ok (xs := [p]) (S.arr Pol.enc_len) rfl (by simp)) ?_
  rintro _ h' ⟨rfl, hf⟩
  (try simp (maxSteps := 1000000) (disch := first | omega | assumption | exact Nat.le_of_ble_eq_true rfl) only [go_sem, ↓mwp_block, simprocAttr])
  refine hK _ _ ⟨?_, (S.frame hf).fr⟩
  by_cases hr : p.right
  · rw [dcd_true hr, dcd_true ⟨by simp, by simpa using hr⟩]
  · rw [dcd_false hr, dcd_false fun h => hr (h.2 p (by simp))]
theorem ris_ok (n : Int) (h : Heap) : CallsH Tryz.prog 70 [.int .i64 n] h fun v h' => v = .bool (dcd (isR n)) ∧ h' = h := by
  by_cases h1 : 0 ≤ n
  · by_cases h2 : n < 4
    · (refine enterK c_rule_is (Nat.le_of_ble_eq_true rfl) fun K hK => ?_; (try simp (maxSteps := 1000000) (disch := first | omega | assumption | exact Nat.le_of_ble_eq_true rfl) only [go_sem, ↓mwp_block, simprocAttr, ir_rule_is]))
      (try simp (maxSteps := 1000000) (disch := first | omega | assumption | exact Nat.le_of_ble_eq_true rfl) only [go_sem, ↓mwp_block, simprocAttr, h1, h2])
      exact hK _ _ ⟨by rw [dcd_true ⟨h1, h2⟩], rfl⟩
    · (refine enterK c_rule_is (Nat.le_of_ble_eq_true rfl) fun K hK => ?_; (try simp (maxSteps := 1000000) (disch := first | omega | assumption | exact Nat.le_of_ble_eq_true rfl) only [go_sem, ↓mwp_block, simprocAttr, ir_rule_is]))
      (try simp (maxSteps := 1000000) (disch := first | omega | assumption | exact Nat.le_of_ble_eq_true rfl) only [go_sem, ↓mwp_block, simprocAttr, h1, h2])
      exact hK _ _ ⟨by rw [dcd_false fun h => h2 h.2], rfl⟩
  · (refine enterK c_rule_is (Nat.le_of_ble_eq_true rfl) fun K hK => ?_; (try simp (maxSteps := 1000000) (disch := first | omega | assumption | exact Nat.le_of_ble_eq_true rfl) only [go_sem, ↓mwp_block, simprocAttr, ir_rule_is]))
    (try simp (maxSteps := 1000000) (disch := first | omega | assumption | exact Nat.le_of_ble_eq_true rfl) only [go_sem, ↓mwp_block, simprocAttr, h1])
    exact hK _ _ ⟨by rw [dcd_false fun h => h1 h.1], rfl⟩
theorem Fee_ok (p : Pol) (sum r : Int) (hp : p.right) (hr : isR r) (h0 : 0 ≤ sum) (h1 : sum ≤ 1125899906842624) (h : Heap) : CallsH Tryz.prog 72 [.agg p.enc.toArray, .int .i64 sum, .int .i64 r] h fun v h' => v = .tuple #[.int .i64 (sum * p.feeR r / 10000), .int .i64 0] ∧ Fr h h' [] := by
  have hf := fee_pts hp r
  have hv := partV_in h0 h1 hf
  have S := St.nil h
  (refine enterK c_rule_Fee (Nat.le_of_ble_eq_true rfl) fun K hK => ?_; (try simp (maxSteps := 1000000) (disch := first | omega | assumption | exact Nat.le_of_ble_eq_true rfl) only [go_sem, ↓mwp_block, simprocAttr, ir_rule_Fee]))
  (refine st_alloc S ?_; clear S; intro b h S; (try simp only [splice_cons, splice_nil, List.set_cons_zero, List.set_cons_succ, Nat.zero_add, Nat.reduceAdd, List.cons_append, List.nil_append] at S); ((try clear F); have F := S.all; (try simp only [all_cons, all_nil, says_cell, and_true] at F)))
  (try simp (maxSteps := 1000000) (disch := first | omega | assumption | exact Nat.le_of_ble_eq_true rfl) only [go_sem, ↓mwp_block, simprocAttr, F, Pol.enc])
  refine call_intro (rright_ok p _) ?_
  rintro _ h ⟨rfl, f1⟩
  have S := S.frame f1
  rw [dcd_true hp]
  (try simp (maxSteps := 1000000) (disch := first | omega | assumption | exact Nat.le_of_ble_eq_true rfl) only [go_sem, ↓mwp_block, simprocAttr])
  refine call_intro (ris_ok r _) ?_
  rintro _ _ ⟨rfl, rfl⟩
  rw [dcd_true hr]
  ((try clear F); have F := S.all; (try simp only [all_cons, all_nil, says_cell, and_true] at F))
  rcases isR4 hr with rfl | rfl | rfl | rfl <;>
  · (try simp (maxSteps := 1000000) (disch := first | omega | assumption | exact Nat.le_of_ble_eq_true rfl) only [go_sem, ↓mwp_block, simprocAttr, F, Pol.enc])
    refine call_intro (Points_ok _ _ ⟨by omega, by omega⟩ ⟨?_, ?_⟩ _) ?_
    · have := hf.1; simp only [Pol.feeR] at this; simp at this; omega
    · have := hf.2; simp only [Pol.feeR] at this; simp at this; omega
    rintro _ _ ⟨rfl, rfl⟩
    simp only [Pol.feeR] at hv ⊢
    simp at hv ⊢
    rw [hv]
    (try simp (maxSteps := 1000000) (disch := first | omega | assumption | exact Nat.le_of_ble_eq_true rfl) only [go_sem, ↓mwp_block, simprocAttr])
    exact hK _ _ ⟨rfl, S.fr⟩
theorem Worth_ok (p : Pol) (sh r g : Int) (hp : p.right) (hr : isR r) (hg : isR g) (h0 : 0 ≤ sh) (h1 : sh ≤ 1125899906842624) (h : Heap) : CallsH Tryz.prog 50 [.agg p.enc.toArray, .int .i64 sh, .int .i64 r, .int .i64 g] h fun v h' => v = .tuple #[.int .i64 (wrt p sh r g), .int .i64 0] ∧ Fr h h' [] := by
  have hf := gsh_pts hp g
  have hv := partV_in h0 h1 hf
  have hl := part_le h0 hf
  have hl2 := part_le hl.1 (fee_pts hp r)
  have S := St.nil h
  (refine enterK c_rule_Worth (Nat.le_of_ble_eq_true rfl) fun K hK => ?_; (try simp (maxSteps := 1000000) (disch := first | omega | assumption | exact Nat.le_of_ble_eq_true rfl) only [go_sem, ↓mwp_block, simprocAttr, ir_rule_Worth]))
  (refine st_alloc S ?_; clear S; intro b h S; (try simp only [splice_cons, splice_nil, List.set_cons_zero, List.set_cons_succ, Nat.zero_add, Nat.reduceAdd, List.cons_append, List.nil_append] at S); ((try clear F); have F := S.all; (try simp only [all_cons, all_nil, says_cell, and_true] at F)))
  (try simp (maxSteps := 1000000) (disch := first | omega | assumption | exact Nat.le_of_ble_eq_true rfl) only [go_sem, ↓mwp_block, simprocAttr, F, Pol.enc])
  refine call_intro (rright_ok p _) ?_
  rintro _ h ⟨rfl, f1⟩
  have S := S.frame f1
  rw [dcd_true hp]
  (try simp (maxSteps := 1000000) (disch := first | omega | assumption | exact Nat.le_of_ble_eq_true rfl) only [go_sem, ↓mwp_block, simprocAttr])
  refine call_intro (ris_ok r _) ?_
  rintro _ _ ⟨rfl, rfl⟩
  rw [dcd_true hr]
  (try simp (maxSteps := 1000000) (disch := first | omega | assumption | exact Nat.le_of_ble_eq_true rfl) only [go_sem, ↓mwp_block, simprocAttr])
  refine call_intro (ris_ok g _) ?_
  rintro _ _ ⟨rfl, rfl⟩
  rw [dcd_true hg]
  have hgo : ∀ (x : Int) (h : Heap), x = p.gsh g → CallsH Tryz.prog 71 [.int .i64 sh, .int .i64 x] h fun v h' => v = .tuple #[.int .i64 (sh * p.gsh g / 10000), .int .i64 0] ∧ h' = h := fun x h e => by
    subst e
    have := Points_ok sh (p.gsh g) ⟨by omega, by omega⟩ ⟨by have := hf.1; omega, by have := hf.2; omega⟩ h
    rwa [hv] at this
  ((try clear F); have F := S.all; (try simp only [all_cons, all_nil, says_cell, and_true] at F))
  have fin : ∀ (x : Int), x = p.gsh g → callT Tryz.prog 71 [.int .i64 sh, .int .i64 x] h (fun v h' => True) ⟨⟩ ⟨⟩ → True := fun _ _ _ => trivial
  clear fin
  rcases isR4 hg with rfl | rfl | rfl | rfl <;>
  · (try simp (maxSteps := 1000000) (disch := first | omega | assumption | exact Nat.le_of_ble_eq_true rfl) only [go_sem, ↓mwp_block, simprocAttr, F, Pol.enc])
    refine call_intro (hgo _ _ (by simp [Pol.gsh])) ?_
    rintro _ _ ⟨rfl, rfl⟩
    (try simp (maxSteps := 1000000) (disch := first | omega | assumption | exact Nat.le_of_ble_eq_true rfl) only [go_sem, ↓mwp_block, simprocAttr, F, Pol.enc])
    refine call_intro (Fee_ok p _ r hp hr hl.1 (by omega) _) ?_
    rintro _ h ⟨rfl, f2⟩
    (try simp (maxSteps := 1000000) (disch := first | omega | assumption | exact Nat.le_of_ble_eq_true rfl) only [go_sem, ↓mwp_block, simprocAttr])
    exact hK _ _ ⟨rfl, (S.frame f2).fr⟩
end Go.Proofs.YtblalmgahfbalaaGreat.MX

/- Returns: what the document's return is worth: the reference's word; whether a return is right, by the program and by the document. -/
namespace Go.Proofs.YtblalmgahfbalaaGreat.MX
open Go Go.Proofs
set_option linter.unusedSimpArgs false
set_option linter.unusedVariables false
set_option maxHeartbeats 8000000
theorem RWorth_ok (p : Pol) (sh r g : Int) (hp : p.right) (hr : isR r) (hg : isR g) (h0 : 0 ≤ sh) (h1 : sh ≤ 1125899906842624) (h : Heap) : CallsH Tryz.prog 11 [.agg p.enc.toArray, .int .i64 sh, .int .i64 r, .int .i64 g] h fun v h' => v = .int .i64 (wrt p sh r g) ∧ Fr h h' [] := by
  have hf := gsh_pts hp g
  have hf2 := fee_pts hp r
  have hl := part_le h0 hf
  have hl2 := part_le hl.1 hf2
  have hgo : ∀ (a n x : Int) (h : Heap), x = n → okPts n → 0 ≤ a → a ≤ 1125899906842624 → CallsH Tryz.prog 26 [.int .i64 a, .int .i64 x, .int .i64 10000] h fun v h' => v = .tuple #[.int .i64 (a * n / 10000), .int .i64 0] ∧ h' = h := fun a n x h e hn ha hb => by
    subst e
    obtain ⟨h1, h2⟩ := hn
    obtain ⟨u, rfl⟩ := Int.eq_ofNat_of_zero_le ha
    obtain ⟨w, rfl⟩ := Int.eq_ofNat_of_zero_le h1
    have := RPart_ok u w 10000 (by omega) (by omega) (by decide) (by decide) h
    rwa [Int.natCast_ediv, Int.natCast_mul] at this
  have S := St.nil h
  (refine enterK c_recoupref05_Worth (Nat.le_of_ble_eq_true rfl) fun K hK => ?_; (try simp (maxSteps := 1000000) (disch := first | omega | assumption | exact Nat.le_of_ble_eq_true rfl) only [go_sem, ↓mwp_block, simprocAttr, ir_recoupref05_Worth]))
  (refine st_alloc S ?_; clear S; intro b h S; (try simp only [splice_cons, splice_nil, List.set_cons_zero, List.set_cons_succ, Nat.zero_add, Nat.reduceAdd, List.cons_append, List.nil_append] at S); ((try clear F); have F := S.all; (try simp only [all_cons, all_nil, says_cell, and_true] at F)))
  rcases isR4 hg with rfl | rfl | rfl | rfl <;>
  · (try simp (maxSteps := 1000000) (disch := first | omega | assumption | exact Nat.le_of_ble_eq_true rfl) only [go_sem, ↓mwp_block, simprocAttr, F, Pol.enc])
    refine call_intro (hgo sh (p.gsh _) _ _ (by simp [Pol.gsh]) hf h0 h1) ?_
    rintro _ _ ⟨rfl, rfl⟩
    rcases isR4 hr with rfl | rfl | rfl | rfl <;>
    · (try simp (maxSteps := 1000000) (disch := first | omega | assumption | exact Nat.le_of_ble_eq_true rfl) only [go_sem, ↓mwp_block, simprocAttr, F, Pol.enc])
      refine call_intro (hgo _ (p.feeR _) _ _ (by simp [Pol.feeR]) hf2 hl.1 (by omega)) ?_
      rintro _ _ ⟨rfl, rfl⟩
      (try simp (maxSteps := 1000000) (disch := first | omega | assumption | exact Nat.le_of_ble_eq_true rfl) only [go_sem, ↓mwp_block, simprocAttr])
      exact hK _ _ ⟨rfl, S.fr⟩
theorem between14_ok (n a b : Int) (h : Heap) : CallsH Tryz.prog 23 [.int .i64 n, .int .i64 a, .int .i64 b] h fun v h' => v = .bool (dcd (btw n a b)) ∧ h' = h := by
  by_cases h1 : a ≤ n
  · by_cases h2 : n ≤ b
    · (refine enterK c_recouplaw14_between (Nat.le_of_ble_eq_true rfl) fun K hK => ?_; (try simp (maxSteps := 1000000) (disch := first | omega | assumption | exact Nat.le_of_ble_eq_true rfl) only [go_sem, ↓mwp_block, simprocAttr, ir_recouplaw14_between]))
      (try simp (maxSteps := 1000000) (disch := first | omega | assumption | exact Nat.le_of_ble_eq_true rfl) only [go_sem, ↓mwp_block, simprocAttr, h1, h2])
      exact hK _ _ ⟨by rw [dcd_true ⟨h1, h2⟩], rfl⟩
    · (refine enterK c_recouplaw14_between (Nat.le_of_ble_eq_true rfl) fun K hK => ?_; (try simp (maxSteps := 1000000) (disch := first | omega | assumption | exact Nat.le_of_ble_eq_true rfl) only [go_sem, ↓mwp_block, simprocAttr, ir_recouplaw14_between]))
      (try simp (maxSteps := 1000000) (disch := first | omega | assumption | exact Nat.le_of_ble_eq_true rfl) only [go_sem, ↓mwp_block, simprocAttr, h1, h2])
      exact hK _ _ ⟨by rw [dcd_false fun h => h2 h.2], rfl⟩
  · (refine enterK c_recouplaw14_between (Nat.le_of_ble_eq_true rfl) fun K hK => ?_; (try simp (maxSteps := 1000000) (disch := first | omega | assumption | exact Nat.le_of_ble_eq_true rfl) only [go_sem, ↓mwp_block, simprocAttr, ir_recouplaw14_between]))
    (try simp (maxSteps := 1000000) (disch := first | omega | assumption | exact Nat.le_of_ble_eq_true rfl) only [go_sem, ↓mwp_block, simprocAttr, h1])
    exact hK _ _ ⟨by rw [dcd_false fun h => h1 h.1], rfl⟩
theorem cents14_ok (n : Int) (h : Heap) : CallsH Tryz.prog 24 [.int .i64 n] h fun v h' => v = .bool (dcd (okMon n)) ∧ h' = h := by
  by_cases h1 : 0 ≤ n
  · by_cases h2 : n ≤ 1125899906842624
    · (refine enterK c_recouplaw14_cents (Nat.le_of_ble_eq_true rfl) fun K hK => ?_; (try simp (maxSteps := 1000000) (disch := first | omega | assumption | exact Nat.le_of_ble_eq_true rfl) only [go_sem, ↓mwp_block, simprocAttr, ir_recouplaw14_cents]))
      (try simp (maxSteps := 1000000) (disch := first | omega | assumption | exact Nat.le_of_ble_eq_true rfl) only [go_sem, ↓mwp_block, simprocAttr, h1, h2])
      exact hK _ _ ⟨by rw [dcd_true ⟨h1, h2⟩], rfl⟩
    · (refine enterK c_recouplaw14_cents (Nat.le_of_ble_eq_true rfl) fun K hK => ?_; (try simp (maxSteps := 1000000) (disch := first | omega | assumption | exact Nat.le_of_ble_eq_true rfl) only [go_sem, ↓mwp_block, simprocAttr, ir_recouplaw14_cents]))
      (try simp (maxSteps := 1000000) (disch := first | omega | assumption | exact Nat.le_of_ble_eq_true rfl) only [go_sem, ↓mwp_block, simprocAttr, h1, h2])
      exact hK _ _ ⟨by rw [dcd_false fun h => h2 h.2], rfl⟩
  · (refine enterK c_recouplaw14_cents (Nat.le_of_ble_eq_true rfl) fun K hK => ?_; (try simp (maxSteps := 1000000) (disch := first | omega | assumption | exact Nat.le_of_ble_eq_true rfl) only [go_sem, ↓mwp_block, simprocAttr, ir_recouplaw14_cents]))
    (try simp (maxSteps := 1000000) (disch := first | omega | assumption | exact Nat.le_of_ble_eq_true rfl) only [go_sem, ↓mwp_block, simprocAttr, h1])
    exact hK _ _ ⟨by rw [dcd_false fun h => h1 h.1], rfl⟩
/-- The program's word on the sums. -/
theorem rsums_ok (x : RetV) (h : Heap) : CallsH Tryz.prog 48 [.agg x.enc.toArray] h fun v h' => v = .bool (dcd (okMon x.r.worth ∧ okMon x.r.paid ∧ okMon x.r.credd ∧ okMon x.r.given)) ∧ Fr h h' [] := by
  have S := St.nil h
  have z4 : ∀ z : Value, zerosL [z] 4 = [z, z, z, z] := fun _ => rfl
  (refine enterK c_rma_sums (Nat.le_of_ble_eq_true rfl) fun K hK => ?_; (try simp (maxSteps := 1000000) (disch := first | omega | assumption | exact Nat.le_of_ble_eq_true rfl) only [go_sem, ↓mwp_block, simprocAttr, ir_rma_sums]))
  (refine st_alloc S ?_; clear S; intro b h S; (try simp only [splice_cons, splice_nil, List.set_cons_zero, List.set_cons_succ, Nat.zero_add, Nat.reduceAdd, List.cons_append, List.nil_append] at S); ((try clear F); have F := S.all; (try simp only [all_cons, all_nil, says_cell, and_true] at F)))
  (try simp (maxSteps := 1000000) (disch := first | omega | assumption | exact Nat.le_of_ble_eq_true rfl) only [go_sem, ↓mwp_block, simprocAttr, F, RetV.enc, z4])
  (refine st_alloc S ?_; clear S; intro g h S; (try simp only [splice_cons, splice_nil, List.set_cons_zero, List.set_cons_succ, Nat.zero_add, Nat.reduceAdd, List.cons_append, List.nil_append] at S); ((try clear F); have F := S.all; (try simp only [all_cons, all_nil, says_cell, and_true] at F)))
  (try simp (maxSteps := 1000000) (disch := first | omega | assumption | exact Nat.le_of_ble_eq_true rfl) only [go_sem, ↓mwp_block, simprocAttr, F])
  by_cases a1 : x.r.worth < 0
  · (refine loop_unroll 5 ?_); (try simp (maxSteps := 1000000) (disch := first | omega | assumption | exact Nat.le_of_ble_eq_true rfl) only [go_sem, ↓mwp_block, simprocAttr, F, a1]); exact hK _ _ ⟨by rw [dcd_false fun h => by have := h.1.1; omega], S.fr⟩
  by_cases a2 : 1125899906842624 < x.r.worth
  · (refine loop_unroll 5 ?_); (try simp (maxSteps := 1000000) (disch := first | omega | assumption | exact Nat.le_of_ble_eq_true rfl) only [go_sem, ↓mwp_block, simprocAttr, F, a1, a2]); exact hK _ _ ⟨by rw [dcd_false fun h => by have := h.1.2; omega], S.fr⟩
  by_cases b1 : x.r.paid < 0
  · (refine loop_unroll 5 ?_); (try simp (maxSteps := 1000000) (disch := first | omega | assumption | exact Nat.le_of_ble_eq_true rfl) only [go_sem, ↓mwp_block, simprocAttr, F, a1, a2, b1]); exact hK _ _ ⟨by rw [dcd_false fun h => by have := h.2.1.1; omega], S.fr⟩
  by_cases b2 : 1125899906842624 < x.r.paid
  · (refine loop_unroll 5 ?_); (try simp (maxSteps := 1000000) (disch := first | omega | assumption | exact Nat.le_of_ble_eq_true rfl) only [go_sem, ↓mwp_block, simprocAttr, F, a1, a2, b1, b2]); exact hK _ _ ⟨by rw [dcd_false fun h => by have := h.2.1.2; omega], S.fr⟩
  by_cases c1 : x.r.credd < 0
  · (refine loop_unroll 5 ?_); (try simp (maxSteps := 1000000) (disch := first | omega | assumption | exact Nat.le_of_ble_eq_true rfl) only [go_sem, ↓mwp_block, simprocAttr, F, a1, a2, b1, b2, c1]); exact hK _ _ ⟨by rw [dcd_false fun h => by have := h.2.2.1.1; omega], S.fr⟩
  by_cases c2 : 1125899906842624 < x.r.credd
  · (refine loop_unroll 5 ?_); (try simp (maxSteps := 1000000) (disch := first | omega | assumption | exact Nat.le_of_ble_eq_true rfl) only [go_sem, ↓mwp_block, simprocAttr, F, a1, a2, b1, b2, c1, c2]); exact hK _ _ ⟨by rw [dcd_false fun h => by have := h.2.2.1.2; omega], S.fr⟩
  by_cases d1 : x.r.given < 0
  · (refine loop_unroll 5 ?_); (try simp (maxSteps := 1000000) (disch := first | omega | assumption | exact Nat.le_of_ble_eq_true rfl) only [go_sem, ↓mwp_block, simprocAttr, F, a1, a2, b1, b2, c1, c2, d1]); exact hK _ _ ⟨by rw [dcd_false fun h => by have := h.2.2.2.1; omega], S.fr⟩
  by_cases d2 : 1125899906842624 < x.r.given
  · (refine loop_unroll 5 ?_); (try simp (maxSteps := 1000000) (disch := first | omega | assumption | exact Nat.le_of_ble_eq_true rfl) only [go_sem, ↓mwp_block, simprocAttr, F, a1, a2, b1, b2, c1, c2, d1, d2]); exact hK _ _ ⟨by rw [dcd_false fun h => by have := h.2.2.2.2; omega], S.fr⟩
  (refine loop_unroll 5 ?_); (try simp (maxSteps := 1000000) (disch := first | omega | assumption | exact Nat.le_of_ble_eq_true rfl) only [go_sem, ↓mwp_block, simprocAttr, F, a1, a2, b1, b2, c1, c2, d1, d2])
  exact hK _ _ ⟨by rw [dcd_true ⟨⟨by omega, by omega⟩, ⟨by omega, by omega⟩, ⟨by omega, by omega⟩, by omega, by omega⟩], S.fr⟩
end Go.Proofs.YtblalmgahfbalaaGreat.MX

/- Returns: whether a return is right, by the program and by the document. -/
namespace Go.Proofs.YtblalmgahfbalaaGreat.MX
open Go Go.Proofs
set_option linter.unusedSimpArgs false
set_option linter.unusedVariables false
set_option maxHeartbeats 8000000
theorem runits_ok {h0 : Heap} (x : RetV) (ha : Arr zEnc 1 h0 x.A x.r.us) (hb : Arr zEnc 1 h0 x.B x.r.gs) (l1 : x.r.us.length < 1000000) (l2 : x.r.gs.length < 1000000) :
    CallsH Tryz.prog 47 [.agg x.enc.toArray] h0 fun v h' => v = .bool (dcd (okUnits x.r.us x.r.gs)) ∧ Fr h0 h' [] := by
  have S := St.nil h0
  have ha' : ∀ {h' : Heap} {l : List HP}, St h0 h' l → Arr zEnc 1 h' x.A x.r.us := fun S => ha.fr S.fr (by simp)
  have hb' : ∀ {h' : Heap} {l : List HP}, St h0 h' l → Arr zEnc 1 h' x.B x.r.gs := fun S => hb.fr S.fr (by simp)
  (refine enterK c_rma_units (Nat.le_of_ble_eq_true rfl) fun K hK => ?_; (try simp (maxSteps := 1000000) (disch := first | omega | assumption | exact Nat.le_of_ble_eq_true rfl) only [go_sem, ↓mwp_block, simprocAttr, ir_rma_units]))
  (refine st_alloc S ?_; clear S; intro b h S; (try simp only [splice_cons, splice_nil, List.set_cons_zero, List.set_cons_succ, Nat.zero_add, Nat.reduceAdd, List.cons_append, List.nil_append] at S); ((try clear F); have F := S.all; (try simp only [all_cons, all_nil, says_cell, and_true] at F)))
  (try simp (maxSteps := 1000000) (disch := first | omega | assumption | exact Nat.le_of_ble_eq_true rfl) only [go_sem, ↓mwp_block, simprocAttr, F, RetV.enc])
  refine call_intro (between_ok _ _ _ _) ?_
  rintro _ _ ⟨rfl, rfl⟩
  by_cases n1 : btw x.r.us.length 1 200
  case neg =>
    rw [dcd_false n1]
    (try simp (maxSteps := 1000000) (disch := first | omega | assumption | exact Nat.le_of_ble_eq_true rfl) only [go_sem, ↓mwp_block, simprocAttr])
    exact hK _ _ ⟨by rw [dcd_false fun h => n1 h.1], S.fr⟩
  rw [dcd_true n1]
  by_cases n2 : (x.r.gs.length : Int) = x.r.us.length
  case neg =>
    (try simp (maxSteps := 1000000) (disch := first | omega | assumption | exact Nat.le_of_ble_eq_true rfl) only [go_sem, ↓mwp_block, simprocAttr, F, RetV.enc, n2])
    exact hK _ _ ⟨by rw [dcd_false fun h => by have := h.2.1; omega], S.fr⟩
  (try simp (maxSteps := 1000000) (disch := first | omega | assumption | exact Nat.le_of_ble_eq_true rfl) only [go_sem, ↓mwp_block, simprocAttr, F, RetV.enc, n2])
  refine loop_intro (fun ρ h' => ρ 1 = .pointer (some ⟨b, 0, none⟩) ∧ ρ 20 = .slice x.A x.r.us.length x.c ∧ ρ 21 = .int .i64 x.r.us.length ∧ ∃ i : Nat, ρ 22 = .int .i64 i ∧ i ≤ x.r.us.length ∧ (∀ k, k < i → unitOk x.r.us x.r.gs k) ∧ St h0 h' [cellA b x.enc 35]) (fun ρ _ => x.r.us.length - (iv (ρ 22)).toNat) ?_ ?_
  · (try simp (maxSteps := 1000000) (disch := first | omega | assumption | exact Nat.le_of_ble_eq_true rfl) only [go_sem, ↓mwp_block, simprocAttr])
    exact ⟨0, rfl, by omega, fun k hk => absurd hk (by omega), S⟩
  clear S F
  rintro ρ h J hJ ⟨e1, e20, e21, i, e22, hi, hok, S⟩
  (try simp (maxSteps := 1000000) (disch := first | omega | assumption | exact Nat.le_of_ble_eq_true rfl) only [go_sem, ↓mwp_block, simprocAttr, e21, e22])
  refine cond_dec (fun hlt => ?_) (fun hlt => ?_)
  · have hil : i < x.r.us.length := by omega
    obtain ⟨b1, o1, hA1, q1⟩ := (ha' S).at hil
    obtain ⟨b2, o2, hA2, q2⟩ := (hb' S).at (i := i) (by omega)
    have q1 := rd1_part0 q1 (by omega)
    have q2 := rd1_part0 q2 (by omega)
    simp only [zEnc, List.getElem?_cons_zero, Nat.mul_one] at q1 q2
    rw [← getD_at] at q1 q2
    have hbad : ¬ unitOk x.r.us x.r.gs i → ¬ okUnits x.r.us x.r.gs := fun hn h => hn (h.2.2 i hil)
    have hgo := fun hx => unitOk_snoc hok (i := i) hx
    have hU : unitOk x.r.us x.r.gs i ↔ (btw (x.r.us.getD i 0) 0 199 ∧ (0 < i → x.r.us.getD (i - 1) 0 < x.r.us.getD i 0) ∧ btw (x.r.gs.getD i 0) (-1) 4) := Iff.rfl
    ((try clear F); have F := S.all; (try simp only [all_cons, all_nil, says_cell, and_true] at F))
    (try simp (maxSteps := 1000000) (disch := first | omega | assumption | exact Nat.le_of_ble_eq_true rfl) only [go_sem, ↓mwp_block, simprocAttr, e20, e22, hA1, q1, Nat.mul_one])
    refine call_intro (between_ok _ _ _ _) ?_
    rintro _ _ ⟨rfl, rfl⟩
    by_cases c1 : btw (x.r.us.getD i 0) 0 199
    case neg =>
      rw [dcd_false c1]
      (try simp (maxSteps := 1000000) (disch := first | omega | assumption | exact Nat.le_of_ble_eq_true rfl) only [go_sem, ↓mwp_block, simprocAttr])
      exact hK _ _ ⟨by rw [dcd_false (hbad fun h => c1 (hU.1 h).1)], S.fr⟩
    rw [dcd_true c1]
    by_cases c2 : 0 < i
    · obtain ⟨j, rfl⟩ : ∃ j, i = j + 1 := ⟨i - 1, by omega⟩
      obtain ⟨b3, o3, hA3, q3⟩ := (ha' S).at (i := j) (by omega)
      rw [hA1] at hA3
      cases hA3
      have q3 := rd1_part0 q3 (by omega)
      simp only [zEnc, List.getElem?_cons_zero, Nat.mul_one] at q3
      rw [← getD_at] at q3
      have hj1 : ((j + 1 : Nat) : Int) - 1 = (j : Int) := by omega
      have hj0 : (0 : Int) < ((j + 1 : Nat) : Int) := by omega
      rw [Nat.add_sub_cancel] at hU
      by_cases c3 : x.r.us.getD (j + 1) 0 ≤ x.r.us.getD j 0
      · (try simp (maxSteps := 1000000) (disch := first | omega | assumption | exact Nat.le_of_ble_eq_true rfl) only [go_sem, ↓mwp_block, simprocAttr, e1, F, RetV.enc, hA1, hj0, hj1, q3, c3, Nat.mul_one])
        exact hK _ _ ⟨by rw [dcd_false (hbad fun h => by have := (hU.1 h).2.1 (by omega); omega)], S.fr⟩
      (try simp (maxSteps := 1000000) (disch := first | omega | assumption | exact Nat.le_of_ble_eq_true rfl) only [go_sem, ↓mwp_block, simprocAttr, e1, F, RetV.enc, hA1, hA2, hj0, hj1, q2, q3, c3, Nat.mul_one])
      refine call_intro (between_ok _ _ _ _) ?_
      rintro _ _ ⟨rfl, rfl⟩
      by_cases c4 : btw (x.r.gs.getD (j + 1) 0) (-1) 4
      case neg =>
        rw [dcd_false c4]
        (try simp (maxSteps := 1000000) (disch := first | omega | assumption | exact Nat.le_of_ble_eq_true rfl) only [go_sem, ↓mwp_block, simprocAttr])
        exact hK _ _ ⟨by rw [dcd_false (hbad fun h => c4 (hU.1 h).2.2)], S.fr⟩
      rw [dcd_true c4]
      (try simp (maxSteps := 1000000) (disch := first | omega | assumption | exact Nat.le_of_ble_eq_true rfl) only [go_sem, ↓mwp_block, simprocAttr, e22])
      refine hJ _ _ ?_ ?_
      · (try simp (maxSteps := 1000000) (disch := first | omega | assumption | exact Nat.le_of_ble_eq_true rfl) only [go_sem, ↓mwp_block, simprocAttr, e1, e20, e21, hA1])
        exact ⟨j + 1 + 1, rfl, by omega, hgo (hU.2 ⟨c1, fun _ => by omega, c4⟩), S⟩
      · (try simp (maxSteps := 1000000) (disch := first | omega | assumption | exact Nat.le_of_ble_eq_true rfl) only [go_sem, ↓mwp_block, simprocAttr, e22])
        omega
    · obtain rfl : i = 0 := by omega
      rw [Nat.add_zero] at q1 q2
      (try simp (maxSteps := 1000000) (disch := first | omega | assumption | exact Nat.le_of_ble_eq_true rfl) only [go_sem, ↓mwp_block, simprocAttr, e1, F, RetV.enc, hA2, q2, Nat.mul_one])
      refine call_intro (between_ok _ _ _ _) ?_
      rintro _ _ ⟨rfl, rfl⟩
      by_cases c4 : btw (x.r.gs.getD 0 0) (-1) 4
      case neg =>
        rw [dcd_false c4]
        (try simp (maxSteps := 1000000) (disch := first | omega | assumption | exact Nat.le_of_ble_eq_true rfl) only [go_sem, ↓mwp_block, simprocAttr])
        exact hK _ _ ⟨by rw [dcd_false (hbad fun h => c4 (hU.1 h).2.2)], S.fr⟩
      rw [dcd_true c4]
      (try simp (maxSteps := 1000000) (disch := first | omega | assumption | exact Nat.le_of_ble_eq_true rfl) only [go_sem, ↓mwp_block, simprocAttr, e22])
      refine hJ _ _ ?_ ?_
      · (try simp (maxSteps := 1000000) (disch := first | omega | assumption | exact Nat.le_of_ble_eq_true rfl) only [go_sem, ↓mwp_block, simprocAttr, e1, e20, e21, hA1])
        exact ⟨1, rfl, by omega, hgo (hU.2 ⟨c1, fun h => absurd h (by omega), c4⟩), S⟩
      · (try simp (maxSteps := 1000000) (disch := first | omega | assumption | exact Nat.le_of_ble_eq_true rfl) only [go_sem, ↓mwp_block, simprocAttr, e22])
        omega
  obtain rfl : i = x.r.us.length := by omega
  (try simp (maxSteps := 1000000) (disch := first | omega | assumption | exact Nat.le_of_ble_eq_true rfl) only [go_sem, ↓mwp_block, simprocAttr])
  exact hK _ _ ⟨by rw [dcd_true ⟨n1, by omega, hok⟩], S.fr⟩
theorem RmaRight_ok {h0 : Heap} (x : RetV) (ha : Arr zEnc 1 h0 x.A x.r.us) (hb : Arr zEnc 1 h0 x.B x.r.gs) (l1 : x.r.us.length < 1000000) (l2 : x.r.gs.length < 1000000) :
    CallsH Tryz.prog 19 [.agg x.enc.toArray] h0 fun v h' => v = .bool (dcd x.r.right) ∧ Fr h0 h' [] := by
  have S := St.nil h0
  (refine enterK c_rma_Right (Nat.le_of_ble_eq_true rfl) fun K hK => ?_; (try simp (maxSteps := 1000000) (disch := first | omega | assumption | exact Nat.le_of_ble_eq_true rfl) only [go_sem, ↓mwp_block, simprocAttr, ir_rma_Right]))
  (refine st_alloc S ?_; clear S; intro b h S; (try simp only [splice_cons, splice_nil, List.set_cons_zero, List.set_cons_succ, Nat.zero_add, Nat.reduceAdd, List.cons_append, List.nil_append] at S); ((try clear F); have F := S.all; (try simp only [all_cons, all_nil, says_cell, and_true] at F)))
  (try simp (maxSteps := 1000000) (disch := first | omega | assumption | exact Nat.le_of_ble_eq_true rfl) only [go_sem, ↓mwp_block, simprocAttr, F, RetV.enc])
  refine call_intro (between_ok _ _ _ _) ?_
  rintro _ _ ⟨rfl, rfl⟩
  by_cases p0 : btw x.r.num 1 100
  case neg =>
    rw [dcd_false p0]
    (try simp (maxSteps := 1000000) (disch := first | omega | assumption | exact Nat.le_of_ble_eq_true rfl) only [go_sem, ↓mwp_block, simprocAttr, F, RetV.enc])
    exact hK _ _ ⟨by rw [dcd_false fun h => p0 h.1], S.fr⟩
  rw [dcd_true p0]
  (try simp (maxSteps := 1000000) (disch := first | omega | assumption | exact Nat.le_of_ble_eq_true rfl) only [go_sem, ↓mwp_block, simprocAttr, F, RetV.enc])
  refine call_intro (between_ok _ _ _ _) ?_
  rintro _ _ ⟨rfl, rfl⟩
  by_cases p1 : btw x.r.ord 0 19
  case neg =>
    rw [dcd_false p1]
    (try simp (maxSteps := 1000000) (disch := first | omega | assumption | exact Nat.le_of_ble_eq_true rfl) only [go_sem, ↓mwp_block, simprocAttr, F, RetV.enc])
    exact hK _ _ ⟨by rw [dcd_false fun h => p1 h.2.1], S.fr⟩
  rw [dcd_true p1]
  (try simp (maxSteps := 1000000) (disch := first | omega | assumption | exact Nat.le_of_ble_eq_true rfl) only [go_sem, ↓mwp_block, simprocAttr, F, RetV.enc])
  refine call_intro (between_ok _ _ _ _) ?_
  rintro _ _ ⟨rfl, rfl⟩
  by_cases p2 : btw x.r.rea 0 3
  case neg =>
    rw [dcd_false p2]
    (try simp (maxSteps := 1000000) (disch := first | omega | assumption | exact Nat.le_of_ble_eq_true rfl) only [go_sem, ↓mwp_block, simprocAttr, F, RetV.enc])
    exact hK _ _ ⟨by rw [dcd_false fun h => p2 h.2.2.1], S.fr⟩
  rw [dcd_true p2]
  (try simp (maxSteps := 1000000) (disch := first | omega | assumption | exact Nat.le_of_ble_eq_true rfl) only [go_sem, ↓mwp_block, simprocAttr, F, RetV.enc])
  refine call_intro (between_ok _ _ _ _) ?_
  rintro _ _ ⟨rfl, rfl⟩
  by_cases p3 : btw x.r.want 0 1000
  case neg =>
    rw [dcd_false p3]
    (try simp (maxSteps := 1000000) (disch := first | omega | assumption | exact Nat.le_of_ble_eq_true rfl) only [go_sem, ↓mwp_block, simprocAttr, F, RetV.enc])
    exact hK _ _ ⟨by rw [dcd_false fun h => p3 h.2.2.2.1], S.fr⟩
  rw [dcd_true p3]
  (try simp (maxSteps := 1000000) (disch := first | omega | assumption | exact Nat.le_of_ble_eq_true rfl) only [go_sem, ↓mwp_block, simprocAttr, F, RetV.enc])
  refine call_intro (between_ok _ _ _ _) ?_
  rintro _ _ ⟨rfl, rfl⟩
  by_cases p4 : btw x.r.res (-1) 199
  case neg =>
    rw [dcd_false p4]
    (try simp (maxSteps := 1000000) (disch := first | omega | assumption | exact Nat.le_of_ble_eq_true rfl) only [go_sem, ↓mwp_block, simprocAttr, F, RetV.enc])
    exact hK _ _ ⟨by rw [dcd_false fun h => p4 h.2.2.2.2.1], S.fr⟩
  rw [dcd_true p4]
  (try simp (maxSteps := 1000000) (disch := first | omega | assumption | exact Nat.le_of_ble_eq_true rfl) only [go_sem, ↓mwp_block, simprocAttr, F, RetV.enc])
  refine call_intro (between_ok _ _ _ _) ?_
  rintro _ _ ⟨rfl, rfl⟩
  by_cases p5 : btw x.r.state 1 9
  case neg =>
    rw [dcd_false p5]
    (try simp (maxSteps := 1000000) (disch := first | omega | assumption | exact Nat.le_of_ble_eq_true rfl) only [go_sem, ↓mwp_block, simprocAttr, F, RetV.enc])
    exact hK _ _ ⟨by rw [dcd_false fun h => p5 h.2.2.2.2.2.1], S.fr⟩
  rw [dcd_true p5]
  (try simp (maxSteps := 1000000) (disch := first | omega | assumption | exact Nat.le_of_ble_eq_true rfl) only [go_sem, ↓mwp_block, simprocAttr, F, RetV.enc])
  refine call_intro (between_ok _ _ _ _) ?_
  rintro _ _ ⟨rfl, rfl⟩
  by_cases p6 : btw x.r.day 0 100000
  case neg =>
    rw [dcd_false p6]
    (try simp (maxSteps := 1000000) (disch := first | omega | assumption | exact Nat.le_of_ble_eq_true rfl) only [go_sem, ↓mwp_block, simprocAttr, F, RetV.enc])
    exact hK _ _ ⟨by rw [dcd_false fun h => p6 h.2.2.2.2.2.2.1], S.fr⟩
  rw [dcd_true p6]
  (try simp (maxSteps := 1000000) (disch := first | omega | assumption | exact Nat.le_of_ble_eq_true rfl) only [go_sem, ↓mwp_block, simprocAttr, F, RetV.enc])
  rw [show [Value.int .i64 x.r.num, .int .i64 x.r.ord, .int .i64 x.r.rea, .int .i64 x.r.want, .int .i64 x.r.res, .bool x.r.cred, .int .i64 x.r.state, .int .i64 x.r.day, .slice x.A x.r.us.length x.c, .slice x.B x.r.gs.length x.d, .int .i64 x.r.worth, .int .i64 x.r.paid, .int .i64 x.r.credd, .int .i64 x.r.given] = x.enc from rfl]
  refine call_intro (runits_ok x (ha.fr S.fr (by simp)) (hb.fr S.fr (by simp)) l1 l2) ?_
  rintro _ h ⟨rfl, f1⟩
  have S := S.frame f1
  by_cases p7 : okUnits x.r.us x.r.gs
  case neg =>
    rw [dcd_false p7]
    (try simp (maxSteps := 1000000) (disch := first | omega | assumption | exact Nat.le_of_ble_eq_true rfl) only [go_sem, ↓mwp_block, simprocAttr])
    exact hK _ _ ⟨by rw [dcd_false fun h => p7 h.2.2.2.2.2.2.2.1], S.fr⟩
  rw [dcd_true p7]
  ((try clear F); have F := S.all; (try simp only [all_cons, all_nil, says_cell, and_true] at F))
  (try simp (maxSteps := 1000000) (disch := first | omega | assumption | exact Nat.le_of_ble_eq_true rfl) only [go_sem, ↓mwp_block, simprocAttr, F, RetV.enc])
  rw [show [Value.int .i64 x.r.num, .int .i64 x.r.ord, .int .i64 x.r.rea, .int .i64 x.r.want, .int .i64 x.r.res, .bool x.r.cred, .int .i64 x.r.state, .int .i64 x.r.day, .slice x.A x.r.us.length x.c, .slice x.B x.r.gs.length x.d, .int .i64 x.r.worth, .int .i64 x.r.paid, .int .i64 x.r.credd, .int .i64 x.r.given] = x.enc from rfl]
  refine call_intro (rsums_ok x _) ?_
  rintro _ h ⟨rfl, f1⟩
  have S := S.frame f1
  (try simp (maxSteps := 1000000) (disch := first | omega | assumption | exact Nat.le_of_ble_eq_true rfl) only [go_sem, ↓mwp_block, simprocAttr])
  refine hK _ _ ⟨?_, S.fr⟩
  by_cases p8 : okMon x.r.worth ∧ okMon x.r.paid ∧ okMon x.r.credd ∧ okMon x.r.given
  · rw [dcd_true p8, dcd_true ⟨p0, p1, p2, p3, p4, p5, p6, p7, p8⟩]
  · rw [dcd_false p8, dcd_false fun h => p8 h.2.2.2.2.2.2.2.2]
end Go.Proofs.YtblalmgahfbalaaGreat.MX

/- A table's bytes, as the program writes them. -/
namespace Go.Proofs.YtblalmgahfbalaaGreat.MX
open Go Go.Proofs
set_option linter.unusedSimpArgs false
set_option linter.unusedVariables false

def flagsOf (p : Pol) : Int := (if p.fin then 1 else 0) + (if p.exc then 2 else 0) + (if p.cre then 4 else 0)
def Pol.bytes (p : Pol) : List UInt8 := le 2 p.w ++ (le 1 (flagsOf p) ++ (le 2 p.f0 ++ (le 2 p.f1 ++ (le 2 p.f2 ++ (le 2 p.f3 ++ (le 2 p.s0 ++ (le 1 p.t0 ++ (le 2 p.s1 ++ (le 1 p.t1 ++ (le 2 p.s2 ++ (le 1 p.t2 ++ (le 2 p.s3 ++ le 1 p.t3))))))))))))
def encT (l : List Pol) : List UInt8 := le 2 l.length ++ l.flatMap Pol.bytes
end Go.Proofs.YtblalmgahfbalaaGreat.MX

/- The table's laws: awake, TableOf. -/
namespace Go.Proofs.YtblalmgahfbalaaGreat.MX
open Go Go.Proofs
set_option linter.unusedSimpArgs false
set_option linter.unusedVariables false

def Pol.ok (p : Pol) : Prop := I64 p.w ∧ I64 p.f0 ∧ I64 p.f1 ∧ I64 p.f2 ∧ I64 p.f3 ∧ I64 p.s0 ∧ I64 p.t0 ∧ I64 p.s1 ∧ I64 p.t1 ∧ I64 p.s2 ∧ I64 p.t2 ∧ I64 p.s3 ∧ I64 p.t3
theorem pol_of {h : Heap} {d : Nat} {cs : List Value} (hg : Good Tryz.prog h d 48 cs) : ∃ x : Pol, cs = x.enc ∧ x.ok := by
  have hl : leaves Tryz.prog 4 48 = some [.int .i64, .bool, .bool, .bool, .int .i64, .int .i64, .int .i64, .int .i64, .int .i64, .int .i64, .int .i64, .int .i64, .int .i64, .int .i64, .int .i64, .int .i64] := by kernel_rfl
  obtain ⟨a0, _, rfl, w0, b1, _, rfl, b2, _, rfl, b3, _, rfl, a4, _, rfl, w4, a5, _, rfl, w5, a6, _, rfl, w6, a7, _, rfl, w7, a8, _, rfl, w8, a9, _, rfl, w9, a10, _, rfl, w10, a11, _, rfl, w11, a12, _, rfl, w12, a13, _, rfl, w13, a14, _, rfl, w14, a15, _, rfl, w15, rfl⟩ := leaves_of 4 hg hl
  exact ⟨⟨a0, b1, b2, b3, a4, a5, a6, a7, a8, a9, a10, a11, a12, a13, a14, a15⟩, rfl, wf_i64 w0, wf_i64 w4, wf_i64 w5, wf_i64 w6, wf_i64 w7, wf_i64 w8, wf_i64 w9, wf_i64 w10, wf_i64 w11, wf_i64 w12, wf_i64 w13, wf_i64 w14, wf_i64 w15⟩

theorem Of_ok {h0 h : Heap} {l : List HP} {A : Option Addr} {c : Nat} {xs : List Pol} (S : St h0 h l) (ha : ∀ h', St h0 h' l → Arr Pol.enc 16 h' A xs) (k : Int) :
    CallsH Tryz.prog 49 [.slice A xs.length c, .int .i64 k] h fun v h' => St h0 h' l ∧ ((∃ i : Nat, ∃ hi : i < xs.length, k = i ∧ v = .tuple #[.agg xs[i].enc.toArray, .int .i64 0]) ∨ ((k < 0 ∨ xs.length ≤ k) ∧ v = .tuple #[.agg Pol.zero.enc.toArray, .int .i64 10])) := by
  by_cases hk : k < 0
  · (refine enterK c_table_Of (Nat.le_of_ble_eq_true rfl) fun K hK => ?_; (try simp (maxSteps := 1000000) (disch := first | omega | assumption | exact Nat.le_of_ble_eq_true rfl) only [go_sem, ↓mwp_block, simprocAttr, ir_table_Of]))
    (refine st_alloc S ?_; clear S; intro b h S; (try simp only [splice_cons, splice_nil, List.set_cons_zero, List.set_cons_succ, Nat.zero_add, Nat.reduceAdd, List.cons_append, List.nil_append] at S); ((try clear F); have F := S.all; (try simp only [all_cons, all_nil, says_cell, and_true] at F)))
    (try simp (maxSteps := 1000000) (disch := first | omega | assumption | exact Nat.le_of_ble_eq_true rfl) only [go_sem, ↓mwp_block, simprocAttr, F])
    (refine st_store (by first | exact S | exact S.p1 | exact S.p2 | exact S.p3 | exact S.p4 | exact S.p5 | exact S.p6 | exact S.p7 | exact S.p8 | exact S.p9 | exact S.p10 | exact S.p11) (by rfl) (by rfl) (Nat.le_of_ble_eq_true rfl) ?_; clear S; intro h S; (try simp only [splice_cons, splice_nil, List.set_cons_zero, List.set_cons_succ, Nat.zero_add, Nat.reduceAdd, List.cons_append, List.nil_append] at S); ((try clear F); have F := S.all; (try simp only [all_cons, all_nil, says_cell, and_true] at F)))
    (try simp (maxSteps := 1000000) (disch := first | omega | assumption | exact Nat.le_of_ble_eq_true rfl) only [go_sem, ↓mwp_block, simprocAttr, F])
    exact hK _ _ ⟨S.tl, .inr ⟨.inl hk, rfl⟩⟩
  · by_cases hk2 : (xs.length : Int) ≤ k
    · (refine enterK c_table_Of (Nat.le_of_ble_eq_true rfl) fun K hK => ?_; (try simp (maxSteps := 1000000) (disch := first | omega | assumption | exact Nat.le_of_ble_eq_true rfl) only [go_sem, ↓mwp_block, simprocAttr, ir_table_Of]))
      (refine st_alloc S ?_; clear S; intro b h S; (try simp only [splice_cons, splice_nil, List.set_cons_zero, List.set_cons_succ, Nat.zero_add, Nat.reduceAdd, List.cons_append, List.nil_append] at S); ((try clear F); have F := S.all; (try simp only [all_cons, all_nil, says_cell, and_true] at F)))
      (try simp (maxSteps := 1000000) (disch := first | omega | assumption | exact Nat.le_of_ble_eq_true rfl) only [go_sem, ↓mwp_block, simprocAttr, F])
      (refine st_store (by first | exact S | exact S.p1 | exact S.p2 | exact S.p3 | exact S.p4 | exact S.p5 | exact S.p6 | exact S.p7 | exact S.p8 | exact S.p9 | exact S.p10 | exact S.p11) (by rfl) (by rfl) (Nat.le_of_ble_eq_true rfl) ?_; clear S; intro h S; (try simp only [splice_cons, splice_nil, List.set_cons_zero, List.set_cons_succ, Nat.zero_add, Nat.reduceAdd, List.cons_append, List.nil_append] at S); ((try clear F); have F := S.all; (try simp only [all_cons, all_nil, says_cell, and_true] at F)))
      (try simp (maxSteps := 1000000) (disch := first | omega | assumption | exact Nat.le_of_ble_eq_true rfl) only [go_sem, ↓mwp_block, simprocAttr, F])
      exact hK _ _ ⟨S.tl, .inr ⟨.inr hk2, rfl⟩⟩
    · obtain ⟨i, rfl⟩ := Int.eq_ofNat_of_zero_le (show 0 ≤ k by omega)
      have hi : i < xs.length := by omega
      obtain ⟨b, off, rfl, hr1⟩ := (ha _ S).at hi
      (refine enterK c_table_Of (Nat.le_of_ble_eq_true rfl) fun K hK => ?_; (try simp (maxSteps := 1000000) (disch := first | omega | assumption | exact Nat.le_of_ble_eq_true rfl) only [go_sem, ↓mwp_block, simprocAttr, ir_table_Of]))
      (refine st_alloc S ?_; clear S; intro g h S; (try simp only [splice_cons, splice_nil, List.set_cons_zero, List.set_cons_succ, Nat.zero_add, Nat.reduceAdd, List.cons_append, List.nil_append] at S); ((try clear F); have F := S.all; (try simp only [all_cons, all_nil, says_cell, and_true] at F)))
      obtain ⟨b', off', hA, hr2⟩ := (ha _ S.tl).at hi
      cases hA
      (try simp (maxSteps := 1000000) (disch := first | omega | assumption | exact Nat.le_of_ble_eq_true rfl) only [go_sem, ↓mwp_block, simprocAttr, F, hr2, Pol.enc])
      (refine st_store (by first | exact S | exact S.p1 | exact S.p2 | exact S.p3 | exact S.p4 | exact S.p5 | exact S.p6 | exact S.p7 | exact S.p8 | exact S.p9 | exact S.p10 | exact S.p11) (by rfl) (by rfl) (Nat.le_of_ble_eq_true rfl) ?_; clear S; intro h S; (try simp only [splice_cons, splice_nil, List.set_cons_zero, List.set_cons_succ, Nat.zero_add, Nat.reduceAdd, List.cons_append, List.nil_append] at S); ((try clear F); have F := S.all; (try simp only [all_cons, all_nil, says_cell, and_true] at F)))
      (try simp (maxSteps := 1000000) (disch := first | omega | assumption | exact Nat.le_of_ble_eq_true rfl) only [go_sem, ↓mwp_block, simprocAttr, F])
      exact hK _ _ ⟨S.tl, .inl ⟨i, hi, rfl, rfl⟩⟩

end Go.Proofs.YtblalmgahfbalaaGreat.MX

/- The reference's numbers as bytes; lists of bytes compared. -/
namespace Go.Proofs.YtblalmgahfbalaaGreat.MX
open Go Go.Proofs
set_option linter.unusedSimpArgs false
set_option linter.unusedVariables false

end Go.Proofs.YtblalmgahfbalaaGreat.MX
