/- Texts in one file: Od12. -/
import Derived.Test.YtblalmgahfbalaaK24

/- Orders: which are alike. -/
namespace Go.Proofs.Ytblalmgahfbalaa.MX
open Go Go.Proofs
set_option linter.unusedSimpArgs false
set_option linter.unusedVariables false
set_option maxHeartbeats 8000000
theorem dcd_and (p q : Prop) : (dcd p && dcd q) = dcd (p ∧ q) := by
  by_cases hp : p
  · by_cases hq : q
    · rw [dcd_true hp, dcd_true hq, dcd_true ⟨hp, hq⟩]; rfl
    · rw [dcd_true hp, dcd_false hq, dcd_false (p := p ∧ q) (fun h => hq h.2)]; rfl
  · rw [dcd_false hp, dcd_false (p := p ∧ q) (fun h => hp h.1)]; rfl
theorem beq_dcd (a b : Bool) : (a == b) = dcd (a = b) := by
  by_cases h : a = b
  · rw [dcd_true h]; subst h; simp
  · rw [dcd_false h]; simpa using h
theorem eqLinK (x y : Lin) : eqK [.i, .i, .i, .i] x.enc y.enc = some (dcd (x = y)) := by
  obtain ⟨a0, a1, a2, a3⟩ := x
  obtain ⟨b0, b1, b2, b3⟩ := y
  simp only [Lin.enc, eqK_i, eqK_b, eqK_nil, bindV_some, beq_dcd, Bool.and_true, dcd_and]
  exact congrArg (fun p => some (dcd p)) (propext (by simp only [Lin.mk.injEq]))
theorem eqSupK (x y : Sup) : eqK [.i, .i, .i] x.enc y.enc = some (dcd (x = y)) := by
  obtain ⟨a0, a1, a2⟩ := x
  obtain ⟨b0, b1, b2⟩ := y
  simp only [Sup.enc, eqK_i, eqK_b, eqK_nil, bindV_some, beq_dcd, Bool.and_true, dcd_and]
  exact congrArg (fun p => some (dcd p)) (propext (by simp only [Sup.mk.injEq]))
theorem eqPolK (x y : Pol) : eqK [.i, .b, .b, .b, .i, .i, .i, .i, .i, .i, .i, .i, .i, .i, .i, .i] x.enc y.enc = some (dcd (x = y)) := by
  obtain ⟨a0, a1, a2, a3, a4, a5, a6, a7, a8, a9, a10, a11, a12, a13, a14, a15⟩ := x
  obtain ⟨b0, b1, b2, b3, b4, b5, b6, b7, b8, b9, b10, b11, b12, b13, b14, b15⟩ := y
  simp only [Pol.enc, eqK_i, eqK_b, eqK_nil, bindV_some, beq_dcd, Bool.and_true, dcd_and]
  exact congrArg (fun p => some (dcd p)) (propext (by simp only [Pol.mk.injEq]))
theorem EqL_ok {h : Heap} {A B : Option Addr} {c d : Nat} {xs ys : List Lin} (ha : Arr Lin.enc 4 h A xs) (hb : Arr Lin.enc 4 h B ys) (hl : xs.length < 1000000000) :
    CallsH Try.prog 34 [.slice A xs.length c, .slice B ys.length d] h fun v h' => v = .bool (dcd (xs = ys)) ∧ h' = h := by
  by_cases hle : xs.length = ys.length
  case neg =>
    have hle' : ¬ (xs.length : Int) = ys.length := by omega
    (refine enterK c_slices_Equal_api_Line_api_Line (Nat.le_of_ble_eq_true rfl) fun K hK => ?_; (try simp (maxSteps := 1000000) (disch := first | omega | assumption | exact Nat.le_of_ble_eq_true rfl) only [go_sem, ↓mwp_block, simprocAttr, ir_slices_Equal_api_Line_api_Line]))
    (try simp (maxSteps := 1000000) (disch := first | omega | assumption | exact Nat.le_of_ble_eq_true rfl) only [go_sem, ↓mwp_block, simprocAttr, hle'])
    exact hK _ _ ⟨by rw [dcd_false (fun e => hle (congrArg List.length e))], rfl⟩
  rw [hle]
  (refine enterK c_slices_Equal_api_Line_api_Line (Nat.le_of_ble_eq_true rfl) fun K hK => ?_; (try simp (maxSteps := 1000000) (disch := first | omega | assumption | exact Nat.le_of_ble_eq_true rfl) only [go_sem, ↓mwp_block, simprocAttr, ir_slices_Equal_api_Line_api_Line]))
  refine loop_intro (fun ρ h' => h' = h ∧ ρ 0 = .slice A ys.length c ∧ ρ 1 = .slice B ys.length d ∧ ρ 12 = .int .i64 ys.length ∧ ∃ i : Nat, ρ 13 = .int .i64 i ∧ i ≤ ys.length ∧ xs.take i = ys.take i) (fun ρ _ => ys.length - (iv (ρ 13)).toNat) ?_ ?_
  · (try simp (maxSteps := 1000000) (disch := first | omega | assumption | exact Nat.le_of_ble_eq_true rfl) only [go_sem, ↓mwp_block, simprocAttr])
    exact ⟨0, rfl, by omega, rfl⟩
  rintro ρ h' J hJ ⟨rfl, e0, e1, e12, i, e13, hi, htk⟩
  (try simp (maxSteps := 1000000) (disch := first | omega | assumption | exact Nat.le_of_ble_eq_true rfl) only [go_sem, ↓mwp_block, simprocAttr, e12, e13])
  refine cond_dec (fun hlt => ?_) (fun hlt => ?_)
  · have hil : i < xs.length := by omega
    have hil2 : i < ys.length := by omega
    obtain ⟨bk, off, rfl, hr⟩ := ha.at hil
    obtain ⟨bk2, off2, rfl, hr2⟩ := hb.at hil2
    by_cases he : xs[i] = ys[i]
    · (try simp (maxSteps := 1000000) (disch := first | omega | assumption | exact Nat.le_of_ble_eq_true rfl) only [go_sem, ↓mwp_block, simprocAttr])
      refine draw_eq ?_
      (try simp (maxSteps := 1000000) (disch := first | omega | assumption | exact Nat.le_of_ble_eq_true rfl) only [go_sem, ↓mwp_block, simprocAttr, e0, e1, e13, hr, hr2, eqLinK, he])
      refine hJ _ _ ?_ ?_
      · (try simp (maxSteps := 1000000) (disch := first | omega | assumption | exact Nat.le_of_ble_eq_true rfl) only [go_sem, ↓mwp_block, simprocAttr, e0, e1, e12])
        exact ⟨i + 1, rfl, by omega, by rw [List.take_succ_eq_append_getElem hil, List.take_succ_eq_append_getElem hil2, he, htk]⟩
      · (try simp (maxSteps := 1000000) (disch := first | omega | assumption | exact Nat.le_of_ble_eq_true rfl) only [go_sem, ↓mwp_block, simprocAttr, e13])
        omega
    · (try simp (maxSteps := 1000000) (disch := first | omega | assumption | exact Nat.le_of_ble_eq_true rfl) only [go_sem, ↓mwp_block, simprocAttr])
      refine draw_eq ?_
      (try simp (maxSteps := 1000000) (disch := first | omega | assumption | exact Nat.le_of_ble_eq_true rfl) only [go_sem, ↓mwp_block, simprocAttr, e0, e1, e13, hr, hr2, eqLinK, he])
      refine hK _ _ ⟨by rw [dcd_false (fun e => he (by subst e; rfl))], rfl⟩
  · obtain rfl : i = ys.length := by omega
    (try simp (maxSteps := 1000000) (disch := first | omega | assumption | exact Nat.le_of_ble_eq_true rfl) only [go_sem, ↓mwp_block, simprocAttr])
    refine hK _ _ ⟨by rw [dcd_true (by rw [List.take_of_length_le (by omega), List.take_of_length_le (by omega)] at htk; exact htk)], rfl⟩
theorem EqS_ok {h : Heap} {A B : Option Addr} {c d : Nat} {xs ys : List Sup} (ha : Arr Sup.enc 3 h A xs) (hb : Arr Sup.enc 3 h B ys) (hl : xs.length < 1000000000) :
    CallsH Try.prog 31 [.slice A xs.length c, .slice B ys.length d] h fun v h' => v = .bool (dcd (xs = ys)) ∧ h' = h := by
  by_cases hle : xs.length = ys.length
  case neg =>
    have hle' : ¬ (xs.length : Int) = ys.length := by omega
    (refine enterK c_slices_Equal_api_Supply_api_Supply (Nat.le_of_ble_eq_true rfl) fun K hK => ?_; (try simp (maxSteps := 1000000) (disch := first | omega | assumption | exact Nat.le_of_ble_eq_true rfl) only [go_sem, ↓mwp_block, simprocAttr, ir_slices_Equal_api_Supply_api_Supply]))
    (try simp (maxSteps := 1000000) (disch := first | omega | assumption | exact Nat.le_of_ble_eq_true rfl) only [go_sem, ↓mwp_block, simprocAttr, hle'])
    exact hK _ _ ⟨by rw [dcd_false (fun e => hle (congrArg List.length e))], rfl⟩
  rw [hle]
  (refine enterK c_slices_Equal_api_Supply_api_Supply (Nat.le_of_ble_eq_true rfl) fun K hK => ?_; (try simp (maxSteps := 1000000) (disch := first | omega | assumption | exact Nat.le_of_ble_eq_true rfl) only [go_sem, ↓mwp_block, simprocAttr, ir_slices_Equal_api_Supply_api_Supply]))
  refine loop_intro (fun ρ h' => h' = h ∧ ρ 0 = .slice A ys.length c ∧ ρ 1 = .slice B ys.length d ∧ ρ 12 = .int .i64 ys.length ∧ ∃ i : Nat, ρ 13 = .int .i64 i ∧ i ≤ ys.length ∧ xs.take i = ys.take i) (fun ρ _ => ys.length - (iv (ρ 13)).toNat) ?_ ?_
  · (try simp (maxSteps := 1000000) (disch := first | omega | assumption | exact Nat.le_of_ble_eq_true rfl) only [go_sem, ↓mwp_block, simprocAttr])
    exact ⟨0, rfl, by omega, rfl⟩
  rintro ρ h' J hJ ⟨rfl, e0, e1, e12, i, e13, hi, htk⟩
  (try simp (maxSteps := 1000000) (disch := first | omega | assumption | exact Nat.le_of_ble_eq_true rfl) only [go_sem, ↓mwp_block, simprocAttr, e12, e13])
  refine cond_dec (fun hlt => ?_) (fun hlt => ?_)
  · have hil : i < xs.length := by omega
    have hil2 : i < ys.length := by omega
    obtain ⟨bk, off, rfl, hr⟩ := ha.at hil
    obtain ⟨bk2, off2, rfl, hr2⟩ := hb.at hil2
    by_cases he : xs[i] = ys[i]
    · (try simp (maxSteps := 1000000) (disch := first | omega | assumption | exact Nat.le_of_ble_eq_true rfl) only [go_sem, ↓mwp_block, simprocAttr])
      refine draw_eq ?_
      (try simp (maxSteps := 1000000) (disch := first | omega | assumption | exact Nat.le_of_ble_eq_true rfl) only [go_sem, ↓mwp_block, simprocAttr, e0, e1, e13, hr, hr2, eqSupK, he])
      refine hJ _ _ ?_ ?_
      · (try simp (maxSteps := 1000000) (disch := first | omega | assumption | exact Nat.le_of_ble_eq_true rfl) only [go_sem, ↓mwp_block, simprocAttr, e0, e1, e12])
        exact ⟨i + 1, rfl, by omega, by rw [List.take_succ_eq_append_getElem hil, List.take_succ_eq_append_getElem hil2, he, htk]⟩
      · (try simp (maxSteps := 1000000) (disch := first | omega | assumption | exact Nat.le_of_ble_eq_true rfl) only [go_sem, ↓mwp_block, simprocAttr, e13])
        omega
    · (try simp (maxSteps := 1000000) (disch := first | omega | assumption | exact Nat.le_of_ble_eq_true rfl) only [go_sem, ↓mwp_block, simprocAttr])
      refine draw_eq ?_
      (try simp (maxSteps := 1000000) (disch := first | omega | assumption | exact Nat.le_of_ble_eq_true rfl) only [go_sem, ↓mwp_block, simprocAttr, e0, e1, e13, hr, hr2, eqSupK, he])
      refine hK _ _ ⟨by rw [dcd_false (fun e => he (by subst e; rfl))], rfl⟩
  · obtain rfl : i = ys.length := by omega
    (try simp (maxSteps := 1000000) (disch := first | omega | assumption | exact Nat.le_of_ble_eq_true rfl) only [go_sem, ↓mwp_block, simprocAttr])
    refine hK _ _ ⟨by rw [dcd_true (by rw [List.take_of_length_le (by omega), List.take_of_length_le (by omega)] at htk; exact htk)], rfl⟩
theorem EqP_ok {h : Heap} {A B : Option Addr} {c d : Nat} {xs ys : List Pol} (ha : Arr Pol.enc 16 h A xs) (hb : Arr Pol.enc 16 h B ys) (hl : xs.length < 1000000000) :
    CallsH Try.prog 62 [.slice A xs.length c, .slice B ys.length d] h fun v h' => v = .bool (dcd (xs = ys)) ∧ h' = h := by
  by_cases hle : xs.length = ys.length
  case neg =>
    have hle' : ¬ (xs.length : Int) = ys.length := by omega
    (refine enterK c_slices_Equal_api_Policy_api_Policy (Nat.le_of_ble_eq_true rfl) fun K hK => ?_; (try simp (maxSteps := 1000000) (disch := first | omega | assumption | exact Nat.le_of_ble_eq_true rfl) only [go_sem, ↓mwp_block, simprocAttr, ir_slices_Equal_api_Policy_api_Policy]))
    (try simp (maxSteps := 1000000) (disch := first | omega | assumption | exact Nat.le_of_ble_eq_true rfl) only [go_sem, ↓mwp_block, simprocAttr, hle'])
    exact hK _ _ ⟨by rw [dcd_false (fun e => hle (congrArg List.length e))], rfl⟩
  rw [hle]
  (refine enterK c_slices_Equal_api_Policy_api_Policy (Nat.le_of_ble_eq_true rfl) fun K hK => ?_; (try simp (maxSteps := 1000000) (disch := first | omega | assumption | exact Nat.le_of_ble_eq_true rfl) only [go_sem, ↓mwp_block, simprocAttr, ir_slices_Equal_api_Policy_api_Policy]))
  refine loop_intro (fun ρ h' => h' = h ∧ ρ 0 = .slice A ys.length c ∧ ρ 1 = .slice B ys.length d ∧ ρ 12 = .int .i64 ys.length ∧ ∃ i : Nat, ρ 13 = .int .i64 i ∧ i ≤ ys.length ∧ xs.take i = ys.take i) (fun ρ _ => ys.length - (iv (ρ 13)).toNat) ?_ ?_
  · (try simp (maxSteps := 1000000) (disch := first | omega | assumption | exact Nat.le_of_ble_eq_true rfl) only [go_sem, ↓mwp_block, simprocAttr])
    exact ⟨0, rfl, by omega, rfl⟩
  rintro ρ h' J hJ ⟨rfl, e0, e1, e12, i, e13, hi, htk⟩
  (try simp (maxSteps := 1000000) (disch := first | omega | assumption | exact Nat.le_of_ble_eq_true rfl) only [go_sem, ↓mwp_block, simprocAttr, e12, e13])
  refine cond_dec (fun hlt => ?_) (fun hlt => ?_)
  · have hil : i < xs.length := by omega
    have hil2 : i < ys.length := by omega
    obtain ⟨bk, off, rfl, hr⟩ := ha.at hil
    obtain ⟨bk2, off2, rfl, hr2⟩ := hb.at hil2
    by_cases he : xs[i] = ys[i]
    · (try simp (maxSteps := 1000000) (disch := first | omega | assumption | exact Nat.le_of_ble_eq_true rfl) only [go_sem, ↓mwp_block, simprocAttr])
      refine draw_eq ?_
      (try simp (maxSteps := 1000000) (disch := first | omega | assumption | exact Nat.le_of_ble_eq_true rfl) only [go_sem, ↓mwp_block, simprocAttr, e0, e1, e13, hr, hr2, eqPolK, he])
      refine hJ _ _ ?_ ?_
      · (try simp (maxSteps := 1000000) (disch := first | omega | assumption | exact Nat.le_of_ble_eq_true rfl) only [go_sem, ↓mwp_block, simprocAttr, e0, e1, e12])
        exact ⟨i + 1, rfl, by omega, by rw [List.take_succ_eq_append_getElem hil, List.take_succ_eq_append_getElem hil2, he, htk]⟩
      · (try simp (maxSteps := 1000000) (disch := first | omega | assumption | exact Nat.le_of_ble_eq_true rfl) only [go_sem, ↓mwp_block, simprocAttr, e13])
        omega
    · (try simp (maxSteps := 1000000) (disch := first | omega | assumption | exact Nat.le_of_ble_eq_true rfl) only [go_sem, ↓mwp_block, simprocAttr])
      refine draw_eq ?_
      (try simp (maxSteps := 1000000) (disch := first | omega | assumption | exact Nat.le_of_ble_eq_true rfl) only [go_sem, ↓mwp_block, simprocAttr, e0, e1, e13, hr, hr2, eqPolK, he])
      refine hK _ _ ⟨by rw [dcd_false (fun e => he (by subst e; rfl))], rfl⟩
  · obtain rfl : i = ys.length := by omega
    (try simp (maxSteps := 1000000) (disch := first | omega | assumption | exact Nat.le_of_ble_eq_true rfl) only [go_sem, ↓mwp_block, simprocAttr])
    refine hK _ _ ⟨by rw [dcd_true (by rw [List.take_of_length_le (by omega), List.take_of_length_le (by omega)] at htk; exact htk)], rfl⟩
theorem EqT_ok {h : Heap} {A B : Option Addr} {c d : Nat} {xs ys : List Pol} (ha : Arr Pol.enc 16 h A xs) (hb : Arr Pol.enc 16 h B ys) (hl : xs.length < 1000000000) :
    CallsH Try.prog 30 [.slice A xs.length c, .slice B ys.length d] h fun v h' => v = .bool (dcd (xs = ys)) ∧ h' = h := by
  (refine enterK c_table_Equal (Nat.le_of_ble_eq_true rfl) fun K hK => ?_; (try simp (maxSteps := 1000000) (disch := first | omega | assumption | exact Nat.le_of_ble_eq_true rfl) only [go_sem, ↓mwp_block, simprocAttr, ir_table_Equal]))
  refine call_intro (EqP_ok ha hb hl) ?_
  rintro _ _ ⟨rfl, rfl⟩
  (try simp (maxSteps := 1000000) (disch := first | omega | assumption | exact Nat.le_of_ble_eq_true rfl) only [go_sem, ↓mwp_block, simprocAttr])
  exact hK _ _ ⟨rfl, rfl⟩
/-- What two orders that are alike have in common. -/
def Odr.pu (o : Odr) : Int × Int × Int × Int × List Lin := (o.day, o.disc, o.tax, o.ship, o.ls)
def Cfg.pu (C : Cfg) : List Pol × List Sup × List (Int × Int × Int × Int × List Lin) := (C.ps, C.ss, C.os.map Odr.pu)
theorem Eq1_ok {h0 : Heap} (x y : Odr) (hx : Arr Lin.enc 4 h0 x.A x.ls) (hy : Arr Lin.enc 4 h0 y.A y.ls) (hl : x.ls.length < 1000000000) :
    CallsH Try.prog 33 [.agg x.enc.toArray, .agg y.enc.toArray] h0 fun v h' => v = .bool (dcd (x.pu = y.pu)) ∧ Fr h0 h' [] := by
  have S := St.nil h0
  have hn : ∀ {p : Prop}, (x.pu = y.pu → p) → ¬ p → dcd (x.pu = y.pu) = false := fun h hp => dcd_false fun e => hp (h e)
  by_cases c1 : x.day = y.day
  case neg =>
    (refine enterK c_order_Equal_1 (Nat.le_of_ble_eq_true rfl) fun K hK => ?_; (try simp (maxSteps := 1000000) (disch := first | omega | assumption | exact Nat.le_of_ble_eq_true rfl) only [go_sem, ↓mwp_block, simprocAttr, ir_order_Equal_1]))
    (refine st_alloc S ?_; clear S; intro a h S; (try simp only [splice_cons, splice_nil, List.set_cons_zero, List.set_cons_succ, Nat.zero_add, Nat.reduceAdd, List.cons_append, List.nil_append] at S); ((try clear F); have F := S.all; (try simp only [all_cons, all_nil, says_cell, and_true] at F)))
    (try simp (maxSteps := 1000000) (disch := first | omega | assumption | exact Nat.le_of_ble_eq_true rfl) only [go_sem, ↓mwp_block, simprocAttr])
    (refine st_alloc S ?_; clear S; intro b h S; (try simp only [splice_cons, splice_nil, List.set_cons_zero, List.set_cons_succ, Nat.zero_add, Nat.reduceAdd, List.cons_append, List.nil_append] at S); ((try clear F); have F := S.all; (try simp only [all_cons, all_nil, says_cell, and_true] at F)))
    (try simp (maxSteps := 1000000) (disch := first | omega | assumption | exact Nat.le_of_ble_eq_true rfl) only [go_sem, ↓mwp_block, simprocAttr, F, Odr.enc, c1])
    exact hK _ _ ⟨by rw [hn (fun e => congrArg (fun z => z.1) e) c1], S.fr⟩
  by_cases c2 : x.disc = y.disc
  case neg =>
    (refine enterK c_order_Equal_1 (Nat.le_of_ble_eq_true rfl) fun K hK => ?_; (try simp (maxSteps := 1000000) (disch := first | omega | assumption | exact Nat.le_of_ble_eq_true rfl) only [go_sem, ↓mwp_block, simprocAttr, ir_order_Equal_1]))
    (refine st_alloc S ?_; clear S; intro a h S; (try simp only [splice_cons, splice_nil, List.set_cons_zero, List.set_cons_succ, Nat.zero_add, Nat.reduceAdd, List.cons_append, List.nil_append] at S); ((try clear F); have F := S.all; (try simp only [all_cons, all_nil, says_cell, and_true] at F)))
    (try simp (maxSteps := 1000000) (disch := first | omega | assumption | exact Nat.le_of_ble_eq_true rfl) only [go_sem, ↓mwp_block, simprocAttr])
    (refine st_alloc S ?_; clear S; intro b h S; (try simp only [splice_cons, splice_nil, List.set_cons_zero, List.set_cons_succ, Nat.zero_add, Nat.reduceAdd, List.cons_append, List.nil_append] at S); ((try clear F); have F := S.all; (try simp only [all_cons, all_nil, says_cell, and_true] at F)))
    (try simp (maxSteps := 1000000) (disch := first | omega | assumption | exact Nat.le_of_ble_eq_true rfl) only [go_sem, ↓mwp_block, simprocAttr, F, Odr.enc, c1, c2])
    exact hK _ _ ⟨by rw [hn (fun e => congrArg (fun z => z.2.1) e) c2], S.fr⟩
  by_cases c3 : x.tax = y.tax
  case neg =>
    (refine enterK c_order_Equal_1 (Nat.le_of_ble_eq_true rfl) fun K hK => ?_; (try simp (maxSteps := 1000000) (disch := first | omega | assumption | exact Nat.le_of_ble_eq_true rfl) only [go_sem, ↓mwp_block, simprocAttr, ir_order_Equal_1]))
    (refine st_alloc S ?_; clear S; intro a h S; (try simp only [splice_cons, splice_nil, List.set_cons_zero, List.set_cons_succ, Nat.zero_add, Nat.reduceAdd, List.cons_append, List.nil_append] at S); ((try clear F); have F := S.all; (try simp only [all_cons, all_nil, says_cell, and_true] at F)))
    (try simp (maxSteps := 1000000) (disch := first | omega | assumption | exact Nat.le_of_ble_eq_true rfl) only [go_sem, ↓mwp_block, simprocAttr])
    (refine st_alloc S ?_; clear S; intro b h S; (try simp only [splice_cons, splice_nil, List.set_cons_zero, List.set_cons_succ, Nat.zero_add, Nat.reduceAdd, List.cons_append, List.nil_append] at S); ((try clear F); have F := S.all; (try simp only [all_cons, all_nil, says_cell, and_true] at F)))
    (try simp (maxSteps := 1000000) (disch := first | omega | assumption | exact Nat.le_of_ble_eq_true rfl) only [go_sem, ↓mwp_block, simprocAttr, F, Odr.enc, c1, c2, c3])
    exact hK _ _ ⟨by rw [hn (fun e => congrArg (fun z => z.2.2.1) e) c3], S.fr⟩
  by_cases c4 : x.ship = y.ship
  case neg =>
    (refine enterK c_order_Equal_1 (Nat.le_of_ble_eq_true rfl) fun K hK => ?_; (try simp (maxSteps := 1000000) (disch := first | omega | assumption | exact Nat.le_of_ble_eq_true rfl) only [go_sem, ↓mwp_block, simprocAttr, ir_order_Equal_1]))
    (refine st_alloc S ?_; clear S; intro a h S; (try simp only [splice_cons, splice_nil, List.set_cons_zero, List.set_cons_succ, Nat.zero_add, Nat.reduceAdd, List.cons_append, List.nil_append] at S); ((try clear F); have F := S.all; (try simp only [all_cons, all_nil, says_cell, and_true] at F)))
    (try simp (maxSteps := 1000000) (disch := first | omega | assumption | exact Nat.le_of_ble_eq_true rfl) only [go_sem, ↓mwp_block, simprocAttr])
    (refine st_alloc S ?_; clear S; intro b h S; (try simp only [splice_cons, splice_nil, List.set_cons_zero, List.set_cons_succ, Nat.zero_add, Nat.reduceAdd, List.cons_append, List.nil_append] at S); ((try clear F); have F := S.all; (try simp only [all_cons, all_nil, says_cell, and_true] at F)))
    (try simp (maxSteps := 1000000) (disch := first | omega | assumption | exact Nat.le_of_ble_eq_true rfl) only [go_sem, ↓mwp_block, simprocAttr, F, Odr.enc, c1, c2, c3, c4])
    exact hK _ _ ⟨by rw [hn (fun e => congrArg (fun z => z.2.2.2.1) e) c4], S.fr⟩
  (refine enterK c_order_Equal_1 (Nat.le_of_ble_eq_true rfl) fun K hK => ?_; (try simp (maxSteps := 1000000) (disch := first | omega | assumption | exact Nat.le_of_ble_eq_true rfl) only [go_sem, ↓mwp_block, simprocAttr, ir_order_Equal_1]))
  (refine st_alloc S ?_; clear S; intro a h S; (try simp only [splice_cons, splice_nil, List.set_cons_zero, List.set_cons_succ, Nat.zero_add, Nat.reduceAdd, List.cons_append, List.nil_append] at S); ((try clear F); have F := S.all; (try simp only [all_cons, all_nil, says_cell, and_true] at F)))
  (try simp (maxSteps := 1000000) (disch := first | omega | assumption | exact Nat.le_of_ble_eq_true rfl) only [go_sem, ↓mwp_block, simprocAttr])
  (refine st_alloc S ?_; clear S; intro b h S; (try simp only [splice_cons, splice_nil, List.set_cons_zero, List.set_cons_succ, Nat.zero_add, Nat.reduceAdd, List.cons_append, List.nil_append] at S); ((try clear F); have F := S.all; (try simp only [all_cons, all_nil, says_cell, and_true] at F)))
  (try simp (maxSteps := 1000000) (disch := first | omega | assumption | exact Nat.le_of_ble_eq_true rfl) only [go_sem, ↓mwp_block, simprocAttr, F, Odr.enc, c1, c2, c3, c4])
  refine call_intro (EqL_ok (hx.fr S.fr (by simp)) (hy.fr S.fr (by simp)) hl) ?_
  rintro _ _ ⟨rfl, rfl⟩
  (try simp (maxSteps := 1000000) (disch := first | omega | assumption | exact Nat.le_of_ble_eq_true rfl) only [go_sem, ↓mwp_block, simprocAttr])
  refine hK _ _ ⟨congrArg (fun p => Value.bool (dcd p)) (propext ⟨fun e => ?_, fun e => congrArg (fun z => z.2.2.2.2) e⟩), S.fr⟩
  simp only [Odr.pu, c1, c2, c3, c4, e]
theorem EqO_ok {h0 : Heap} {A B : Option Addr} {c d : Nat} {xs ys : List Odr} (ha : Arr Odr.enc 5 h0 A xs) (hb : Arr Odr.enc 5 h0 B ys) (hal : ∀ o ∈ xs, Arr Lin.enc 4 h0 o.A o.ls) (hbl : ∀ o ∈ ys, Arr Lin.enc 4 h0 o.A o.ls) (hl : xs.length < 1000000000) (hll : ∀ o ∈ xs, o.ls.length < 1000000000) :
    CallsH Try.prog 32 [.slice A xs.length c, .slice B ys.length d, .func (.func 33) #[] (List.toArray [])] h0 fun v h' => v = .bool (dcd (xs.map Odr.pu = ys.map Odr.pu)) ∧ Fr h0 h' [] := by
  have S := St.nil h0
  by_cases hle : xs.length = ys.length
  case neg =>
    have hle' : ¬ (xs.length : Int) = ys.length := by omega
    (refine enterK c_slices_EqualFunc_api_Order_api_Order_api_Order_api_Order (Nat.le_of_ble_eq_true rfl) fun K hK => ?_; (try simp (maxSteps := 1000000) (disch := first | omega | assumption | exact Nat.le_of_ble_eq_true rfl) only [go_sem, ↓mwp_block, simprocAttr, ir_slices_EqualFunc_api_Order_api_Order_api_Order_api_Order]))
    (try simp (maxSteps := 1000000) (disch := first | omega | assumption | exact Nat.le_of_ble_eq_true rfl) only [go_sem, ↓mwp_block, simprocAttr, hle'])
    exact hK _ _ ⟨by rw [dcd_false (fun e => hle (by have := congrArg List.length e; simpa using this))], Fr.refl _ _⟩
  rw [hle]
  (refine enterK c_slices_EqualFunc_api_Order_api_Order_api_Order_api_Order (Nat.le_of_ble_eq_true rfl) fun K hK => ?_; (try simp (maxSteps := 1000000) (disch := first | omega | assumption | exact Nat.le_of_ble_eq_true rfl) only [go_sem, ↓mwp_block, simprocAttr, ir_slices_EqualFunc_api_Order_api_Order_api_Order_api_Order]))
  refine loop_intro (fun ρ h' => St h0 h' [] ∧ ρ 1 = .slice B ys.length d ∧ ρ 2 = .func (.func 33) #[] (List.toArray []) ∧ ρ 15 = .slice A ys.length c ∧ ρ 16 = .int .i64 ys.length ∧ ∃ i : Nat, ρ 17 = .int .i64 i ∧ i ≤ ys.length ∧ (xs.map Odr.pu).take i = (ys.map Odr.pu).take i) (fun ρ _ => ys.length - (iv (ρ 17)).toNat) ?_ ?_
  · (try simp (maxSteps := 1000000) (disch := first | omega | assumption | exact Nat.le_of_ble_eq_true rfl) only [go_sem, ↓mwp_block, simprocAttr])
    exact ⟨S, 0, rfl, by omega, rfl⟩
  clear S
  rintro ρ h J hJ ⟨S, e1, e2, e15, e16, i, e17, hi, htk⟩
  (try simp (maxSteps := 1000000) (disch := first | omega | assumption | exact Nat.le_of_ble_eq_true rfl) only [go_sem, ↓mwp_block, simprocAttr, e16, e17])
  refine cond_dec (fun hlt => ?_) (fun hlt => ?_)
  · have hil : i < xs.length := by omega
    have hil2 : i < ys.length := by omega
    obtain ⟨bk, off, rfl, hr⟩ := (ha.fr S.fr (by simp)).at hil
    have hx := hal _ (List.getElem_mem hil)
    have hy := hbl _ (List.getElem_mem hil2)
    have hxl := hll _ (List.getElem_mem hil)
    have hstep : xs[i].pu = ys[i].pu → (xs.map Odr.pu).take (i + 1) = (ys.map Odr.pu).take (i + 1) := fun e => by
      rw [List.take_succ_eq_append_getElem (by simpa using hil), List.take_succ_eq_append_getElem (by simpa using hil2), htk, List.getElem_map, List.getElem_map, e]
    have hno : ¬ xs[i].pu = ys[i].pu → ¬ xs.map Odr.pu = ys.map Odr.pu := fun hn e => hn (by
      have h1 : (xs.map Odr.pu)[i]'(by simpa using hil) = (ys.map Odr.pu)[i]'(by simpa using hil2) := by simp only [e]
      simpa using h1)
    have hb2 := fun {h' : Heap} (hf : Fr h0 h' []) => (hb.fr hf (by simp)).at hil2
    generalize xs[i] = x at *
    generalize ys[i] = y at *
    (try simp (maxSteps := 1000000) (disch := first | omega | assumption | exact Nat.le_of_ble_eq_true rfl) only [go_sem, ↓mwp_block, simprocAttr, e15, e17, hr])
    (refine st_alloc S ?_; clear S; intro p h S; (try simp only [splice_cons, splice_nil, List.set_cons_zero, List.set_cons_succ, Nat.zero_add, Nat.reduceAdd, List.cons_append, List.nil_append] at S); ((try clear F); have F := S.all; (try simp only [all_cons, all_nil, says_cell, and_true] at F)))
    (try simp (maxSteps := 1000000) (disch := first | omega | assumption | exact Nat.le_of_ble_eq_true rfl) only [go_sem, ↓mwp_block, simprocAttr, F, Odr.enc])
    (refine st_store (by first | exact S | exact S.p1 | exact S.p2 | exact S.p3 | exact S.p4 | exact S.p5 | exact S.p6 | exact S.p7 | exact S.p8 | exact S.p9 | exact S.p10 | exact S.p11) (by rfl) (by rfl) (Nat.le_of_ble_eq_true rfl) ?_; clear S; intro h S; (try simp only [splice_cons, splice_nil, List.set_cons_zero, List.set_cons_succ, Nat.zero_add, Nat.reduceAdd, List.cons_append, List.nil_append] at S); ((try clear F); have F := S.all; (try simp only [all_cons, all_nil, says_cell, and_true] at F)))
    obtain ⟨bk2, off2, rfl, hr2⟩ := hb2 S.fr
    (try simp (maxSteps := 1000000) (disch := first | omega | assumption | exact Nat.le_of_ble_eq_true rfl) only [go_sem, ↓mwp_block, simprocAttr, e1, hr2])
    (refine st_alloc S ?_; clear S; intro q h S; (try simp only [splice_cons, splice_nil, List.set_cons_zero, List.set_cons_succ, Nat.zero_add, Nat.reduceAdd, List.cons_append, List.nil_append] at S); ((try clear F); have F := S.all; (try simp only [all_cons, all_nil, says_cell, and_true] at F)))
    (try simp (maxSteps := 1000000) (disch := first | omega | assumption | exact Nat.le_of_ble_eq_true rfl) only [go_sem, ↓mwp_block, simprocAttr, F, Odr.enc])
    (refine st_store (by first | exact S | exact S.p1 | exact S.p2 | exact S.p3 | exact S.p4 | exact S.p5 | exact S.p6 | exact S.p7 | exact S.p8 | exact S.p9 | exact S.p10 | exact S.p11) (by rfl) (by rfl) (Nat.le_of_ble_eq_true rfl) ?_; clear S; intro h S; (try simp only [splice_cons, splice_nil, List.set_cons_zero, List.set_cons_succ, Nat.zero_add, Nat.reduceAdd, List.cons_append, List.nil_append] at S); ((try clear F); have F := S.all; (try simp only [all_cons, all_nil, says_cell, and_true] at F)))
    (try simp (maxSteps := 1000000) (disch := first | omega | assumption | exact Nat.le_of_ble_eq_true rfl) only [go_sem, ↓mwp_block, simprocAttr, e2, F])
    refine callv_ok' (a := []) (b := []) ok_order_Equal_1 ((Eq1_ok x y (hx.fr S.fr (by simp)) (hy.fr S.fr (by simp)) hxl).mono ?_)
    rintro _ h ⟨rfl, hf⟩
    have S := S.frame hf
    by_cases he : x.pu = y.pu
    · (try simp (maxSteps := 1000000) (disch := first | omega | assumption | exact Nat.le_of_ble_eq_true rfl) only [go_sem, ↓mwp_block, simprocAttr, he, e17])
      refine hJ _ _ ?_ ?_
      · (try simp (maxSteps := 1000000) (disch := first | omega | assumption | exact Nat.le_of_ble_eq_true rfl) only [go_sem, ↓mwp_block, simprocAttr, e1, e2, e15, e16])
        exact ⟨S.tl.tl, i + 1, rfl, by omega, hstep he⟩
      · (try simp (maxSteps := 1000000) (disch := first | omega | assumption | exact Nat.le_of_ble_eq_true rfl) only [go_sem, ↓mwp_block, simprocAttr, e17])
        omega
    · (try simp (maxSteps := 1000000) (disch := first | omega | assumption | exact Nat.le_of_ble_eq_true rfl) only [go_sem, ↓mwp_block, simprocAttr, he])
      exact hK _ _ ⟨by rw [dcd_false (hno he)], S.fr⟩
  · obtain rfl : i = ys.length := by omega
    (try simp (maxSteps := 1000000) (disch := first | omega | assumption | exact Nat.le_of_ble_eq_true rfl) only [go_sem, ↓mwp_block, simprocAttr])
    refine hK _ _ ⟨by rw [dcd_true (by rw [List.take_of_length_le (by rw [List.length_map]; omega), List.take_of_length_le (by rw [List.length_map]; omega)] at htk; exact htk)], S.fr⟩
theorem OEqual_ok {h0 : Heap} (C D : Cfg) (r : C.rd h0) (q : D.rd h0) (l1 : C.os.length < 1000000) (l2 : C.ss.length < 1000000) (l3 : C.ps.length < 1000000) (l4 : ∀ o ∈ C.os, o.ls.length < 1000000) :
    CallsH Try.prog 16 [.agg C.enc.toArray, .agg D.enc.toArray] h0 fun v h' => v = .bool (dcd (C.pu = D.pu)) ∧ Fr h0 h' [] := by
  have S := St.nil h0
  (refine enterK c_order_Equal (Nat.le_of_ble_eq_true rfl) fun K hK => ?_; (try simp (maxSteps := 1000000) (disch := first | omega | assumption | exact Nat.le_of_ble_eq_true rfl) only [go_sem, ↓mwp_block, simprocAttr, ir_order_Equal]))
  (refine st_alloc S ?_; clear S; intro a h S; (try simp only [splice_cons, splice_nil, List.set_cons_zero, List.set_cons_succ, Nat.zero_add, Nat.reduceAdd, List.cons_append, List.nil_append] at S); ((try clear F); have F := S.all; (try simp only [all_cons, all_nil, says_cell, and_true] at F)))
  (try simp (maxSteps := 1000000) (disch := first | omega | assumption | exact Nat.le_of_ble_eq_true rfl) only [go_sem, ↓mwp_block, simprocAttr])
  (refine st_alloc S ?_; clear S; intro b h S; (try simp only [splice_cons, splice_nil, List.set_cons_zero, List.set_cons_succ, Nat.zero_add, Nat.reduceAdd, List.cons_append, List.nil_append] at S); ((try clear F); have F := S.all; (try simp only [all_cons, all_nil, says_cell, and_true] at F)))
  (try simp (maxSteps := 1000000) (disch := first | omega | assumption | exact Nat.le_of_ble_eq_true rfl) only [go_sem, ↓mwp_block, simprocAttr, F, Cfg.enc])
  have r1 := r.fr S.fr
  have q1 := q.fr S.fr
  refine call_intro (EqT_ok r1.ps q1.ps (by omega)) ?_
  rintro _ _ ⟨rfl, rfl⟩
  by_cases c1 : C.ps = D.ps
  case neg =>
    (try simp (maxSteps := 1000000) (disch := first | omega | assumption | exact Nat.le_of_ble_eq_true rfl) only [go_sem, ↓mwp_block, simprocAttr, c1])
    exact hK _ _ ⟨by rw [dcd_false fun e => c1 (congrArg (fun z => z.1) e)], S.fr⟩
  rw [dcd_true c1]
  (try simp (maxSteps := 1000000) (disch := first | omega | assumption | exact Nat.le_of_ble_eq_true rfl) only [go_sem, ↓mwp_block, simprocAttr, F, Cfg.enc])
  refine call_intro (EqS_ok r1.ss q1.ss (by omega)) ?_
  rintro _ _ ⟨rfl, rfl⟩
  by_cases c2 : C.ss = D.ss
  case neg =>
    (try simp (maxSteps := 1000000) (disch := first | omega | assumption | exact Nat.le_of_ble_eq_true rfl) only [go_sem, ↓mwp_block, simprocAttr, c2])
    exact hK _ _ ⟨by rw [dcd_false fun e => c2 (congrArg (fun z => z.2.1) e)], S.fr⟩
  rw [dcd_true c2]
  (try simp (maxSteps := 1000000) (disch := first | omega | assumption | exact Nat.le_of_ble_eq_true rfl) only [go_sem, ↓mwp_block, simprocAttr, F, Cfg.enc])
  refine call_intro (EqO_ok r1.os q1.os r1.ls q1.ls (by omega) (fun o ho => by have := l4 o ho; omega)) ?_
  rintro _ h ⟨rfl, hf⟩
  (try simp (maxSteps := 1000000) (disch := first | omega | assumption | exact Nat.le_of_ble_eq_true rfl) only [go_sem, ↓mwp_block, simprocAttr])
  refine hK _ _ ⟨congrArg (fun p => Value.bool (dcd p)) (propext ⟨fun e => ?_, fun e => congrArg (fun z => z.2.2) e⟩), (S.frame hf).fr⟩
  simp only [Cfg.pu, c1, c2, e]
end Go.Proofs.Ytblalmgahfbalaa.MX
