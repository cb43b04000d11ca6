/- Texts in one file: Od9, Od10. -/
import Derived.Test.YtblalmgahfbalaaK23

/- Orders: the law OrderUnits. -/
namespace Go.Proofs.Ytblalmgahfbalaa.MX
open Go Go.Proofs
set_option linter.unusedSimpArgs false
set_option linter.unusedVariables false
set_option maxHeartbeats 8000000
def fewC (C : Cfg) : Prop := C.os.length ≤ 40 ∧ C.ss.length ≤ 40 ∧ C.ps.length ≤ 40 ∧ ∀ o ∈ C.os, o.ls.length ≤ 20
theorem Few_ok {h0 : Heap} (C : Cfg) (r : C.rd h0) (w : C.wf) :
    CallsH Try.prog 9 [.agg C.enc.toArray] h0 fun v h' => v = .bool (dcd (fewC C)) ∧ Fr h0 h' [] := by
  have S := St.nil h0
  have r' : ∀ {h' : Heap} {l : List HP}, St h0 h' l → C.rd h' := fun S => r.fr S.fr
  have hw := w.l1
  have hw2 := w.m1
  by_cases d1 : 40 < (C.os.length : Int)
  · (refine enterK c_recouplaw10_Few (Nat.le_of_ble_eq_true rfl) fun K hK => ?_; (try simp (maxSteps := 1000000) (disch := first | omega | assumption | exact Nat.le_of_ble_eq_true rfl) only [go_sem, ↓mwp_block, simprocAttr, ir_recouplaw10_Few]))
    (refine st_alloc S ?_; clear S; intro g h S; (try simp only [splice_cons, splice_nil, List.set_cons_zero, List.set_cons_succ, Nat.zero_add, Nat.reduceAdd, List.cons_append, List.nil_append] at S); ((try clear F); have F := S.all; (try simp only [all_cons, all_nil, says_cell, and_true] at F)))
    (try simp (maxSteps := 1000000) (disch := first | omega | assumption | exact Nat.le_of_ble_eq_true rfl) only [go_sem, ↓mwp_block, simprocAttr, F, Cfg.enc, d1])
    exact hK _ _ ⟨by rw [dcd_false (fun h => by have := h.1; omega)], S.fr⟩
  by_cases d2 : 40 < (C.ss.length : Int)
  · (refine enterK c_recouplaw10_Few (Nat.le_of_ble_eq_true rfl) fun K hK => ?_; (try simp (maxSteps := 1000000) (disch := first | omega | assumption | exact Nat.le_of_ble_eq_true rfl) only [go_sem, ↓mwp_block, simprocAttr, ir_recouplaw10_Few]))
    (refine st_alloc S ?_; clear S; intro g h S; (try simp only [splice_cons, splice_nil, List.set_cons_zero, List.set_cons_succ, Nat.zero_add, Nat.reduceAdd, List.cons_append, List.nil_append] at S); ((try clear F); have F := S.all; (try simp only [all_cons, all_nil, says_cell, and_true] at F)))
    (try simp (maxSteps := 1000000) (disch := first | omega | assumption | exact Nat.le_of_ble_eq_true rfl) only [go_sem, ↓mwp_block, simprocAttr, F, Cfg.enc, d1, d2])
    exact hK _ _ ⟨by rw [dcd_false (fun h => by have := h.2.1; omega)], S.fr⟩
  by_cases d3 : 40 < (C.ps.length : Int)
  · (refine enterK c_recouplaw10_Few (Nat.le_of_ble_eq_true rfl) fun K hK => ?_; (try simp (maxSteps := 1000000) (disch := first | omega | assumption | exact Nat.le_of_ble_eq_true rfl) only [go_sem, ↓mwp_block, simprocAttr, ir_recouplaw10_Few]))
    (refine st_alloc S ?_; clear S; intro g h S; (try simp only [splice_cons, splice_nil, List.set_cons_zero, List.set_cons_succ, Nat.zero_add, Nat.reduceAdd, List.cons_append, List.nil_append] at S); ((try clear F); have F := S.all; (try simp only [all_cons, all_nil, says_cell, and_true] at F)))
    (try simp (maxSteps := 1000000) (disch := first | omega | assumption | exact Nat.le_of_ble_eq_true rfl) only [go_sem, ↓mwp_block, simprocAttr, F, Cfg.enc, d1, d2, d3])
    exact hK _ _ ⟨by rw [dcd_false (fun h => by have := h.2.2.1; omega)], S.fr⟩
  (refine enterK c_recouplaw10_Few (Nat.le_of_ble_eq_true rfl) fun K hK => ?_; (try simp (maxSteps := 1000000) (disch := first | omega | assumption | exact Nat.le_of_ble_eq_true rfl) only [go_sem, ↓mwp_block, simprocAttr, ir_recouplaw10_Few]))
  (refine st_alloc S ?_; clear S; intro g h S; (try simp only [splice_cons, splice_nil, List.set_cons_zero, List.set_cons_succ, Nat.zero_add, Nat.reduceAdd, List.cons_append, List.nil_append] at S); ((try clear F); have F := S.all; (try simp only [all_cons, all_nil, says_cell, and_true] at F)))
  (try simp (maxSteps := 1000000) (disch := first | omega | assumption | exact Nat.le_of_ble_eq_true rfl) only [go_sem, ↓mwp_block, simprocAttr, F, Cfg.enc, d1, d2, d3])
  refine loop_intro (fun ρ h' => ρ 1 = .pointer (some ⟨g, 0, none⟩) ∧ ρ 22 = .int .i64 C.os.length ∧ ∃ i : Nat, ρ 23 = .int .i64 i ∧ i ≤ C.os.length ∧ (∀ o ∈ C.os.take i, o.ls.length ≤ 20) ∧ St h0 h' [cellA g C.enc 26]) (fun ρ _ => C.os.length - (iv (ρ 23)).toNat) ?_ ?_
  · (try simp (maxSteps := 1000000) (disch := first | omega | assumption | exact Nat.le_of_ble_eq_true rfl) only [go_sem, ↓mwp_block, simprocAttr])
    exact ⟨0, rfl, by omega, by simp, S⟩
  clear S F
  rintro ρ h J hJ ⟨e1, e22, i, e23, hi, hok, S⟩
  (try simp (maxSteps := 1000000) (disch := first | omega | assumption | exact Nat.le_of_ble_eq_true rfl) only [go_sem, ↓mwp_block, simprocAttr, e22, e23])
  refine cond_dec (fun hlt => ?_) (fun hlt => ?_)
  · have hil : i < C.os.length := by omega
    obtain ⟨b, off, hA, hr1⟩ := (r' S).os.at hil
    have hmem := List.getElem_mem hil
    have htk : C.os[i].ls.length ≤ 20 → ∀ o ∈ C.os.take (i + 1), o.ls.length ≤ 20 := fun hx o ho => by
      rw [List.take_succ_eq_append_getElem hil] at ho
      rcases List.mem_append.1 ho with ho | ho
      · exact hok o ho
      · rw [List.mem_singleton] at ho; rw [ho]; exact hx
    generalize C.os[i] = o at *
    have hq1 := rd1_part hr1 1 (by omega)
    simp only [Odr.enc, List.getElem?_cons_zero, List.getElem?_cons_succ] at hq1
    ((try clear F); have F := S.all; (try simp only [all_cons, all_nil, says_cell, and_true] at F))
    by_cases d4 : 20 < (o.ls.length : Int)
    · (try simp (maxSteps := 1000000) (disch := first | omega | assumption | exact Nat.le_of_ble_eq_true rfl) only [go_sem, ↓mwp_block, simprocAttr, e1, e23, F, Cfg.enc, hA, hq1, d4])
      exact hK _ _ ⟨by rw [dcd_false (fun h => by have := h.2.2.2 _ hmem; omega)], S.fr⟩
    · (try simp (maxSteps := 1000000) (disch := first | omega | assumption | exact Nat.le_of_ble_eq_true rfl) only [go_sem, ↓mwp_block, simprocAttr, e1, e23, F, Cfg.enc, hA, hq1, d4])
      refine hJ _ _ ?_ ?_
      · (try simp (maxSteps := 1000000) (disch := first | omega | assumption | exact Nat.le_of_ble_eq_true rfl) only [go_sem, ↓mwp_block, simprocAttr, e1, e22])
        exact ⟨i + 1, rfl, by omega, htk (by omega), S⟩
      · (try simp (maxSteps := 1000000) (disch := first | omega | assumption | exact Nat.le_of_ble_eq_true rfl) only [go_sem, ↓mwp_block, simprocAttr, e23])
        omega
  · obtain rfl : i = C.os.length := by omega
    rw [List.take_length] at hok
    (try simp (maxSteps := 1000000) (disch := first | omega | assumption | exact Nat.le_of_ble_eq_true rfl) only [go_sem, ↓mwp_block, simprocAttr])
    exact hK _ _ ⟨by rw [dcd_true ⟨by omega, by omega, by omega, hok⟩], S.fr⟩
theorem unitsAll_len {C : Cfg} (hok : okCfg C) : ((unitsAll C).length : Int) = totOf C ∧ (unitsAll C).length ≤ 200 := by
  have h1 := ordsU_len (os := C.os) 0 hok.okO
  have h2 := supU_len hok.2.2.2.2.1.1
  have h3 := hok.2.2.2.2.2
  have ht : totOf C = ordSum C.os + supSum C.ss := rfl
  rw [unitsAll, List.length_append]
  omega
def c0C : Cfg := ⟨none, 0, [], none, 0, [], none, 0, []⟩
theorem c0_ok : okCfg c0C := ⟨⟨by decide, by simp [c0C]⟩, by decide, by decide, by simp [c0C], ⟨by simp [c0C], by simp [c0C]⟩, by decide⟩
def c1C (g : Nat) : Cfg := ⟨none, 0, [], some ⟨g, 0, none⟩, 1, [⟨1, 2, 3⟩], none, 0, []⟩
theorem c1_ok (g : Nat) : okCfg (c1C g) := ⟨⟨by simp [c1C], by simp [c1C]⟩, by simp [c1C], by simp [c1C], by simp [c1C], ⟨by simp [c1C, okSup, okSome, okPrice], by simp [c1C]⟩, by simp [c1C, totOf]⟩
theorem c1_wf (g : Nat) : (c1C g).wf := ⟨by simp [c1C], by simp [c1C], by simp [c1C], by simp [c1C], by simp [c1C], by simp [c1C], fun o ho => by cases ho⟩
theorem awake10_ok (h : Heap) : CallsH Try.prog 8 [] h fun v h' => v = .bool true ∧ Fr h h' [] := by
  have S := St.nil h
  (refine enterK c_recouplaw10_awake (Nat.le_of_ble_eq_true rfl) fun K hK => ?_; (try simp (maxSteps := 1000000) (disch := first | omega | assumption | exact Nat.le_of_ble_eq_true rfl) only [go_sem, ↓mwp_block, simprocAttr, ir_recouplaw10_awake]))
  (refine st_alloc S ?_; clear S; intro g h S; (try simp only [splice_cons, splice_nil, List.set_cons_zero, List.set_cons_succ, Nat.zero_add, Nat.reduceAdd, List.cons_append, List.nil_append] at S); ((try clear F); have F := S.all; (try simp only [all_cons, all_nil, says_cell, and_true] at F)))
  have S := S.cellOwn (enc := Sup.enc) (sz := 3) (ys := [⟨1, 2, 3⟩]) Sup.enc_len rfl (by decide)
  clear F
  (try simp (maxSteps := 1000000) (disch := first | omega | assumption | exact Nat.le_of_ble_eq_true rfl) only [go_sem, ↓mwp_block, simprocAttr])
  refine call_intro (OUnits_ok (c1C g) (fun h' S => ⟨Arr.nil _ _ _ _, (fun o ho => by cases ho), S.arr Sup.enc_len, Arr.nil _ _ _ _⟩) (c1_wf g) (by simp [c1C]) (by simp [c1C]) (by simp [c1C]) (fun o ho => by cases ho) S) ?_
  clear S
  rintro _ h' (⟨hn, _⟩ | ⟨_, s, rfl, S⟩)
  · exact (hn (c1_ok g)).elim
  obtain ⟨A, c, rfl⟩ := S.sl
  have hl : (unitsAll (c1C g)).length = 3 := rfl
  rw [hl] at S ⊢
  (try simp (maxSteps := 1000000) (disch := first | omega | assumption | exact Nat.le_of_ble_eq_true rfl) only [go_sem, ↓mwp_block, simprocAttr])
  refine call_intro (ORight_ok c0C ⟨Arr.nil _ _ _ _, (fun o ho => by cases ho), Arr.nil _ _ _ _, Arr.nil _ _ _ _⟩ ⟨by decide, by decide, by decide, by decide, by decide, by decide, fun o ho => by cases ho⟩ (by decide) (by decide) (by decide) (fun o ho => by cases ho)) ?_
  rintro _ h' ⟨rfl, hf⟩
  rw [dcd_true c0_ok]
  (try simp (maxSteps := 1000000) (disch := first | omega | assumption | exact Nat.le_of_ble_eq_true rfl) only [go_sem, ↓mwp_block, simprocAttr])
  exact hK _ _ ⟨rfl, (S.frame hf).fr⟩
theorem OrderUnits_ok (C : Cfg) (h0 : Heap) (hC : C.ok h0) :
    CallsH Try.prog 3 [.agg C.enc.toArray] h0 fun v h' => v = .bool true ∧ Fr h0 h' [] := by
  obtain ⟨r, w⟩ := hC
  have S := St.nil h0
  have r' : ∀ {l : List HP} (h' : Heap), St h0 h' l → C.rd h' := fun h' S => r.fr S.fr
  (refine enterK c_recouplaw10_OrderUnits (Nat.le_of_ble_eq_true rfl) fun K hK => ?_; (try simp (maxSteps := 1000000) (disch := first | omega | assumption | exact Nat.le_of_ble_eq_true rfl) only [go_sem, ↓mwp_block, simprocAttr, ir_recouplaw10_OrderUnits]))
  (refine st_alloc S ?_; clear S; intro g h S; (try simp only [splice_cons, splice_nil, List.set_cons_zero, List.set_cons_succ, Nat.zero_add, Nat.reduceAdd, List.cons_append, List.nil_append] at S); ((try clear F); have F := S.all; (try simp only [all_cons, all_nil, says_cell, and_true] at F)))
  (try simp (maxSteps := 1000000) (disch := first | omega | assumption | exact Nat.le_of_ble_eq_true rfl) only [go_sem, ↓mwp_block, simprocAttr])
  refine call_intro (awake10_ok _) ?_
  rintro _ h ⟨rfl, f1⟩
  have S := S.frame f1
  ((try clear F); have F := S.all; (try simp only [all_cons, all_nil, says_cell, and_true] at F))
  (try simp (maxSteps := 1000000) (disch := first | omega | assumption | exact Nat.le_of_ble_eq_true rfl) only [go_sem, ↓mwp_block, simprocAttr, F])
  refine call_intro (Few_ok C (r' _ S) w) ?_
  rintro _ h ⟨rfl, f2⟩
  have S := S.frame f2
  clear f1 f2
  by_cases hfew : fewC C
  case neg =>
    rw [dcd_false hfew]
    (try simp (maxSteps := 1000000) (disch := first | omega | assumption | exact Nat.le_of_ble_eq_true rfl) only [go_sem, ↓mwp_block, simprocAttr])
    refine call_intro (awake10_ok _) ?_
    rintro _ h' ⟨rfl, f2⟩
    (try simp (maxSteps := 1000000) (disch := first | omega | assumption | exact Nat.le_of_ble_eq_true rfl) only [go_sem, ↓mwp_block, simprocAttr])
    exact hK _ _ ⟨rfl, (S.frame f2).fr⟩
  rw [dcd_true hfew]
  obtain ⟨l1, l2, l3, l4⟩ := hfew
  have l4' : ∀ o ∈ C.os, o.ls.length < 1000000 := fun o ho => by have := l4 o ho; omega
  ((try clear F); have F := S.all; (try simp only [all_cons, all_nil, says_cell, and_true] at F))
  (try simp (maxSteps := 1000000) (disch := first | omega | assumption | exact Nat.le_of_ble_eq_true rfl) only [go_sem, ↓mwp_block, simprocAttr, F])
  refine call_intro (OUnits_ok C r' w (by omega) (by omega) (by omega) l4' S) ?_
  clear S F
  rintro _ h (⟨hok, rfl, S⟩ | ⟨hok, s, rfl, S⟩)
  · ((try clear F); have F := S.all; (try simp only [all_cons, all_nil, says_cell, and_true] at F))
    (try simp (maxSteps := 1000000) (disch := first | omega | assumption | exact Nat.le_of_ble_eq_true rfl) only [go_sem, ↓mwp_block, simprocAttr, F])
    refine call_intro (RightConfig_ok C (r' _ S) (by omega) (by omega) (by omega) l4') ?_
    rintro _ h ⟨rfl, f2⟩
    have S := S.frame f2
    rw [dcd_false hok]
    ((try clear F); have F := S.all; (try simp only [all_cons, all_nil, says_cell, and_true] at F))
    (try simp (maxSteps := 1000000) (disch := first | omega | assumption | exact Nat.le_of_ble_eq_true rfl) only [go_sem, ↓mwp_block, simprocAttr, F])
    refine call_intro (ORight_ok C (r' _ S) w (by omega) (by omega) (by omega) l4') ?_
    rintro _ h ⟨rfl, f2⟩
    have S := S.frame f2
    rw [dcd_false hok]
    (try simp (maxSteps := 1000000) (disch := first | omega | assumption | exact Nat.le_of_ble_eq_true rfl) only [go_sem, ↓mwp_block, simprocAttr])
    exact hK _ _ ⟨rfl, S.fr⟩
  · obtain ⟨A, c, rfl⟩ := S.sl
    ((try clear F); have F := S.all; (try simp only [all_cons, all_nil, says_cell, and_true] at F))
    (try simp (maxSteps := 1000000) (disch := first | omega | assumption | exact Nat.le_of_ble_eq_true rfl) only [go_sem, ↓mwp_block, simprocAttr, F])
    refine call_intro (RightConfig_ok C (r' _ S) (by omega) (by omega) (by omega) l4') ?_
    rintro _ h ⟨rfl, f2⟩
    have S := S.frame f2
    rw [dcd_true hok]
    ((try clear F); have F := S.all; (try simp only [all_cons, all_nil, says_cell, and_true] at F))
    (try simp (maxSteps := 1000000) (disch := first | omega | assumption | exact Nat.le_of_ble_eq_true rfl) only [go_sem, ↓mwp_block, simprocAttr, F])
    refine call_intro (RUnits_ok C r' hok S) ?_
    clear S F
    intro v h S
    obtain ⟨B, d, rfl⟩ := S.sl
    ((try clear F); have F := S.all; (try simp only [all_cons, all_nil, says_cell, and_true] at F))
    (try simp (maxSteps := 1000000) (disch := first | omega | assumption | exact Nat.le_of_ble_eq_true rfl) only [go_sem, ↓mwp_block, simprocAttr, F])
    refine call_intro (ORight_ok C (r' _ S) w (by omega) (by omega) (by omega) l4') ?_
    rintro _ h ⟨rfl, f2⟩
    have S := S.frame f2
    rw [dcd_true hok]
    (try simp (maxSteps := 1000000) (disch := first | omega | assumption | exact Nat.le_of_ble_eq_true rfl) only [go_sem, ↓mwp_block, simprocAttr])
    have hul := (unitsAll_len hok).2
    refine loop_intro (fun ρ h' => h' = h ∧ ρ 3 = .slice A (unitsAll C).length c ∧ ρ 5 = .slice B (unitsAll C).length d ∧ ρ 52 = .int .i64 (unitsAll C).length ∧ ∃ i : Nat, ρ 53 = .int .i64 i ∧ i ≤ (unitsAll C).length) (fun ρ _ => (unitsAll C).length - (iv (ρ 53)).toNat) ?_ ?_
    · (try simp (maxSteps := 1000000) (disch := first | omega | assumption | exact Nat.le_of_ble_eq_true rfl) only [go_sem, ↓mwp_block, simprocAttr])
      exact ⟨0, rfl, by omega⟩
    rintro ρ h' J hJ ⟨rfl, e3, e5, e52, i, e53, hi⟩
    (try simp (maxSteps := 1000000) (disch := first | omega | assumption | exact Nat.le_of_ble_eq_true rfl) only [go_sem, ↓mwp_block, simprocAttr, e52, e53])
    refine cond_dec (fun hlt => ?_) (fun hlt => ?_)
    · have hil : i < (unitsAll C).length := by omega
      obtain ⟨b1, o1, rfl, q1⟩ := (S.p1.arr Unt.enc_len).at hil
      obtain ⟨b2, o2, rfl, q2⟩ := (S.arr Unt.enc_len).at hil
      (try simp (maxSteps := 1000000) (disch := first | omega | assumption | exact Nat.le_of_ble_eq_true rfl) only [go_sem, ↓mwp_block, simprocAttr])
      refine draw_eq ?_
      (try simp (maxSteps := 1000000) (disch := first | omega | assumption | exact Nat.le_of_ble_eq_true rfl) only [go_sem, ↓mwp_block, simprocAttr, e3, e5, e53, q1, q2, Unt.enc, beq_self_eq_true])
      refine hJ _ _ ?_ ?_
      · (try simp (maxSteps := 1000000) (disch := first | omega | assumption | exact Nat.le_of_ble_eq_true rfl) only [go_sem, ↓mwp_block, simprocAttr, e3, e5, e52])
        exact ⟨i + 1, rfl, by omega⟩
      · (try simp (maxSteps := 1000000) (disch := first | omega | assumption | exact Nat.le_of_ble_eq_true rfl) only [go_sem, ↓mwp_block, simprocAttr, e53])
        omega
    · (try simp (maxSteps := 1000000) (disch := first | omega | assumption | exact Nat.le_of_ble_eq_true rfl) only [go_sem, ↓mwp_block, simprocAttr])
      exact hK _ _ ⟨rfl, S.fr⟩
end Go.Proofs.Ytblalmgahfbalaa.MX

/- Orders: what the shares of an order come to, in plain words. -/
namespace Go.Proofs.Ytblalmgahfbalaa.MX
open Go Go.Proofs
set_option linter.unusedSimpArgs false
set_option linter.unusedVariables false
set_option maxHeartbeats 4000000
theorem perm_sum {α : Type} (f : α → Nat) {a b : List α} (h : a.Perm b) : (a.map f).sum = (b.map f).sum := by
  induction h with
  | nil => rfl
  | cons x _ ih => simp only [List.map_cons, List.sum_cons, ih]
  | swap x y l => simp only [List.map_cons, List.sum_cons]; omega
  | trans _ _ ih1 ih2 => rw [ih1, ih2]
theorem sum_le_mul {α : Type} (f : α → Nat) (M : Nat) : ∀ {T : List α}, (∀ z ∈ T, f z ≤ M) → (T.map f).sum ≤ T.length * M ∧ ∀ x ∈ T, f x = 0 → (T.map f).sum + M ≤ T.length * M
  | [], _ => ⟨by simp, fun x hx => by cases hx⟩
  | y :: T, h => by
    obtain ⟨h1, h2⟩ := sum_le_mul f M (T := T) fun z hz => h z (by simp [hz])
    have hy := h y (by simp)
    simp only [List.map_cons, List.sum_cons, List.length_cons, Nat.succ_mul]
    refine ⟨by omega, fun x hx h0 => ?_⟩
    rcases List.mem_cons.1 hx with rfl | hx
    · omega
    · have := h2 x hx h0; omega
theorem IsShares.le {sum all : Nat} {ws : List Nat} {out : List Int} (H : IsShares sum all ws out) (hall : 0 < all) (he : ws.sum = all) (hle : sum ≤ all) : ∀ i (hi : i < ws.length), out.getD i 0 ≤ (ws[i] : Nat) := by
  obtain ⟨Z, hp, hs, rfl⟩ := H
  obtain ⟨hl1, hl2⟩ := left_law hall he (sum := sum)
  have hZl : Z.length = ws.length := by rw [hp.length_eq, natsI_len]
  have hql : ((quoW sum all ws).map Int.ofNat).length = ws.length := by rw [List.length_map, quoW_len]
  have hZd : ∀ z ∈ Z, 0 ≤ z ∧ z < (((quoW sum all ws).map Int.ofNat).length : Int) := fun z hz => by rw [hql]; exact natsI_mem.1 (hp.mem_iff.1 hz)
  have hZn : Z.Nodup := hp.nodup_iff.2 (natsI_nodup _)
  have htd : ∀ z ∈ Z.take (sum - (quoW sum all ws).sum), 0 ≤ z ∧ z < (((quoW sum all ws).map Int.ofNat).length : Int) := fun z hz => hZd z (List.mem_of_mem_take hz)
  have hg := bump_get _ _ (hZn.sublist (List.take_sublist (sum - (quoW sum all ws).sum) Z)) htd
  intro i hi
  have hq : ((quoW sum all ws).map Int.ofNat).getD i 0 = ((sum * ws[i] / all : Nat) : Int) := by
    rw [List.getD_eq_getElem?_getD, List.getElem?_eq_getElem (by rw [hql]; exact hi)]
    simp only [quoW, List.getElem_map]
    rfl
  rw [hg i (by rw [hql]; exact hi), hq]
  have hqr := quo_rest sum all ws
  rw [he] at hqr
  by_cases c1 : sum = all
  · have hqw : quoW sum all ws = ws := by
      rw [quoW, c1]
      conv => rhs; rw [← List.map_id ws]
      exact List.map_congr_left fun w _ => by rw [Nat.mul_comm, Nat.mul_div_cancel _ hall]; rfl
    rw [hqw, he, c1, Nat.sub_self, List.take_zero, if_neg (by simp), Nat.mul_comm, Nat.mul_div_cancel _ hall]
    omega
  · by_cases c2 : ws[i] = 0
    · rw [if_neg, c2, Nat.mul_zero, Nat.zero_div]
      · simp
      · intro hm
        have hr0 : (restW sum all ws).getD ((i : Int).toNat) 0 = 0 := by
          simp only [Int.toNat_natCast, restW, List.getD_eq_getElem?_getD, List.getElem?_map, List.getElem?_eq_getElem hi, c2]
          simp
        have hrl : ∀ z : Int, (restW sum all ws).getD z.toNat 0 ≤ all - 1 := fun z => by
          rw [List.getD_eq_getElem?_getD, restW, List.getElem?_map]
          cases ws[z.toNat]? with
          | none => simp
          | some w =>
            have := Nat.mod_lt (sum * w) hall
            simp only [Option.map_some, Option.getD_some]
            omega
        have hsz : (Z.map fun z : Int => (restW sum all ws).getD z.toNat 0).sum = (restW sum all ws).sum := by
          rw [perm_sum _ hp]
          congr 1
          apply List.ext_getElem
          · simp [natsI, restW]
          · intro k h1 h2
            simp only [natsI, List.getElem_map, List.getElem_range]
            show (restW sum all ws).getD ((k : Int).toNat) 0 = _
            rw [Int.toNat_natCast, List.getD_eq_getElem?_getD, List.getElem?_eq_getElem h2]
            rfl
        have hcut : (Z.map fun z : Int => (restW sum all ws).getD z.toNat 0).sum = ((Z.take (sum - (quoW sum all ws).sum)).map fun z : Int => (restW sum all ws).getD z.toNat 0).sum + ((Z.drop (sum - (quoW sum all ws).sum)).map fun z : Int => (restW sum all ws).getD z.toNat 0).sum := by
          conv => lhs; rw [← List.take_append_drop (sum - (quoW sum all ws).sum) Z, List.map_append, List.sum_append]
        have hdr : ∀ z ∈ Z.drop (sum - (quoW sum all ws).sum), (restW sum all ws).getD z.toNat 0 ≤ 0 := fun z hz => by
          rw [← List.take_append_drop (sum - (quoW sum all ws).sum) Z] at hs
          have hrk := (List.pairwise_append.1 hs).2.2 _ hm z hz
          unfold Rk at hrk
          simp only at hrk
          omega
        have h3 := (sum_le_mul (fun z : Int => (restW sum all ws).getD z.toNat 0) 0 hdr).1
        have h4 := (sum_le_mul (fun z : Int => (restW sum all ws).getD z.toNat 0) (all - 1) (T := Z.take (sum - (quoW sum all ws).sum)) fun z _ => hrl z).2 _ hm hr0
        rw [List.length_take, Nat.min_eq_left (by omega)] at h4
        obtain ⟨d, hd⟩ : ∃ d, sum = (quoW sum all ws).sum + d := ⟨sum - (quoW sum all ws).sum, by omega⟩
        have hd2 : sum - (quoW sum all ws).sum = d := by omega
        rw [hd2] at h3 h4 hcut hm
        obtain ⟨m, hm1⟩ : ∃ m, all = m + 1 := ⟨all - 1, by omega⟩
        have h5 : d * all = (restW sum all ws).sum := by
          have h6 : sum * all = (quoW sum all ws).sum * all + d * all := by
            conv => lhs; rw [hd, Nat.add_mul]
          omega
        rw [hsz] at hcut
        have h7 : d * all = d * (all - 1) + d := by rw [hm1, Nat.add_sub_cancel, Nat.mul_succ]
        have h8 : d = 0 := by omega
        rw [h8] at hm
        simp at hm
    · have hlt : sum * ws[i] < all * ws[i] := Nat.mul_lt_mul_of_pos_right (by omega) (by omega)
      have hq2 : sum * ws[i] / all < ws[i] := (Nat.div_lt_iff_lt_mul hall).2 (by rw [Nat.mul_comm (ws[i])]; exact hlt)
      split <;> omega
theorem shF_le {s : Nat} {P : List Int} (hask : askE s P = 0) (hle : (s : Int) ≤ P.sum) {k : Nat} (hk : k < P.length) (hk2 : k < (shF s P).length) : (shF s P)[k] ≤ P[k] := by
  obtain ⟨hw0, hw1, hf, hs0, hs1, hs2, hs3⟩ := ask0 hask
  by_cases hz : P.sum = 0
  · have h0 : s = 0 := by omega
    have := (shF_len hask).2.2 _ (List.getElem_mem hk2)
    have hp := (hf _ (List.getElem_mem hk)).1
    omega
  · obtain ⟨hep, _⟩ := effW_pos hask
    have he : effW P = P.map Int.toNat := by unfold effW; rw [if_neg hz]
    have hsum := sumI (P.map Int.toNat)
    rw [toNat_back hf] at hsum
    have hb := (shF_is s P).le hep rfl (by rw [he]; omega) k (by rw [effW_len]; exact hk)
    rw [List.getD_eq_getElem?_getD, List.getElem?_eq_getElem hk2] at hb
    simp only [Option.getD_some, he, List.getElem_map] at hb
    have hp := (hf _ (List.getElem_mem hk)).1
    omega
theorem addS_sum {sg : Int} : ∀ {sh : List Int} {U : List Unt}, sh.length = U.length → ((addS sg sh U).map Unt.share).sum = (U.map Unt.share).sum + sg * sh.sum
  | [], [], _ => by simp [addS]
  | x :: sh, u :: U, h => by
    have := addS_sum (sg := sg) (sh := sh) (U := U) (by simpa using h)
    simp only [addS, List.zipWith_cons_cons, List.map_cons, List.sum_cons] at this ⊢
    rw [this, Int.mul_add]
    omega
  | [], u :: U, h => by simp at h
  | x :: sh, [], h => by simp at h
theorem addS_ord {sg : Int} {sh : List Int} {U : List Unt} {i : Int} (h : ∀ u ∈ U, u.ord = i) : ∀ u ∈ addS sg sh U, u.ord = i := by
  intro u hu
  obtain ⟨k, hk, rfl⟩ := List.getElem_of_mem hu
  simp only [addS, List.getElem_zipWith]
  exact h _ (List.getElem_mem _)
theorem unitsR_ord (o : Odr) (i : Int) : ∀ r, ∀ u ∈ unitsR o i r, u.ord = i
  | 0 => fun u hu => by
    simp only [unitsR, expandU, List.mem_flatMap, linU, List.mem_replicate] at hu
    obtain ⟨l, _, _, rfl⟩ := hu
    rfl
  | r + 1 => addS_ord (unitsR_ord o i r)
theorem unitsOf_sum {o : Odr} (h : OkO o) (i : Int) : ((unitsOf o i).map Unt.share).sum = allOf o.ls - o.disc + o.tax + o.ship := by
  obtain ⟨h1, h2, h3⟩ := len_sum o.ls h.count
  have hl := unitsR_len h i
  rw [unitsOf, unitsR, addS_sum (by rw [(h.sh 2).1, hl]), (h.sh 2).2.1, unitsR, addS_sum (by rw [(h.sh 1).1, hl]), (h.sh 1).2.1, unitsR, addS_sum (by rw [(h.sh 0).1, hl]), (h.sh 0).2.1, unitsR, (h3 i).2, h2]
  simp only [psgn, psum]
  omega
theorem unitsOf_nn {o : Odr} (h : OkO o) (i : Int) : ∀ u ∈ unitsOf o i, 0 ≤ u.share ∧ u.share ≤ 4294967296 := by
  intro u hu
  refine ⟨?_, by have := (unitsR_bound h i 3 u hu).2; omega⟩
  obtain ⟨k, hk, rfl⟩ := List.getElem_of_mem hu
  have hl := unitsR_len h i 3
  have hv := (len_sum o.ls h.count).2.2 i
  have hk' : k < (priceL o.ls).length := by rw [← hl]; exact hk
  have e0 : (psum o 0).toNat = o.disc.toNat := rfl
  have e1 : (psum o 1).toNat = o.tax.toNat := rfl
  have e2 : (psum o 2).toNat = o.ship.toNat := rfl
  have h0 := h.sh 0
  have h1 := h.sh 1
  have h2 := h.sh 2
  rw [e0] at h0
  rw [e1] at h1
  rw [e2] at h2
  rw [unitsOf_at h i (by omega) (by omega) (by omega) (by omega) hk]
  have b1 := h1.2.2 _ (List.getElem_mem (l := shF o.tax.toNat (priceL o.ls)) (n := k) (by omega))
  have b2 := h2.2.2 _ (List.getElem_mem (l := shF o.ship.toNat (priceL o.ls)) (n := k) (by omega))
  have hask := h.ask h.disc
  have hd0 := h.disc.1
  rw [← Int.toNat_of_nonneg hd0] at hask
  have b0 := shF_le hask (by rw [(len_sum o.ls h.count).2.1, Int.toNat_of_nonneg hd0]; exact h.le) hk' (by omega)
  have hp : ((expandU i o.ls)[k]'(by omega)).share = (priceL o.ls)[k] := by
    have := hv.2
    simp only [← this, List.getElem_map]
  show 0 ≤ ((expandU i o.ls)[k]'(by omega)).share - _ + _ + _
  rw [hp]
  omega
/-- What the units of an order's number have. -/
def sumAt (i : Int) (L : List Unt) : Int := (L.map fun u => if u.ord = i then u.share else 0).sum
theorem sumAt_app (i : Int) (a b : List Unt) : sumAt i (a ++ b) = sumAt i a + sumAt i b := by simp [sumAt]
theorem sumAt_all {i : Int} : ∀ {L : List Unt}, (∀ u ∈ L, u.ord = i) → sumAt i L = (L.map Unt.share).sum
  | [], _ => rfl
  | u :: L, h => by
    have := sumAt_all (L := L) fun v hv => h v (by simp [hv])
    simp only [sumAt, List.map_cons, List.sum_cons] at this ⊢
    rw [if_pos (h u (by simp)), this]
theorem sumAt_no {i : Int} : ∀ {L : List Unt}, (∀ u ∈ L, u.ord ≠ i) → sumAt i L = 0
  | [], _ => rfl
  | u :: L, h => by
    have := sumAt_no (L := L) fun v hv => h v (by simp [hv])
    simp only [sumAt, List.map_cons, List.sum_cons] at this ⊢
    rw [if_neg (h u (by simp)), this]; rfl
theorem ordsU_ord : ∀ (os : List Odr) (j : Nat), ∀ u ∈ ordsU j os, (j : Int) ≤ u.ord
  | [], j, u, hu => by cases hu
  | o :: os, j, u, hu => by
    rw [ordsU, List.mem_append] at hu
    rcases hu with hu | hu
    · have := unitsR_ord o j 3 u hu; omega
    · have := ordsU_ord os (j + 1) u hu; omega
theorem sumAt_ords : ∀ (os : List Odr) (j i : Nat) (hi : i < os.length), sumAt ((j + i : Nat) : Int) (ordsU j os) = ((unitsOf os[i] ((j + i : Nat) : Int)).map Unt.share).sum
  | o :: os, j, 0, _ => by
    have h1 : sumAt ((j + 0 : Nat) : Int) (unitsOf o j) = ((unitsOf o j).map Unt.share).sum := sumAt_all (unitsR_ord o j 3)
    rw [ordsU, sumAt_app, h1, sumAt_no (fun u hu => by have := ordsU_ord os (j + 1) u hu; omega)]
    simp
  | o :: os, j, i + 1, hi => by
    have := sumAt_ords os (j + 1) i (by simpa using hi)
    rw [show j + 1 + i = j + (i + 1) by omega] at this
    have h1 : sumAt ((j + (i + 1) : Nat) : Int) (unitsOf o j) = 0 := sumAt_no (fun u hu => by have := unitsR_ord o j 3 u hu; omega)
    rw [ordsU, sumAt_app, h1, this]
    simp
theorem sumAt_units {C : Cfg} (hok : okCfg C) (i : Nat) (hi : i < C.os.length) : sumAt i (unitsAll C) = allOf C.os[i].ls - C.os[i].disc + C.os[i].tax + C.os[i].ship := by
  have h1 := sumAt_ords C.os 0 i hi
  rw [Nat.zero_add] at h1
  rw [unitsAll, sumAt_app, h1, unitsOf_sum (hok.okO _ (List.getElem_mem hi)), sumAt_no]
  · omega
  · intro u hu
    simp only [List.mem_flatMap, supU, List.mem_replicate] at hu
    obtain ⟨s, _, _, rfl⟩ := hu
    show (-1 : Int) ≠ _
    omega
theorem units_nn {C : Cfg} (hok : okCfg C) : ∀ u ∈ unitsAll C, 0 ≤ u.share ∧ u.share ≤ 4294967296 := by
  intro u hu
  rw [unitsAll, List.mem_append] at hu
  rcases hu with hu | hu
  · have : ∀ (os : List Odr) (j : Nat), (∀ o ∈ os, OkO o) → ∀ u ∈ ordsU j os, 0 ≤ u.share ∧ u.share ≤ 4294967296 := by
      intro os
      induction os with
      | nil => intro j _ u hu; cases hu
      | cons o os ih =>
        intro j h u hu
        rw [ordsU, List.mem_append] at hu
        rcases hu with hu | hu
        · exact unitsOf_nn (h o (by simp)) j u hu
        · exact ih (j + 1) (fun x hx => h x (by simp [hx])) u hu
    exact this C.os 0 hok.okO u hu
  · simp only [List.mem_flatMap, supU, List.mem_replicate] at hu
    obtain ⟨s, hs, _, rfl⟩ := hu
    have := (hok.2.2.2.2.1.1 s hs).2.1
    exact ⟨this.1, by have := this.2; show s.price ≤ _; omega⟩
theorem sumAt_snoc (i : Int) {L : List Unt} {k : Nat} (hk : k < L.length) : sumAt i (L.take (k + 1)) = sumAt i (L.take k) + if L[k].ord = i then L[k].share else 0 := by
  rw [List.take_succ_eq_append_getElem hk, sumAt_app]
  simp [sumAt]
theorem sumAt_bound (i : Int) : ∀ {L : List Unt}, (∀ u ∈ L, 0 ≤ u.share ∧ u.share ≤ 4294967296) → 0 ≤ sumAt i L ∧ sumAt i L ≤ 4294967296 * L.length
  | [], _ => by simp [sumAt]
  | u :: L, h => by
    have h1 := sumAt_bound i (L := L) fun v hv => h v (by simp [hv])
    have h2 := h u (by simp)
    simp only [sumAt, List.map_cons, List.sum_cons, List.length_cons] at h1 ⊢
    split <;> omega
end Go.Proofs.Ytblalmgahfbalaa.MX
