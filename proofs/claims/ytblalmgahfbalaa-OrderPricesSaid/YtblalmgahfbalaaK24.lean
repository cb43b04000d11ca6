/- Texts in one file: Od9. -/
import Derived.Test.YtblalmgahfbalaaK23

/- Orders: the law OrderUnits. -/
namespace Go.Proofs.Ytblalmgahfbalaa.MX
open Go Go.Proofs
set_option linter.unusedSimpArgs false
set_option linter.unusedVariables false
set_option maxHeartbeats 8000000
def fewC (C : Cfg) : Prop := C.os.length ≤ 40 ∧ C.ss.length ≤ 40 ∧ C.ps.length ≤ 40 ∧ ∀ o ∈ C.os, o.ls.length ≤ 20
theorem Few_ok {h0 : Heap} (C : Cfg) (r : C.rd h0) (w : C.wf) :
    CallsH Try.prog 9 [.agg C.enc.toArray] h0 fun v h' => v = .bool (dcd (fewC C)) ∧ Fr h0 h' [] := by
  have S := St.nil h0
  have r' : ∀ {h' : Heap} {l : List HP}, St h0 h' l → C.rd h' := fun S => r.fr S.fr
  have hw := w.l1
  have hw2 := w.m1
  by_cases d1 : 40 < (C.os.length : Int)
  · (refine enterK c_recouplaw10_Few (Nat.le_of_ble_eq_true rfl) fun K hK => ?_; (try simp (maxSteps := 1000000) (disch := first | omega | assumption | exact Nat.le_of_ble_eq_true rfl) only [go_sem, ↓mwp_block, simprocAttr, ir_recouplaw10_Few]))
    (refine st_alloc S ?_; clear S; intro g h S; (try simp only [splice_cons, splice_nil, List.set_cons_zero, List.set_cons_succ, Nat.zero_add, Nat.reduceAdd, List.cons_append, List.nil_append] at S); ((try clear F); have F := S.all; (try simp only [all_cons, all_nil, says_cell, and_true] at F)))
    (try simp (maxSteps := 1000000) (disch := first | omega | assumption | exact Nat.le_of_ble_eq_true rfl) only [go_sem, ↓mwp_block, simprocAttr, F, Cfg.enc, d1])
    exact hK _ _ ⟨by rw [dcd_false (fun h => by have := h.1; omega)], S.fr⟩
  by_cases d2 : 40 < (C.ss.length : Int)
  · (refine enterK c_recouplaw10_Few (Nat.le_of_ble_eq_true rfl) fun K hK => ?_; (try simp (maxSteps := 1000000) (disch := first | omega | assumption | exact Nat.le_of_ble_eq_true rfl) only [go_sem, ↓mwp_block, simprocAttr, ir_recouplaw10_Few]))
    (refine st_alloc S ?_; clear S; intro g h S; (try simp only [splice_cons, splice_nil, List.set_cons_zero, List.set_cons_succ, Nat.zero_add, Nat.reduceAdd, List.cons_append, List.nil_append] at S); ((try clear F); have F := S.all; (try simp only [all_cons, all_nil, says_cell, and_true] at F)))
    (try simp (maxSteps := 1000000) (disch := first | omega | assumption | exact Nat.le_of_ble_eq_true rfl) only [go_sem, ↓mwp_block, simprocAttr, F, Cfg.enc, d1, d2])
    exact hK _ _ ⟨by rw [dcd_false (fun h => by have := h.2.1; omega)], S.fr⟩
  by_cases d3 : 40 < (C.ps.length : Int)
  · (refine enterK c_recouplaw10_Few (Nat.le_of_ble_eq_true rfl) fun K hK => ?_; (try simp (maxSteps := 1000000) (disch := first | omega | assumption | exact Nat.le_of_ble_eq_true rfl) only [go_sem, ↓mwp_block, simprocAttr, ir_recouplaw10_Few]))
    (refine st_alloc S ?_; clear S; intro g h S; (try simp only [splice_cons, splice_nil, List.set_cons_zero, List.set_cons_succ, Nat.zero_add, Nat.reduceAdd, List.cons_append, List.nil_append] at S); ((try clear F); have F := S.all; (try simp only [all_cons, all_nil, says_cell, and_true] at F)))
    (try simp (maxSteps := 1000000) (disch := first | omega | assumption | exact Nat.le_of_ble_eq_true rfl) only [go_sem, ↓mwp_block, simprocAttr, F, Cfg.enc, d1, d2, d3])
    exact hK _ _ ⟨by rw [dcd_false (fun h => by have := h.2.2.1; omega)], S.fr⟩
  (refine enterK c_recouplaw10_Few (Nat.le_of_ble_eq_true rfl) fun K hK => ?_; (try simp (maxSteps := 1000000) (disch := first | omega | assumption | exact Nat.le_of_ble_eq_true rfl) only [go_sem, ↓mwp_block, simprocAttr, ir_recouplaw10_Few]))
  (refine st_alloc S ?_; clear S; intro g h S; (try simp only [splice_cons, splice_nil, List.set_cons_zero, List.set_cons_succ, Nat.zero_add, Nat.reduceAdd, List.cons_append, List.nil_append] at S); ((try clear F); have F := S.all; (try simp only [all_cons, all_nil, says_cell, and_true] at F)))
  (try simp (maxSteps := 1000000) (disch := first | omega | assumption | exact Nat.le_of_ble_eq_true rfl) only [go_sem, ↓mwp_block, simprocAttr, F, Cfg.enc, d1, d2, d3])
  refine loop_intro (fun ρ h' => ρ 1 = .pointer (some ⟨g, 0, none⟩) ∧ ρ 22 = .int .i64 C.os.length ∧ ∃ i : Nat, ρ 23 = .int .i64 i ∧ i ≤ C.os.length ∧ (∀ o ∈ C.os.take i, o.ls.length ≤ 20) ∧ St h0 h' [cellA g C.enc 26]) (fun ρ _ => C.os.length - (iv (ρ 23)).toNat) ?_ ?_
  · (try simp (maxSteps := 1000000) (disch := first | omega | assumption | exact Nat.le_of_ble_eq_true rfl) only [go_sem, ↓mwp_block, simprocAttr])
    exact ⟨0, rfl, by omega, by simp, S⟩
  clear S F
  rintro ρ h J hJ ⟨e1, e22, i, e23, hi, hok, S⟩
  (try simp (maxSteps := 1000000) (disch := first | omega | assumption | exact Nat.le_of_ble_eq_true rfl) only [go_sem, ↓mwp_block, simprocAttr, e22, e23])
  refine cond_dec (fun hlt => ?_) (fun hlt => ?_)
  · have hil : i < C.os.length := by omega
    obtain ⟨b, off, hA, hr1⟩ := (r' S).os.at hil
    have hmem := List.getElem_mem hil
    have htk : C.os[i].ls.length ≤ 20 → ∀ o ∈ C.os.take (i + 1), o.ls.length ≤ 20 := fun hx o ho => by
      rw [List.take_succ_eq_append_getElem hil] at ho
      rcases List.mem_append.1 ho with ho | ho
      · exact hok o ho
      · rw [List.mem_singleton] at ho; rw [ho]; exact hx
    generalize C.os[i] = o at *
    have hq1 := rd1_part hr1 1 (by omega)
    simp only [Odr.enc, List.getElem?_cons_zero, List.getElem?_cons_succ] at hq1
    ((try clear F); have F := S.all; (try simp only [all_cons, all_nil, says_cell, and_true] at F))
    by_cases d4 : 20 < (o.ls.length : Int)
    · (try simp (maxSteps := 1000000) (disch := first | omega | assumption | exact Nat.le_of_ble_eq_true rfl) only [go_sem, ↓mwp_block, simprocAttr, e1, e23, F, Cfg.enc, hA, hq1, d4])
      exact hK _ _ ⟨by rw [dcd_false (fun h => by have := h.2.2.2 _ hmem; omega)], S.fr⟩
    · (try simp (maxSteps := 1000000) (disch := first | omega | assumption | exact Nat.le_of_ble_eq_true rfl) only [go_sem, ↓mwp_block, simprocAttr, e1, e23, F, Cfg.enc, hA, hq1, d4])
      refine hJ _ _ ?_ ?_
      · (try simp (maxSteps := 1000000) (disch := first | omega | assumption | exact Nat.le_of_ble_eq_true rfl) only [go_sem, ↓mwp_block, simprocAttr, e1, e22])
        exact ⟨i + 1, rfl, by omega, htk (by omega), S⟩
      · (try simp (maxSteps := 1000000) (disch := first | omega | assumption | exact Nat.le_of_ble_eq_true rfl) only [go_sem, ↓mwp_block, simprocAttr, e23])
        omega
  · obtain rfl : i = C.os.length := by omega
    rw [List.take_length] at hok
    (try simp (maxSteps := 1000000) (disch := first | omega | assumption | exact Nat.le_of_ble_eq_true rfl) only [go_sem, ↓mwp_block, simprocAttr])
    exact hK _ _ ⟨by rw [dcd_true ⟨by omega, by omega, by omega, hok⟩], S.fr⟩
theorem unitsAll_len {C : Cfg} (hok : okCfg C) : ((unitsAll C).length : Int) = totOf C ∧ (unitsAll C).length ≤ 200 := by
  have h1 := ordsU_len (os := C.os) 0 hok.okO
  have h2 := supU_len hok.2.2.2.2.1.1
  have h3 := hok.2.2.2.2.2
  have ht : totOf C = ordSum C.os + supSum C.ss := rfl
  rw [unitsAll, List.length_append]
  omega
def c0C : Cfg := ⟨none, 0, [], none, 0, [], none, 0, []⟩
theorem c0_ok : okCfg c0C := ⟨⟨by decide, by simp [c0C]⟩, by decide, by decide, by simp [c0C], ⟨by simp [c0C], by simp [c0C]⟩, by decide⟩
def c1C (g : Nat) : Cfg := ⟨none, 0, [], some ⟨g, 0, none⟩, 1, [⟨1, 2, 3⟩], none, 0, []⟩
theorem c1_ok (g : Nat) : okCfg (c1C g) := ⟨⟨by simp [c1C], by simp [c1C]⟩, by simp [c1C], by simp [c1C], by simp [c1C], ⟨by simp [c1C, okSup, okSome, okPrice], by simp [c1C]⟩, by simp [c1C, totOf]⟩
theorem c1_wf (g : Nat) : (c1C g).wf := ⟨by simp [c1C], by simp [c1C], by simp [c1C], by simp [c1C], by simp [c1C], by simp [c1C], fun o ho => by cases ho⟩
theorem awake10_ok (h : Heap) : CallsH Try.prog 8 [] h fun v h' => v = .bool true ∧ Fr h h' [] := by
  have S := St.nil h
  (refine enterK c_recouplaw10_awake (Nat.le_of_ble_eq_true rfl) fun K hK => ?_; (try simp (maxSteps := 1000000) (disch := first | omega | assumption | exact Nat.le_of_ble_eq_true rfl) only [go_sem, ↓mwp_block, simprocAttr, ir_recouplaw10_awake]))
  (refine st_alloc S ?_; clear S; intro g h S; (try simp only [splice_cons, splice_nil, List.set_cons_zero, List.set_cons_succ, Nat.zero_add, Nat.reduceAdd, List.cons_append, List.nil_append] at S); ((try clear F); have F := S.all; (try simp only [all_cons, all_nil, says_cell, and_true] at F)))
  have S := S.cellOwn (enc := Sup.enc) (sz := 3) (ys := [⟨1, 2, 3⟩]) Sup.enc_len rfl (by decide)
  clear F
  (try simp (maxSteps := 1000000) (disch := first | omega | assumption | exact Nat.le_of_ble_eq_true rfl) only [go_sem, ↓mwp_block, simprocAttr])
  refine call_intro (OUnits_ok (c1C g) (fun h' S => ⟨Arr.nil _ _ _ _, (fun o ho => by cases ho), S.arr Sup.enc_len, Arr.nil _ _ _ _⟩) (c1_wf g) (by simp [c1C]) (by simp [c1C]) (by simp [c1C]) (fun o ho => by cases ho) S) ?_
  clear S
  rintro _ h' (⟨hn, _⟩ | ⟨_, s, rfl, S⟩)
  · exact (hn (c1_ok g)).elim
  obtain ⟨A, c, rfl⟩ := S.sl
  have hl : (unitsAll (c1C g)).length = 3 := rfl
  rw [hl] at S ⊢
  (try simp (maxSteps := 1000000) (disch := first | omega | assumption | exact Nat.le_of_ble_eq_true rfl) only [go_sem, ↓mwp_block, simprocAttr])
  refine call_intro (ORight_ok c0C ⟨Arr.nil _ _ _ _, (fun o ho => by cases ho), Arr.nil _ _ _ _, Arr.nil _ _ _ _⟩ ⟨by decide, by decide, by decide, by decide, by decide, by decide, fun o ho => by cases ho⟩ (by decide) (by decide) (by decide) (fun o ho => by cases ho)) ?_
  rintro _ h' ⟨rfl, hf⟩
  rw [dcd_true c0_ok]
  (try simp (maxSteps := 1000000) (disch := first | omega | assumption | exact Nat.le_of_ble_eq_true rfl) only [go_sem, ↓mwp_block, simprocAttr])
  exact hK _ _ ⟨rfl, (S.frame hf).fr⟩
theorem OrderUnits_ok (C : Cfg) (h0 : Heap) (hC : C.ok h0) :
    CallsH Try.prog 3 [.agg C.enc.toArray] h0 fun v h' => v = .bool true ∧ Fr h0 h' [] := by
  obtain ⟨r, w⟩ := hC
  have S := St.nil h0
  have r' : ∀ {l : List HP} (h' : Heap), St h0 h' l → C.rd h' := fun h' S => r.fr S.fr
  (refine enterK c_recouplaw10_OrderUnits (Nat.le_of_ble_eq_true rfl) fun K hK => ?_; (try simp (maxSteps := 1000000) (disch := first | omega | assumption | exact Nat.le_of_ble_eq_true rfl) only [go_sem, ↓mwp_block, simprocAttr, ir_recouplaw10_OrderUnits]))
  (refine st_alloc S ?_; clear S; intro g h S; (try simp only [splice_cons, splice_nil, List.set_cons_zero, List.set_cons_succ, Nat.zero_add, Nat.reduceAdd, List.cons_append, List.nil_append] at S); ((try clear F); have F := S.all; (try simp only [all_cons, all_nil, says_cell, and_true] at F)))
  (try simp (maxSteps := 1000000) (disch := first | omega | assumption | exact Nat.le_of_ble_eq_true rfl) only [go_sem, ↓mwp_block, simprocAttr])
  refine call_intro (awake10_ok _) ?_
  rintro _ h ⟨rfl, f1⟩
  have S := S.frame f1
  ((try clear F); have F := S.all; (try simp only [all_cons, all_nil, says_cell, and_true] at F))
  (try simp (maxSteps := 1000000) (disch := first | omega | assumption | exact Nat.le_of_ble_eq_true rfl) only [go_sem, ↓mwp_block, simprocAttr, F])
  refine call_intro (Few_ok C (r' _ S) w) ?_
  rintro _ h ⟨rfl, f2⟩
  have S := S.frame f2
  clear f1 f2
  by_cases hfew : fewC C
  case neg =>
    rw [dcd_false hfew]
    (try simp (maxSteps := 1000000) (disch := first | omega | assumption | exact Nat.le_of_ble_eq_true rfl) only [go_sem, ↓mwp_block, simprocAttr])
    refine call_intro (awake10_ok _) ?_
    rintro _ h' ⟨rfl, f2⟩
    (try simp (maxSteps := 1000000) (disch := first | omega | assumption | exact Nat.le_of_ble_eq_true rfl) only [go_sem, ↓mwp_block, simprocAttr])
    exact hK _ _ ⟨rfl, (S.frame f2).fr⟩
  rw [dcd_true hfew]
  obtain ⟨l1, l2, l3, l4⟩ := hfew
  have l4' : ∀ o ∈ C.os, o.ls.length < 1000000 := fun o ho => by have := l4 o ho; omega
  ((try clear F); have F := S.all; (try simp only [all_cons, all_nil, says_cell, and_true] at F))
  (try simp (maxSteps := 1000000) (disch := first | omega | assumption | exact Nat.le_of_ble_eq_true rfl) only [go_sem, ↓mwp_block, simprocAttr, F])
  refine call_intro (OUnits_ok C r' w (by omega) (by omega) (by omega) l4' S) ?_
  clear S F
  rintro _ h (⟨hok, rfl, S⟩ | ⟨hok, s, rfl, S⟩)
  · ((try clear F); have F := S.all; (try simp only [all_cons, all_nil, says_cell, and_true] at F))
    (try simp (maxSteps := 1000000) (disch := first | omega | assumption | exact Nat.le_of_ble_eq_true rfl) only [go_sem, ↓mwp_block, simprocAttr, F])
    refine call_intro (RightConfig_ok C (r' _ S) (by omega) (by omega) (by omega) l4') ?_
    rintro _ h ⟨rfl, f2⟩
    have S := S.frame f2
    rw [dcd_false hok]
    ((try clear F); have F := S.all; (try simp only [all_cons, all_nil, says_cell, and_true] at F))
    (try simp (maxSteps := 1000000) (disch := first | omega | assumption | exact Nat.le_of_ble_eq_true rfl) only [go_sem, ↓mwp_block, simprocAttr, F])
    refine call_intro (ORight_ok C (r' _ S) w (by omega) (by omega) (by omega) l4') ?_
    rintro _ h ⟨rfl, f2⟩
    have S := S.frame f2
    rw [dcd_false hok]
    (try simp (maxSteps := 1000000) (disch := first | omega | assumption | exact Nat.le_of_ble_eq_true rfl) only [go_sem, ↓mwp_block, simprocAttr])
    exact hK _ _ ⟨rfl, S.fr⟩
  · obtain ⟨A, c, rfl⟩ := S.sl
    ((try clear F); have F := S.all; (try simp only [all_cons, all_nil, says_cell, and_true] at F))
    (try simp (maxSteps := 1000000) (disch := first | omega | assumption | exact Nat.le_of_ble_eq_true rfl) only [go_sem, ↓mwp_block, simprocAttr, F])
    refine call_intro (RightConfig_ok C (r' _ S) (by omega) (by omega) (by omega) l4') ?_
    rintro _ h ⟨rfl, f2⟩
    have S := S.frame f2
    rw [dcd_true hok]
    ((try clear F); have F := S.all; (try simp only [all_cons, all_nil, says_cell, and_true] at F))
    (try simp (maxSteps := 1000000) (disch := first | omega | assumption | exact Nat.le_of_ble_eq_true rfl) only [go_sem, ↓mwp_block, simprocAttr, F])
    refine call_intro (RUnits_ok C r' hok S) ?_
    clear S F
    intro v h S
    obtain ⟨B, d, rfl⟩ := S.sl
    ((try clear F); have F := S.all; (try simp only [all_cons, all_nil, says_cell, and_true] at F))
    (try simp (maxSteps := 1000000) (disch := first | omega | assumption | exact Nat.le_of_ble_eq_true rfl) only [go_sem, ↓mwp_block, simprocAttr, F])
    refine call_intro (ORight_ok C (r' _ S) w (by omega) (by omega) (by omega) l4') ?_
    rintro _ h ⟨rfl, f2⟩
    have S := S.frame f2
    rw [dcd_true hok]
    (try simp (maxSteps := 1000000) (disch := first | omega | assumption | exact Nat.le_of_ble_eq_true rfl) only [go_sem, ↓mwp_block, simprocAttr])
    have hul := (unitsAll_len hok).2
    refine loop_intro (fun ρ h' => h' = h ∧ ρ 3 = .slice A (unitsAll C).length c ∧ ρ 5 = .slice B (unitsAll C).length d ∧ ρ 52 = .int .i64 (unitsAll C).length ∧ ∃ i : Nat, ρ 53 = .int .i64 i ∧ i ≤ (unitsAll C).length) (fun ρ _ => (unitsAll C).length - (iv (ρ 53)).toNat) ?_ ?_
    · (try simp (maxSteps := 1000000) (disch := first | omega | assumption | exact Nat.le_of_ble_eq_true rfl) only [go_sem, ↓mwp_block, simprocAttr])
      exact ⟨0, rfl, by omega⟩
    rintro ρ h' J hJ ⟨rfl, e3, e5, e52, i, e53, hi⟩
    (try simp (maxSteps := 1000000) (disch := first | omega | assumption | exact Nat.le_of_ble_eq_true rfl) only [go_sem, ↓mwp_block, simprocAttr, e52, e53])
    refine cond_dec (fun hlt => ?_) (fun hlt => ?_)
    · have hil : i < (unitsAll C).length := by omega
      obtain ⟨b1, o1, rfl, q1⟩ := (S.p1.arr Unt.enc_len).at hil
      obtain ⟨b2, o2, rfl, q2⟩ := (S.arr Unt.enc_len).at hil
      (try simp (maxSteps := 1000000) (disch := first | omega | assumption | exact Nat.le_of_ble_eq_true rfl) only [go_sem, ↓mwp_block, simprocAttr])
      refine draw_eq ?_
      (try simp (maxSteps := 1000000) (disch := first | omega | assumption | exact Nat.le_of_ble_eq_true rfl) only [go_sem, ↓mwp_block, simprocAttr, e3, e5, e53, q1, q2, Unt.enc, beq_self_eq_true])
      refine hJ _ _ ?_ ?_
      · (try simp (maxSteps := 1000000) (disch := first | omega | assumption | exact Nat.le_of_ble_eq_true rfl) only [go_sem, ↓mwp_block, simprocAttr, e3, e5, e52])
        exact ⟨i + 1, rfl, by omega⟩
      · (try simp (maxSteps := 1000000) (disch := first | omega | assumption | exact Nat.le_of_ble_eq_true rfl) only [go_sem, ↓mwp_block, simprocAttr, e53])
        omega
    · (try simp (maxSteps := 1000000) (disch := first | omega | assumption | exact Nat.le_of_ble_eq_true rfl) only [go_sem, ↓mwp_block, simprocAttr])
      exact hK _ _ ⟨rfl, S.fr⟩
end Go.Proofs.Ytblalmgahfbalaa.MX
