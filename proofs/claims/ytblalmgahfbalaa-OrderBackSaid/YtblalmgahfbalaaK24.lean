/- Texts in one file: Od9, In1. -/
import Derived.Test.YtblalmgahfbalaaK23
import Derived.Test.YtblalmgahfbalaaK11

/- Orders: the law OrderUnits. -/
namespace Go.Proofs.Ytblalmgahfbalaa.MX
open Go Go.Proofs
set_option linter.unusedSimpArgs false
set_option linter.unusedVariables false
set_option maxHeartbeats 8000000
def fewC (C : Cfg) : Prop := C.os.length ≤ 40 ∧ C.ss.length ≤ 40 ∧ C.ps.length ≤ 40 ∧ ∀ o ∈ C.os, o.ls.length ≤ 20
theorem Few_ok {h0 : Heap} (C : Cfg) (r : C.rd h0) (w : C.wf) :
    CallsH Try.prog 9 [.agg C.enc.toArray] h0 fun v h' => v = .bool (dcd (fewC C)) ∧ Fr h0 h' [] := by
  have S := St.nil h0
  have r' : ∀ {h' : Heap} {l : List HP}, St h0 h' l → C.rd h' := fun S => r.fr S.fr
  have hw := w.l1
  have hw2 := w.m1
  by_cases d1 : 40 < (C.os.length : Int)
  · (refine enterK c_recouplaw10_Few (Nat.le_of_ble_eq_true rfl) fun K hK => ?_; (try simp (maxSteps := 1000000) (disch := first | omega | assumption | exact Nat.le_of_ble_eq_true rfl) only [go_sem, ↓mwp_block, simprocAttr, ir_recouplaw10_Few]))
    (refine st_alloc S ?_; clear S; intro g h S; (try simp only [splice_cons, splice_nil, List.set_cons_zero, List.set_cons_succ, Nat.zero_add, Nat.reduceAdd, List.cons_append, List.nil_append] at S); ((try clear F); have F := S.all; (try simp only [all_cons, all_nil, says_cell, and_true] at F)))
    (try simp (maxSteps := 1000000) (disch := first | omega | assumption | exact Nat.le_of_ble_eq_true rfl) only [go_sem, ↓mwp_block, simprocAttr, F, Cfg.enc, d1])
    exact hK _ _ ⟨by rw [dcd_false (fun h => by have := h.1; omega)], S.fr⟩
  by_cases d2 : 40 < (C.ss.length : Int)
  · (refine enterK c_recouplaw10_Few (Nat.le_of_ble_eq_true rfl) fun K hK => ?_; (try simp (maxSteps := 1000000) (disch := first | omega | assumption | exact Nat.le_of_ble_eq_true rfl) only [go_sem, ↓mwp_block, simprocAttr, ir_recouplaw10_Few]))
    (refine st_alloc S ?_; clear S; intro g h S; (try simp only [splice_cons, splice_nil, List.set_cons_zero, List.set_cons_succ, Nat.zero_add, Nat.reduceAdd, List.cons_append, List.nil_append] at S); ((try clear F); have F := S.all; (try simp only [all_cons, all_nil, says_cell, and_true] at F)))
    (try simp (maxSteps := 1000000) (disch := first | omega | assumption | exact Nat.le_of_ble_eq_true rfl) only [go_sem, ↓mwp_block, simprocAttr, F, Cfg.enc, d1, d2])
    exact hK _ _ ⟨by rw [dcd_false (fun h => by have := h.2.1; omega)], S.fr⟩
  by_cases d3 : 40 < (C.ps.length : Int)
  · (refine enterK c_recouplaw10_Few (Nat.le_of_ble_eq_true rfl) fun K hK => ?_; (try simp (maxSteps := 1000000) (disch := first | omega | assumption | exact Nat.le_of_ble_eq_true rfl) only [go_sem, ↓mwp_block, simprocAttr, ir_recouplaw10_Few]))
    (refine st_alloc S ?_; clear S; intro g h S; (try simp only [splice_cons, splice_nil, List.set_cons_zero, List.set_cons_succ, Nat.zero_add, Nat.reduceAdd, List.cons_append, List.nil_append] at S); ((try clear F); have F := S.all; (try simp only [all_cons, all_nil, says_cell, and_true] at F)))
    (try simp (maxSteps := 1000000) (disch := first | omega | assumption | exact Nat.le_of_ble_eq_true rfl) only [go_sem, ↓mwp_block, simprocAttr, F, Cfg.enc, d1, d2, d3])
    exact hK _ _ ⟨by rw [dcd_false (fun h => by have := h.2.2.1; omega)], S.fr⟩
  (refine enterK c_recouplaw10_Few (Nat.le_of_ble_eq_true rfl) fun K hK => ?_; (try simp (maxSteps := 1000000) (disch := first | omega | assumption | exact Nat.le_of_ble_eq_true rfl) only [go_sem, ↓mwp_block, simprocAttr, ir_recouplaw10_Few]))
  (refine st_alloc S ?_; clear S; intro g h S; (try simp only [splice_cons, splice_nil, List.set_cons_zero, List.set_cons_succ, Nat.zero_add, Nat.reduceAdd, List.cons_append, List.nil_append] at S); ((try clear F); have F := S.all; (try simp only [all_cons, all_nil, says_cell, and_true] at F)))
  (try simp (maxSteps := 1000000) (disch := first | omega | assumption | exact Nat.le_of_ble_eq_true rfl) only [go_sem, ↓mwp_block, simprocAttr, F, Cfg.enc, d1, d2, d3])
  refine loop_intro (fun ρ h' => ρ 1 = .pointer (some ⟨g, 0, none⟩) ∧ ρ 22 = .int .i64 C.os.length ∧ ∃ i : Nat, ρ 23 = .int .i64 i ∧ i ≤ C.os.length ∧ (∀ o ∈ C.os.take i, o.ls.length ≤ 20) ∧ St h0 h' [cellA g C.enc 26]) (fun ρ _ => C.os.length - (iv (ρ 23)).toNat) ?_ ?_
  · (try simp (maxSteps := 1000000) (disch := first | omega | assumption | exact Nat.le_of_ble_eq_true rfl) only [go_sem, ↓mwp_block, simprocAttr])
    exact ⟨0, rfl, by omega, by simp, S⟩
  clear S F
  rintro ρ h J hJ ⟨e1, e22, i, e23, hi, hok, S⟩
  (try simp (maxSteps := 1000000) (disch := first | omega | assumption | exact Nat.le_of_ble_eq_true rfl) only [go_sem, ↓mwp_block, simprocAttr, e22, e23])
  refine cond_dec (fun hlt => ?_) (fun hlt => ?_)
  · have hil : i < C.os.length := by omega
    obtain ⟨b, off, hA, hr1⟩ := (r' S).os.at hil
    have hmem := List.getElem_mem hil
    have htk : C.os[i].ls.length ≤ 20 → ∀ o ∈ C.os.take (i + 1), o.ls.length ≤ 20 := fun hx o ho => by
      rw [List.take_succ_eq_append_getElem hil] at ho
      rcases List.mem_append.1 ho with ho | ho
      · exact hok o ho
      · rw [List.mem_singleton] at ho; rw [ho]; exact hx
    generalize C.os[i] = o at *
    have hq1 := rd1_part hr1 1 (by omega)
    simp only [Odr.enc, List.getElem?_cons_zero, List.getElem?_cons_succ] at hq1
    ((try clear F); have F := S.all; (try simp only [all_cons, all_nil, says_cell, and_true] at F))
    by_cases d4 : 20 < (o.ls.length : Int)
    · (try simp (maxSteps := 1000000) (disch := first | omega | assumption | exact Nat.le_of_ble_eq_true rfl) only [go_sem, ↓mwp_block, simprocAttr, e1, e23, F, Cfg.enc, hA, hq1, d4])
      exact hK _ _ ⟨by rw [dcd_false (fun h => by have := h.2.2.2 _ hmem; omega)], S.fr⟩
    · (try simp (maxSteps := 1000000) (disch := first | omega | assumption | exact Nat.le_of_ble_eq_true rfl) only [go_sem, ↓mwp_block, simprocAttr, e1, e23, F, Cfg.enc, hA, hq1, d4])
      refine hJ _ _ ?_ ?_
      · (try simp (maxSteps := 1000000) (disch := first | omega | assumption | exact Nat.le_of_ble_eq_true rfl) only [go_sem, ↓mwp_block, simprocAttr, e1, e22])
        exact ⟨i + 1, rfl, by omega, htk (by omega), S⟩
      · (try simp (maxSteps := 1000000) (disch := first | omega | assumption | exact Nat.le_of_ble_eq_true rfl) only [go_sem, ↓mwp_block, simprocAttr, e23])
        omega
  · obtain rfl : i = C.os.length := by omega
    rw [List.take_length] at hok
    (try simp (maxSteps := 1000000) (disch := first | omega | assumption | exact Nat.le_of_ble_eq_true rfl) only [go_sem, ↓mwp_block, simprocAttr])
    exact hK _ _ ⟨by rw [dcd_true ⟨by omega, by omega, by omega, hok⟩], S.fr⟩
theorem unitsAll_len {C : Cfg} (hok : okCfg C) : ((unitsAll C).length : Int) = totOf C ∧ (unitsAll C).length ≤ 200 := by
  have h1 := ordsU_len (os := C.os) 0 hok.okO
  have h2 := supU_len hok.2.2.2.2.1.1
  have h3 := hok.2.2.2.2.2
  have ht : totOf C = ordSum C.os + supSum C.ss := rfl
  rw [unitsAll, List.length_append]
  omega
def c0C : Cfg := ⟨none, 0, [], none, 0, [], none, 0, []⟩
theorem c0_ok : okCfg c0C := ⟨⟨by decide, by simp [c0C]⟩, by decide, by decide, by simp [c0C], ⟨by simp [c0C], by simp [c0C]⟩, by decide⟩
def c1C (g : Nat) : Cfg := ⟨none, 0, [], some ⟨g, 0, none⟩, 1, [⟨1, 2, 3⟩], none, 0, []⟩
theorem c1_ok (g : Nat) : okCfg (c1C g) := ⟨⟨by simp [c1C], by simp [c1C]⟩, by simp [c1C], by simp [c1C], by simp [c1C], ⟨by simp [c1C, okSup, okSome, okPrice], by simp [c1C]⟩, by simp [c1C, totOf]⟩
theorem c1_wf (g : Nat) : (c1C g).wf := ⟨by simp [c1C], by simp [c1C], by simp [c1C], by simp [c1C], by simp [c1C], by simp [c1C], fun o ho => by cases ho⟩
theorem awake10_ok (h : Heap) : CallsH Try.prog 8 [] h fun v h' => v = .bool true ∧ Fr h h' [] := by
  have S := St.nil h
  (refine enterK c_recouplaw10_awake (Nat.le_of_ble_eq_true rfl) fun K hK => ?_; (try simp (maxSteps := 1000000) (disch := first | omega | assumption | exact Nat.le_of_ble_eq_true rfl) only [go_sem, ↓mwp_block, simprocAttr, ir_recouplaw10_awake]))
  (refine st_alloc S ?_; clear S; intro g h S; (try simp only [splice_cons, splice_nil, List.set_cons_zero, List.set_cons_succ, Nat.zero_add, Nat.reduceAdd, List.cons_append, List.nil_append] at S); ((try clear F); have F := S.all; (try simp only [all_cons, all_nil, says_cell, and_true] at F)))
  have S := S.cellOwn (enc := Sup.enc) (sz := 3) (ys := [⟨1, 2, 3⟩]) Sup.enc_len rfl (by decide)
  clear F
  (try simp (maxSteps := 1000000) (disch := first | omega | assumption | exact Nat.le_of_ble_eq_true rfl) only [go_sem, ↓mwp_block, simprocAttr])
  refine call_intro (OUnits_ok (c1C g) (fun h' S => ⟨Arr.nil _ _ _ _, (fun o ho => by cases ho), S.arr Sup.enc_len, Arr.nil _ _ _ _⟩) (c1_wf g) (by simp [c1C]) (by simp [c1C]) (by simp [c1C]) (fun o ho => by cases ho) S) ?_
  clear S
  rintro _ h' (⟨hn, _⟩ | ⟨_, s, rfl, S⟩)
  · exact (hn (c1_ok g)).elim
  obtain ⟨A, c, rfl⟩ := S.sl
  have hl : (unitsAll (c1C g)).length = 3 := rfl
  rw [hl] at S ⊢
  (try simp (maxSteps := 1000000) (disch := first | omega | assumption | exact Nat.le_of_ble_eq_true rfl) only [go_sem, ↓mwp_block, simprocAttr])
  refine call_intro (ORight_ok c0C ⟨Arr.nil _ _ _ _, (fun o ho => by cases ho), Arr.nil _ _ _ _, Arr.nil _ _ _ _⟩ ⟨by decide, by decide, by decide, by decide, by decide, by decide, fun o ho => by cases ho⟩ (by decide) (by decide) (by decide) (fun o ho => by cases ho)) ?_
  rintro _ h' ⟨rfl, hf⟩
  rw [dcd_true c0_ok]
  (try simp (maxSteps := 1000000) (disch := first | omega | assumption | exact Nat.le_of_ble_eq_true rfl) only [go_sem, ↓mwp_block, simprocAttr])
  exact hK _ _ ⟨rfl, (S.frame hf).fr⟩
theorem OrderUnits_ok (C : Cfg) (h0 : Heap) (hC : C.ok h0) :
    CallsH Try.prog 3 [.agg C.enc.toArray] h0 fun v h' => v = .bool true ∧ Fr h0 h' [] := by
  obtain ⟨r, w⟩ := hC
  have S := St.nil h0
  have r' : ∀ {l : List HP} (h' : Heap), St h0 h' l → C.rd h' := fun h' S => r.fr S.fr
  (refine enterK c_recouplaw10_OrderUnits (Nat.le_of_ble_eq_true rfl) fun K hK => ?_; (try simp (maxSteps := 1000000) (disch := first | omega | assumption | exact Nat.le_of_ble_eq_true rfl) only [go_sem, ↓mwp_block, simprocAttr, ir_recouplaw10_OrderUnits]))
  (refine st_alloc S ?_; clear S; intro g h S; (try simp only [splice_cons, splice_nil, List.set_cons_zero, List.set_cons_succ, Nat.zero_add, Nat.reduceAdd, List.cons_append, List.nil_append] at S); ((try clear F); have F := S.all; (try simp only [all_cons, all_nil, says_cell, and_true] at F)))
  (try simp (maxSteps := 1000000) (disch := first | omega | assumption | exact Nat.le_of_ble_eq_true rfl) only [go_sem, ↓mwp_block, simprocAttr])
  refine call_intro (awake10_ok _) ?_
  rintro _ h ⟨rfl, f1⟩
  have S := S.frame f1
  ((try clear F); have F := S.all; (try simp only [all_cons, all_nil, says_cell, and_true] at F))
  (try simp (maxSteps := 1000000) (disch := first | omega | assumption | exact Nat.le_of_ble_eq_true rfl) only [go_sem, ↓mwp_block, simprocAttr, F])
  refine call_intro (Few_ok C (r' _ S) w) ?_
  rintro _ h ⟨rfl, f2⟩
  have S := S.frame f2
  clear f1 f2
  by_cases hfew : fewC C
  case neg =>
    rw [dcd_false hfew]
    (try simp (maxSteps := 1000000) (disch := first | omega | assumption | exact Nat.le_of_ble_eq_true rfl) only [go_sem, ↓mwp_block, simprocAttr])
    refine call_intro (awake10_ok _) ?_
    rintro _ h' ⟨rfl, f2⟩
    (try simp (maxSteps := 1000000) (disch := first | omega | assumption | exact Nat.le_of_ble_eq_true rfl) only [go_sem, ↓mwp_block, simprocAttr])
    exact hK _ _ ⟨rfl, (S.frame f2).fr⟩
  rw [dcd_true hfew]
  obtain ⟨l1, l2, l3, l4⟩ := hfew
  have l4' : ∀ o ∈ C.os, o.ls.length < 1000000 := fun o ho => by have := l4 o ho; omega
  ((try clear F); have F := S.all; (try simp only [all_cons, all_nil, says_cell, and_true] at F))
  (try simp (maxSteps := 1000000) (disch := first | omega | assumption | exact Nat.le_of_ble_eq_true rfl) only [go_sem, ↓mwp_block, simprocAttr, F])
  refine call_intro (OUnits_ok C r' w (by omega) (by omega) (by omega) l4' S) ?_
  clear S F
  rintro _ h (⟨hok, rfl, S⟩ | ⟨hok, s, rfl, S⟩)
  · ((try clear F); have F := S.all; (try simp only [all_cons, all_nil, says_cell, and_true] at F))
    (try simp (maxSteps := 1000000) (disch := first | omega | assumption | exact Nat.le_of_ble_eq_true rfl) only [go_sem, ↓mwp_block, simprocAttr, F])
    refine call_intro (RightConfig_ok C (r' _ S) (by omega) (by omega) (by omega) l4') ?_
    rintro _ h ⟨rfl, f2⟩
    have S := S.frame f2
    rw [dcd_false hok]
    ((try clear F); have F := S.all; (try simp only [all_cons, all_nil, says_cell, and_true] at F))
    (try simp (maxSteps := 1000000) (disch := first | omega | assumption | exact Nat.le_of_ble_eq_true rfl) only [go_sem, ↓mwp_block, simprocAttr, F])
    refine call_intro (ORight_ok C (r' _ S) w (by omega) (by omega) (by omega) l4') ?_
    rintro _ h ⟨rfl, f2⟩
    have S := S.frame f2
    rw [dcd_false hok]
    (try simp (maxSteps := 1000000) (disch := first | omega | assumption | exact Nat.le_of_ble_eq_true rfl) only [go_sem, ↓mwp_block, simprocAttr])
    exact hK _ _ ⟨rfl, S.fr⟩
  · obtain ⟨A, c, rfl⟩ := S.sl
    ((try clear F); have F := S.all; (try simp only [all_cons, all_nil, says_cell, and_true] at F))
    (try simp (maxSteps := 1000000) (disch := first | omega | assumption | exact Nat.le_of_ble_eq_true rfl) only [go_sem, ↓mwp_block, simprocAttr, F])
    refine call_intro (RightConfig_ok C (r' _ S) (by omega) (by omega) (by omega) l4') ?_
    rintro _ h ⟨rfl, f2⟩
    have S := S.frame f2
    rw [dcd_true hok]
    ((try clear F); have F := S.all; (try simp only [all_cons, all_nil, says_cell, and_true] at F))
    (try simp (maxSteps := 1000000) (disch := first | omega | assumption | exact Nat.le_of_ble_eq_true rfl) only [go_sem, ↓mwp_block, simprocAttr, F])
    refine call_intro (RUnits_ok C r' hok S) ?_
    clear S F
    intro v h S
    obtain ⟨B, d, rfl⟩ := S.sl
    ((try clear F); have F := S.all; (try simp only [all_cons, all_nil, says_cell, and_true] at F))
    (try simp (maxSteps := 1000000) (disch := first | omega | assumption | exact Nat.le_of_ble_eq_true rfl) only [go_sem, ↓mwp_block, simprocAttr, F])
    refine call_intro (ORight_ok C (r' _ S) w (by omega) (by omega) (by omega) l4') ?_
    rintro _ h ⟨rfl, f2⟩
    have S := S.frame f2
    rw [dcd_true hok]
    (try simp (maxSteps := 1000000) (disch := first | omega | assumption | exact Nat.le_of_ble_eq_true rfl) only [go_sem, ↓mwp_block, simprocAttr])
    have hul := (unitsAll_len hok).2
    refine loop_intro (fun ρ h' => h' = h ∧ ρ 3 = .slice A (unitsAll C).length c ∧ ρ 5 = .slice B (unitsAll C).length d ∧ ρ 52 = .int .i64 (unitsAll C).length ∧ ∃ i : Nat, ρ 53 = .int .i64 i ∧ i ≤ (unitsAll C).length) (fun ρ _ => (unitsAll C).length - (iv (ρ 53)).toNat) ?_ ?_
    · (try simp (maxSteps := 1000000) (disch := first | omega | assumption | exact Nat.le_of_ble_eq_true rfl) only [go_sem, ↓mwp_block, simprocAttr])
      exact ⟨0, rfl, by omega⟩
    rintro ρ h' J hJ ⟨rfl, e3, e5, e52, i, e53, hi⟩
    (try simp (maxSteps := 1000000) (disch := first | omega | assumption | exact Nat.le_of_ble_eq_true rfl) only [go_sem, ↓mwp_block, simprocAttr, e52, e53])
    refine cond_dec (fun hlt => ?_) (fun hlt => ?_)
    · have hil : i < (unitsAll C).length := by omega
      obtain ⟨b1, o1, rfl, q1⟩ := (S.p1.arr Unt.enc_len).at hil
      obtain ⟨b2, o2, rfl, q2⟩ := (S.arr Unt.enc_len).at hil
      (try simp (maxSteps := 1000000) (disch := first | omega | assumption | exact Nat.le_of_ble_eq_true rfl) only [go_sem, ↓mwp_block, simprocAttr])
      refine draw_eq ?_
      (try simp (maxSteps := 1000000) (disch := first | omega | assumption | exact Nat.le_of_ble_eq_true rfl) only [go_sem, ↓mwp_block, simprocAttr, e3, e5, e53, q1, q2, Unt.enc, beq_self_eq_true])
      refine hJ _ _ ?_ ?_
      · (try simp (maxSteps := 1000000) (disch := first | omega | assumption | exact Nat.le_of_ble_eq_true rfl) only [go_sem, ↓mwp_block, simprocAttr, e3, e5, e52])
        exact ⟨i + 1, rfl, by omega⟩
      · (try simp (maxSteps := 1000000) (disch := first | omega | assumption | exact Nat.le_of_ble_eq_true rfl) only [go_sem, ↓mwp_block, simprocAttr, e53])
        omega
    · (try simp (maxSteps := 1000000) (disch := first | omega | assumption | exact Nat.le_of_ble_eq_true rfl) only [go_sem, ↓mwp_block, simprocAttr])
      exact hK _ _ ⟨rfl, S.fr⟩
end Go.Proofs.Ytblalmgahfbalaa.MX

/- What is read: numbers and bytes taken one behind the other (codec.In). -/
namespace Go.Proofs.Ytblalmgahfbalaa.MX
open Go Go.Proofs
set_option linter.unusedSimpArgs false
set_option linter.unusedVariables false

/-- Bytes that can be read at some places. -/
def vBlk (x : Option Addr × List UInt8) : List Nat := if x.2 = [] then [] else match x.1 with | some a => [a.block] | none => []
def viewsA (L : List (Option Addr × List UInt8)) : HP where
  P h B := (∀ x ∈ L, Arr bEnc 1 h x.1 x.2) ∧ B = L.flatMap vBlk
  loc := fun {h h' B} ⟨ha, hb⟩ hk => ⟨fun x hx => (ha x hx).keep fun b off hA hne => by
    have : b ∈ B := by
      rw [hb]
      refine List.mem_flatMap.2 ⟨x, hx, ?_⟩
      simp only [vBlk, if_neg hne, hA, List.mem_singleton]
    simp only [blk, hk b this], hb⟩
  lt := fun {h B} ⟨ha, hb⟩ b hm => by
    rw [hb] at hm
    obtain ⟨x, hx, hm⟩ := List.mem_flatMap.1 hm
    unfold vBlk at hm
    split at hm
    · cases hm
    · rename_i hne
      split at hm
      · rename_i a hA
        simp only [List.mem_singleton] at hm
        obtain ⟨b', off', hA', hr⟩ := ha x hx 0 (List.length_pos_iff.2 hne)
        rw [hA] at hA'
        cases hA'
        subst hm
        exact rdN_lt hr
      · cases hm
theorem St.view {h0 h : Heap} {l : List HP} {L : List (Option Addr × List UInt8)} (S : St h0 h (viewsA L :: l)) {x : Option Addr × List UInt8} (hx : x ∈ L) : Arr bEnc 1 h x.1 x.2 := by
  obtain ⟨B, hp, _⟩ := S.hd
  exact hp.1 x hx
theorem St.reView {h0 h : Heap} {l : List HP} {L M : List (Option Addr × List UInt8)} (S : St h0 h (viewsA L :: l)) (ha : ∀ x ∈ M, Arr bEnc 1 h x.1 x.2) (hs : ∀ x ∈ M, ∀ b ∈ vBlk x, ∃ y ∈ L, b ∈ vBlk y) : St h0 h (viewsA M :: l) := by
  obtain ⟨B, hp, _, hup⟩ := S.hd
  refine hup h _ (M.flatMap vBlk) (Fr.refl _ _) ⟨ha, rfl⟩ fun b hm => .inl ?_
  obtain ⟨x, hx, hb⟩ := List.mem_flatMap.1 hm
  obtain ⟨y, hy, hb'⟩ := hs x hx b hb
  rw [hp.2]
  exact List.mem_flatMap.2 ⟨y, hy, hb'⟩
theorem arr_take {h : Heap} {A : Option Addr} {xs : List UInt8} (ha : Arr bEnc 1 h A xs) (n : Nat) : Arr bEnc 1 h A (xs.take n) := by
  intro i hi
  obtain ⟨b, off, hA, hr⟩ := ha i (by simp at hi; omega)
  exact ⟨b, off, hA, by rw [hr, List.getElem_take]⟩
theorem arr_drop {h : Heap} {b off : Nat} {xs : List UInt8} (ha : Arr bEnc 1 h (some ⟨b, off, none⟩) xs) (n : Nat) : Arr bEnc 1 h (some ⟨b, off + n, none⟩) (xs.drop n) := by
  intro i hi
  obtain ⟨b', off', hA, hr⟩ := ha (n + i) (by simp at hi; omega)
  cases hA
  refine ⟨b, off + n, rfl, ?_⟩
  rw [List.getElem_drop, ← hr]
  congr 1
  omega

def inA (i : Nat) (bs : List UInt8) (bad : Bool) : HP := exA fun s : Option Addr × Nat => starsA [cellA i [.slice s.1 bs.length s.2, .bool bad] 111, pureA (bs.length ≤ s.2 ∧ s.2 < 9223372036854775808 ∧ ∀ a, s.1 = some a → a.spot = none), viewsA [(s.1, bs)]]
theorem inA_open {h0 h : Heap} {l : List HP} {i : Nat} {bs : List UInt8} {bad : Bool} : St h0 h (inA i bs bad :: l) ↔ ∃ A c, (bs.length ≤ c ∧ c < 9223372036854775808 ∧ ∀ a : Addr, A = some a → a.spot = none) ∧ St h0 h (cellA i [.slice A bs.length c, .bool bad] 111 :: viewsA [(A, bs)] :: l) := by
  refine St.ex.trans ⟨?_, ?_⟩
  · rintro ⟨⟨A, c⟩, S⟩
    have S := St.stars.1 S
    have S := S.p1
    obtain ⟨hp, S⟩ := St.pure.1 S
    exact ⟨A, c, hp, S⟩
  · rintro ⟨A, c, hp, S⟩
    refine ⟨(A, c), St.stars.2 ?_⟩
    exact (St.pure.2 ⟨hp, S⟩).p1

theorem fail_ok {h0 h : Heap} {l : List HP} {i : Nat} {bs : List UInt8} {bad : Bool} (S : St h0 h (inA i bs bad :: l)) :
    CallsH Try.prog 85 [.pointer (some ⟨i, 0, none⟩)] h fun r h' => St h0 h' (inA i [] true :: l) := by
  obtain ⟨A, c, hp, S⟩ := inA_open.1 S
  (refine enterK c_codec_In_fail (Nat.le_of_ble_eq_true rfl) fun K hK => ?_; (try simp (maxSteps := 1000000) (disch := first | omega | assumption | exact Nat.le_of_ble_eq_true rfl) only [go_sem, ↓mwp_block, simprocAttr, ir_codec_In_fail]))
  (refine st_store (by first | exact S | exact S.p1 | exact S.p2 | exact S.p3 | exact S.p4 | exact S.p5 | exact S.p6 | exact S.p7 | exact S.p8 | exact S.p9 | exact S.p10 | exact S.p11) (by rfl) (by rfl) (Nat.le_of_ble_eq_true rfl) ?_; clear S; intro h S; (try simp only [splice_cons, splice_nil, List.set_cons_zero, List.set_cons_succ, Nat.zero_add, Nat.reduceAdd, List.cons_append, List.nil_append] at S); ((try clear F); have F := S.all; (try simp only [all_cons, all_nil, says_cell, and_true] at F)))
  (try simp (maxSteps := 1000000) (disch := first | omega | assumption | exact Nat.le_of_ble_eq_true rfl) only [go_sem, ↓mwp_block, simprocAttr])
  (refine st_store (by first | exact S | exact S.p1 | exact S.p2 | exact S.p3 | exact S.p4 | exact S.p5 | exact S.p6 | exact S.p7 | exact S.p8 | exact S.p9 | exact S.p10 | exact S.p11) (by rfl) (by rfl) (Nat.le_of_ble_eq_true rfl) ?_; clear S; intro h S; (try simp only [splice_cons, splice_nil, List.set_cons_zero, List.set_cons_succ, Nat.zero_add, Nat.reduceAdd, List.cons_append, List.nil_append] at S); ((try clear F); have F := S.all; (try simp only [all_cons, all_nil, says_cell, and_true] at F)))
  (try simp (maxSteps := 1000000) (disch := first | omega | assumption | exact Nat.le_of_ble_eq_true rfl) only [go_sem, ↓mwp_block, simprocAttr])
  refine hK _ _ (inA_open.2 ⟨none, 0, ⟨by simp, by decide, by simp⟩, ?_⟩)
  have S := S.p1.reView (M := [(none, [])]) (by intro x hx; simp at hx; subst hx; exact Arr.nil _ _ _ _) (by intro x hx b hb; simp at hx; subst hx; simp [vBlk] at hb)
  exact S.p1

theorem vBlk_sub {A : Option Addr} {xs ys : List UInt8} (hne : ys = [] → xs = []) : ∀ b ∈ vBlk (A, xs), b ∈ vBlk (A, ys) := by
  intro b hb
  unfold vBlk at hb ⊢
  split at hb
  · cases hb
  · rename_i h1
    rw [if_neg (fun h2 => h1 (hne h2))]
    exact hb

theorem St.split2 {h0 h : Heap} {l : List HP} {b off : Nat} {bs : List UInt8} (S : St h0 h (viewsA [(some ⟨b, off, none⟩, bs)] :: l)) (n : Nat) :
    St h0 h (viewsA [(some ⟨b, off, none⟩, bs.take n), (some ⟨b, off + n, none⟩, bs.drop n)] :: l) := by
  have hv := S.view (x := (some ⟨b, off, none⟩, bs)) (by simp)
  refine S.reView ?_ ?_
  · intro x hx
    simp only [List.mem_cons, List.not_mem_nil, or_false] at hx
    rcases hx with rfl | rfl
    · exact arr_take hv n
    · exact arr_drop hv n
  · intro x hx b' hb'
    refine ⟨_, List.mem_singleton.2 rfl, ?_⟩
    simp only [List.mem_cons, List.not_mem_nil, or_false] at hx
    rcases hx with rfl | rfl <;>
    · unfold vBlk at hb' ⊢
      split at hb'
      · cases hb'
      · rename_i h1
        rw [if_neg (fun h2 => h1 (by simp only at h2 ⊢; rw [h2]; simp))]
        exact hb'
theorem St.split1 {h0 h : Heap} {l : List HP} {A : Option Addr} {bs : List UInt8} (S : St h0 h (viewsA [(A, bs)] :: l)) (B : Option Addr) :
    St h0 h (viewsA [(A, bs), (B, [])] :: l) := by
  have hv := S.view (x := (A, bs)) (by simp)
  refine S.reView ?_ ?_
  · intro x hx
    simp only [List.mem_cons, List.not_mem_nil, or_false] at hx
    rcases hx with rfl | rfl
    · exact hv
    · exact Arr.nil _ _ _ _
  · intro x hx b' hb'
    simp only [List.mem_cons, List.not_mem_nil, or_false] at hx
    rcases hx with rfl | rfl
    · exact ⟨_, List.mem_singleton.2 rfl, hb'⟩
    · simp [vBlk] at hb'

/-- What is taken, and what is left, stand in one block. -/
theorem take_ok (n : Nat) {h0 h : Heap} {l : List HP} {i : Nat} {bs : List UInt8} (S : St h0 h (inA i bs false :: l)) (hn : n ≤ bs.length) (hl : bs.length < 1000000000) :
    CallsH Try.prog 86 [.pointer (some ⟨i, 0, none⟩), .int .i64 n] h fun r h' => ∃ A B c, r = .slice A n n ∧ ((bs.drop n).length ≤ c ∧ c < 9223372036854775808 ∧ ∀ a : Addr, B = some a → a.spot = none) ∧
      St h0 h' (cellA i [.slice B (bs.drop n).length c, .bool false] 111 :: viewsA [(A, bs.take n), (B, bs.drop n)] :: l) := by
  obtain ⟨A, c, ⟨hp1, hp2, hp3⟩, S⟩ := inA_open.1 S
  have hv := S.p1.view (x := (A, bs)) (by simp)
  have hdl : (bs.drop n).length = bs.length - n := List.length_drop
  have hnil : bs.take n = [] → bs.drop n = [] → bs = [] := fun h1 h2 => by rw [← List.take_append_drop n bs, h1, h2]; rfl
  (refine enterK c_codec_In_take (Nat.le_of_ble_eq_true rfl) fun K hK => ?_; (try simp (maxSteps := 1000000) (disch := first | omega | assumption | exact Nat.le_of_ble_eq_true rfl) only [go_sem, ↓mwp_block, simprocAttr, ir_codec_In_take]))
  ((try clear F); have F := S.all; (try simp only [all_cons, all_nil, says_cell, and_true] at F))
  (try simp (maxSteps := 1000000) (disch := first | omega | assumption | exact Nat.le_of_ble_eq_true rfl) only [go_sem, ↓mwp_block, simprocAttr, F])
  cases A with
  | none =>
    have hb : bs = [] := by
      cases bs with
      | nil => rfl
      | cons x xs => obtain ⟨b, off, hA, _⟩ := hv 0 (by simp); cases hA
    subst hb
    simp only [List.length_nil, Nat.le_zero] at hn
    subst hn
    (try simp (maxSteps := 1000000) (disch := first | omega | assumption | exact Nat.le_of_ble_eq_true rfl) only [go_sem, ↓mwp_block, simprocAttr, F])
    (refine st_store (by first | exact S | exact S.p1 | exact S.p2 | exact S.p3 | exact S.p4 | exact S.p5 | exact S.p6 | exact S.p7 | exact S.p8 | exact S.p9 | exact S.p10 | exact S.p11) (by rfl) (by rfl) (Nat.le_of_ble_eq_true rfl) ?_; clear S; intro h S; (try simp only [splice_cons, splice_nil, List.set_cons_zero, List.set_cons_succ, Nat.zero_add, Nat.reduceAdd, List.cons_append, List.nil_append] at S); ((try clear F); have F := S.all; (try simp only [all_cons, all_nil, says_cell, and_true] at F)))
    (try simp (maxSteps := 1000000) (disch := first | omega | assumption | exact Nat.le_of_ble_eq_true rfl) only [go_sem, ↓mwp_block, simprocAttr])
    refine hK _ _ ⟨none, none, c, rfl, ⟨by simp, hp2, by simp⟩, ?_⟩
    exact (S.p1.split1 none).p1
  | some a =>
    have ha := hp3 a rfl
    obtain ⟨b, off, sp⟩ := a
    cases ha
    by_cases hnc : n < c
    · (try simp (maxSteps := 1000000) (disch := first | omega | assumption | exact Nat.le_of_ble_eq_true rfl) only [go_sem, ↓mwp_block, simprocAttr, F])
      (refine st_store (by first | exact S | exact S.p1 | exact S.p2 | exact S.p3 | exact S.p4 | exact S.p5 | exact S.p6 | exact S.p7 | exact S.p8 | exact S.p9 | exact S.p10 | exact S.p11) (by rfl) (by rfl) (Nat.le_of_ble_eq_true rfl) ?_; clear S; intro h S; (try simp only [splice_cons, splice_nil, List.set_cons_zero, List.set_cons_succ, Nat.zero_add, Nat.reduceAdd, List.cons_append, List.nil_append] at S); ((try clear F); have F := S.all; (try simp only [all_cons, all_nil, says_cell, and_true] at F)))
      (try simp (maxSteps := 1000000) (disch := first | omega | assumption | exact Nat.le_of_ble_eq_true rfl) only [go_sem, ↓mwp_block, simprocAttr])
      refine hK _ _ ⟨some ⟨b, off, none⟩, some ⟨b, off + n, none⟩, c - n, rfl, ⟨by omega, by omega, by simp⟩, ?_⟩
      rw [hdl]
      simp only [Nat.mul_one] at S
      exact (S.p1.split2 n).p1
    · obtain rfl : n = c := by omega
      obtain rfl : n = bs.length := by omega
      (try simp (maxSteps := 1000000) (disch := first | omega | assumption | exact Nat.le_of_ble_eq_true rfl) only [go_sem, ↓mwp_block, simprocAttr, F])
      (refine st_store (by first | exact S | exact S.p1 | exact S.p2 | exact S.p3 | exact S.p4 | exact S.p5 | exact S.p6 | exact S.p7 | exact S.p8 | exact S.p9 | exact S.p10 | exact S.p11) (by rfl) (by rfl) (Nat.le_of_ble_eq_true rfl) ?_; clear S; intro h S; (try simp only [splice_cons, splice_nil, List.set_cons_zero, List.set_cons_succ, Nat.zero_add, Nat.reduceAdd, List.cons_append, List.nil_append] at S); ((try clear F); have F := S.all; (try simp only [all_cons, all_nil, says_cell, and_true] at F)))
      (try simp (maxSteps := 1000000) (disch := first | omega | assumption | exact Nat.le_of_ble_eq_true rfl) only [go_sem, ↓mwp_block, simprocAttr])
      refine hK _ _ ⟨some ⟨b, off, none⟩, some ⟨b, off, none⟩, 0, rfl, ⟨by simp, by decide, by simp⟩, ?_⟩
      rw [List.take_length, List.drop_length]
      exact (S.p1.split1 _).p1

/-! What a reading of n bytes yields, and leaves. -/
def rdV (n : Nat) (bs : List UInt8) (bad : Bool) : Int := if bad = true ∨ bs.length < n then 0 else num (bs.take n)
def rdB (n : Nat) (bs : List UInt8) (bad : Bool) : List UInt8 := if bad = true ∨ bs.length < n then [] else bs.drop n
def rdX (n : Nat) (bs : List UInt8) (bad : Bool) : Bool := bad || decide (bs.length < n)
theorem take_bad (n : Nat) {h0 h : Heap} {l : List HP} {i : Nat} {bs : List UInt8} {bad : Bool} (S : St h0 h (inA i bs bad :: l)) (hn : bad = true ∨ bs.length < n) (hl : bs.length < 1000000000) (hn8 : n < 1000000000) :
    CallsH Try.prog 86 [.pointer (some ⟨i, 0, none⟩), .int .i64 n] h fun r h' => r = .slice none 0 0 ∧ St h0 h' (inA i [] true :: l) := by
  (refine enterK c_codec_In_take (Nat.le_of_ble_eq_true rfl) fun K hK => ?_; (try simp (maxSteps := 1000000) (disch := first | omega | assumption | exact Nat.le_of_ble_eq_true rfl) only [go_sem, ↓mwp_block, simprocAttr, ir_codec_In_take]))
  obtain ⟨A, c, hp, S⟩ := inA_open.1 S
  ((try clear F); have F := S.all; (try simp only [all_cons, all_nil, says_cell, and_true] at F))
  cases bad
  · have hn : bs.length < n := by simpa using hn
    (try simp (maxSteps := 1000000) (disch := first | omega | assumption | exact Nat.le_of_ble_eq_true rfl) only [go_sem, ↓mwp_block, simprocAttr, F])
    refine call_intro (fail_ok (inA_open.2 ⟨A, c, hp, S⟩)) fun r h S => ?_
    (try simp (maxSteps := 1000000) (disch := first | omega | assumption | exact Nat.le_of_ble_eq_true rfl) only [go_sem, ↓mwp_block, simprocAttr])
    exact hK _ _ ⟨rfl, S⟩
  · (try simp (maxSteps := 1000000) (disch := first | omega | assumption | exact Nat.le_of_ble_eq_true rfl) only [go_sem, ↓mwp_block, simprocAttr, F])
    refine call_intro (fail_ok (inA_open.2 ⟨A, c, hp, S⟩)) fun r h S => ?_
    (try simp (maxSteps := 1000000) (disch := first | omega | assumption | exact Nat.le_of_ble_eq_true rfl) only [go_sem, ↓mwp_block, simprocAttr])
    exact hK _ _ ⟨rfl, S⟩

theorem lor_add {v c k : Nat} (hv : v < 2 ^ k) : v ||| c * 2 ^ k = v + c * 2 ^ k := by
  have := Nat.shiftLeft_add_eq_or_of_lt hv c
  rw [Nat.shiftLeft_eq] at this
  rw [Nat.or_comm, ← this, Nat.add_comm]
theorem num_take_succ (bs : List UInt8) {i : Nat} (hi : i < bs.length) : num (bs.take (i + 1)) = num (bs.take i) + bs[i].toNat * 256 ^ i := by
  rw [List.take_succ_eq_append_getElem hi, num_append, List.length_take, Nat.min_eq_left (by omega)]
  simp only [num, Int.mul_zero, Int.add_zero]
  rw [Int.mul_comm]
theorem bor64 {v c : Nat} {k : Nat} (hv : v < 256 ^ k) (hc : c < 256) (hk : k < 8) : binV .or (.int .u64 (v : Int)) (.int .u64 (c * 256 ^ k : Nat)) = some (.int .u64 ((v + c * 256 ^ k : Nat) : Int)) := by
  have h256 : (256 : Nat) ^ k = 2 ^ (8 * k) := by rw [Nat.pow_mul]
  have h8 : c * 256 ^ k + 256 ^ k ≤ 256 ^ 8 := by
    have : c * 256 ^ k + 256 ^ k = (c + 1) * 256 ^ k := by rw [Nat.succ_mul]
    rw [this]
    calc (c + 1) * 256 ^ k ≤ 256 * 256 ^ k := Nat.mul_le_mul_right _ (by omega)
      _ = 256 ^ (k + 1) := by rw [Nat.pow_succ, Nat.mul_comm]
      _ ≤ 256 ^ 8 := Nat.pow_le_pow_right (by decide) (by omega)
  have hb : (256 : Nat) ^ 8 = 18446744073709551616 := by decide
  rw [hb] at h8
  have e1 : (BitVec.ofInt IntKind.u64.bits (v : Int)).toNat = v := by
    rw [BitVec.toNat_ofInt]
    have : ((2 ^ IntKind.u64.bits : Nat) : Int) = 18446744073709551616 := rfl
    rw [this, Int.emod_eq_of_lt (by omega) (by omega)]
    rfl
  have e2 : (BitVec.ofInt IntKind.u64.bits ((c * 256 ^ k : Nat) : Int)).toNat = c * 256 ^ k := by
    rw [BitVec.toNat_ofInt]
    have : ((2 ^ IntKind.u64.bits : Nat) : Int) = 18446744073709551616 := rfl
    rw [this, Int.emod_eq_of_lt (by omega) (by omega)]
    rfl
  rw [bin_or, BitVec.toNat_or, e1, e2, h256, lor_add (by rw [← h256]; exact hv), ← h256, wrap_u64 (by omega) (by omega)]
end Go.Proofs.Ytblalmgahfbalaa.MX
