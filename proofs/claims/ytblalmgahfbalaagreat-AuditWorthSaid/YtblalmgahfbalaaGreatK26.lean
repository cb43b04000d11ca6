/- Texts in one file: Ob5, Ob7, Ot1, In1, In2, Tb6, Tb7, Tb8. -/
import Derived.Test.YtblalmgahfbalaaGreatK25
import Derived.Test.YtblalmgahfbalaaGreatK09
import Derived.Test.YtblalmgahfbalaaGreatK11
import Derived.Test.YtblalmgahfbalaaGreatK17
import Derived.Test.YtblalmgahfbalaaGreatK20

/- The outbox: Drop, Waits, Clone, and what a nil one does. -/
namespace Go.Proofs.YtblalmgahfbalaaGreat.MX
open Go Go.Proofs
set_option linter.unusedSimpArgs false

theorem waitsOf_succ (rma : Int) (l : List Msg) (i : Nat) (hi : i < l.length) : waitsOf rma (l.take (i + 1)) = waitsOf rma (l.take i) + if l[i].rma = rma ∧ l[i].kind ≠ 1 then 1 else 0 := by
  unfold waitsOf
  rw [List.take_succ_eq_append_getElem hi, List.filter_append]
  by_cases h : l[i].rma = rma ∧ l[i].kind ≠ 1 <;> simp [List.filter_cons, h]
theorem waitsOf_le (rma : Int) (l : List Msg) : waitsOf rma l ≤ l.length := List.length_filter_le _ _

theorem Waits_ok (rma : Int) {base : Nat} {h : Heap} {o : Nat} {s : Value} {next : Int} {l : List Msg} (hi : IsOb base h o s next l) (hl : l.length < 1000000) :
    CallsH Tryz.prog 42 [.pointer (some ⟨o, 0, none⟩), .int .i64 rma] h fun v h' => v = .int .i64 (waitsOf rma l) ∧ Fr h h' [] := by
  have hlt := hi.lt
  have ha0 := hi.own
  obtain ⟨A, c, rfl⟩ := hi.own.slice
  have ha := (hi.own.arr enc_len).1
  refine enterK c_outbox_Outbox_Waits (Nat.le_of_ble_eq_true rfl) fun K hK => ?_
  simp (disch := first | omega | assumption | ((repeat' (first | exact Fr.refl _ _ | assumption | (refine Fr.via (by assumption) ?_ (by intro i hi hm; first | exact hm | exact List.mem_cons_of_mem _ hm | exact absurd hm List.not_mem_nil | (simp only [List.mem_cons, List.mem_append, List.not_mem_nil, or_false] at hm ⊢; omega))) | refine Fr.push ?_ _ | (refine Fr.setM ?_ ?_ _; · first | exact List.mem_cons_self | (simp only [List.mem_cons, true_or, or_true]; done)) | (refine Fr.setN ?_ ?_ _; · first | omega | (simp only [Array.size_push, Array.size_setIfInBounds]; omega)))); done) | (simp only [Array.size_push, Array.size_setIfInBounds, List.length_cons, List.length_nil, List.mem_cons, List.not_mem_nil, or_false, false_or, not_false_eq_true, not_or]; done) | (simp only [Array.size_push, Array.size_setIfInBounds, List.length_cons, List.length_nil, List.mem_cons, List.not_mem_nil, or_false, false_or, not_or]; omega)) only [go_sem, ↓mwp_block, ↓e_alloc, ↓e_box, ↓e_bslice, storeT_eq, Nat.reduceEqDiff, Nat.reduceAdd, Nat.reduceMul, Nat.reduceSub, Nat.reduceLeDiff, Nat.reduceLT, reduceIte, Int.reduceLT, Int.reduceLE, Int.reduceAdd, Int.reduceSub, Int.reduceMul, Int.reduceEq, Int.reduceToNat, Int.reduceNeg, Int.reduceNe, ir_outbox_Outbox_Waits]
  simp (disch := first | omega | assumption | ((repeat' (first | exact Fr.refl _ _ | assumption | (refine Fr.via (by assumption) ?_ (by intro i hi hm; first | exact hm | exact List.mem_cons_of_mem _ hm | exact absurd hm List.not_mem_nil | (simp only [List.mem_cons, List.mem_append, List.not_mem_nil, or_false] at hm ⊢; omega))) | refine Fr.push ?_ _ | (refine Fr.setM ?_ ?_ _; · first | exact List.mem_cons_self | (simp only [List.mem_cons, true_or, or_true]; done)) | (refine Fr.setN ?_ ?_ _; · first | omega | (simp only [Array.size_push, Array.size_setIfInBounds]; omega)))); done) | (simp only [Array.size_push, Array.size_setIfInBounds, List.length_cons, List.length_nil, List.mem_cons, List.not_mem_nil, or_false, false_or, not_false_eq_true, not_or]; done) | (simp only [Array.size_push, Array.size_setIfInBounds, List.length_cons, List.length_nil, List.mem_cons, List.not_mem_nil, or_false, false_or, not_or]; omega)) only [go_sem, ↓mwp_block, ↓e_alloc, ↓e_box, ↓e_bslice, storeT_eq, Nat.reduceEqDiff, Nat.reduceAdd, Nat.reduceMul, Nat.reduceSub, Nat.reduceLeDiff, Nat.reduceLT, reduceIte, Int.reduceLT, Int.reduceLE, Int.reduceAdd, Int.reduceSub, Int.reduceMul, Int.reduceEq, Int.reduceToNat, Int.reduceNeg, Int.reduceNe, rd1_blk hi.blk]
  refine loop_intro (fun ρ h' => Fr h h' [] ∧ ρ 1 = .int .i64 rma ∧ ρ 13 = .slice A l.length c ∧ ρ 14 = .int .i64 l.length ∧ ∃ i : Nat, ρ 15 = .int .i64 i ∧ i ≤ l.length ∧ ρ 5 = .int .i64 (waitsOf rma (l.take i))) (fun ρ _ => l.length - (iv (ρ 15)).toNat) ?_ ?_
  · simp (disch := first | omega | assumption | ((repeat' (first | exact Fr.refl _ _ | assumption | (refine Fr.via (by assumption) ?_ (by intro i hi hm; first | exact hm | exact List.mem_cons_of_mem _ hm | exact absurd hm List.not_mem_nil | (simp only [List.mem_cons, List.mem_append, List.not_mem_nil, or_false] at hm ⊢; omega))) | refine Fr.push ?_ _ | (refine Fr.setM ?_ ?_ _; · first | exact List.mem_cons_self | (simp only [List.mem_cons, true_or, or_true]; done)) | (refine Fr.setN ?_ ?_ _; · first | omega | (simp only [Array.size_push, Array.size_setIfInBounds]; omega)))); done) | (simp only [Array.size_push, Array.size_setIfInBounds, List.length_cons, List.length_nil, List.mem_cons, List.not_mem_nil, or_false, false_or, not_false_eq_true, not_or]; done) | (simp only [Array.size_push, Array.size_setIfInBounds, List.length_cons, List.length_nil, List.mem_cons, List.not_mem_nil, or_false, false_or, not_or]; omega)) only [go_sem, ↓mwp_block, ↓e_alloc, ↓e_box, ↓e_bslice, storeT_eq, Nat.reduceEqDiff, Nat.reduceAdd, Nat.reduceMul, Nat.reduceSub, Nat.reduceLeDiff, Nat.reduceLT, reduceIte, Int.reduceLT, Int.reduceLE, Int.reduceAdd, Int.reduceSub, Int.reduceMul, Int.reduceEq, Int.reduceToNat, Int.reduceNeg, Int.reduceNe]
    exact ⟨Fr.refl _ _, 0, rfl, Nat.zero_le _, rfl⟩
  · rintro ρ h' J hJ ⟨hf, e1, e13, e14, i, e15, hil, e5⟩
    have hszh := hf.size
    simp (disch := first | omega | assumption | ((repeat' (first | exact Fr.refl _ _ | assumption | (refine Fr.via (by assumption) ?_ (by intro i hi hm; first | exact hm | exact List.mem_cons_of_mem _ hm | exact absurd hm List.not_mem_nil | (simp only [List.mem_cons, List.mem_append, List.not_mem_nil, or_false] at hm ⊢; omega))) | refine Fr.push ?_ _ | (refine Fr.setM ?_ ?_ _; · first | exact List.mem_cons_self | (simp only [List.mem_cons, true_or, or_true]; done)) | (refine Fr.setN ?_ ?_ _; · first | omega | (simp only [Array.size_push, Array.size_setIfInBounds]; omega)))); done) | (simp only [Array.size_push, Array.size_setIfInBounds, List.length_cons, List.length_nil, List.mem_cons, List.not_mem_nil, or_false, false_or, not_false_eq_true, not_or]; done) | (simp only [Array.size_push, Array.size_setIfInBounds, List.length_cons, List.length_nil, List.mem_cons, List.not_mem_nil, or_false, false_or, not_or]; omega)) only [go_sem, ↓mwp_block, ↓e_alloc, ↓e_box, ↓e_bslice, storeT_eq, Nat.reduceEqDiff, Nat.reduceAdd, Nat.reduceMul, Nat.reduceSub, Nat.reduceLeDiff, Nat.reduceLT, reduceIte, Int.reduceLT, Int.reduceLE, Int.reduceAdd, Int.reduceSub, Int.reduceMul, Int.reduceEq, Int.reduceToNat, Int.reduceNeg, Int.reduceNe, e15, e14]
    (generalize hg : dcd _ = bb; cases bb <;> (first | replace hg := of_dcd_false hg | replace hg := of_dcd_true hg) <;> (try simp (disch := first | omega | assumption | ((repeat' (first | exact Fr.refl _ _ | assumption | (refine Fr.via (by assumption) ?_ (by intro i hi hm; first | exact hm | exact List.mem_cons_of_mem _ hm | exact absurd hm List.not_mem_nil | (simp only [List.mem_cons, List.mem_append, List.not_mem_nil, or_false] at hm ⊢; omega))) | refine Fr.push ?_ _ | (refine Fr.setM ?_ ?_ _; · first | exact List.mem_cons_self | (simp only [List.mem_cons, true_or, or_true]; done)) | (refine Fr.setN ?_ ?_ _; · first | omega | (simp only [Array.size_push, Array.size_setIfInBounds]; omega)))); done) | (simp only [Array.size_push, Array.size_setIfInBounds, List.length_cons, List.length_nil, List.mem_cons, List.not_mem_nil, or_false, false_or, not_false_eq_true, not_or]; done) | (simp only [Array.size_push, Array.size_setIfInBounds, List.length_cons, List.length_nil, List.mem_cons, List.not_mem_nil, or_false, false_or, not_or]; omega)) only [go_sem, ↓mwp_block, ↓e_alloc, ↓e_box, ↓e_bslice, storeT_eq, Nat.reduceEqDiff, Nat.reduceAdd, Nat.reduceMul, Nat.reduceSub, Nat.reduceLeDiff, Nat.reduceLT, reduceIte, Int.reduceLT, Int.reduceLE, Int.reduceAdd, Int.reduceSub, Int.reduceMul, Int.reduceEq, Int.reduceToNat, Int.reduceNeg, Int.reduceNe, e1, e13, e5]))
    · have hi' : i = l.length := by omega
      subst hi'
      refine hK _ _ ⟨?_, hf⟩
      rw [List.take_length]
    · have hlt' : i < l.length := by omega
      obtain ⟨b, off, rfl, hr⟩ := (ha.fr hf (fun _ _ _ => by simp)).at hlt'
      have hle := waitsOf_le rma (l.take i)
      rw [List.length_take] at hle
      have hsucc := waitsOf_succ rma l i hlt'
      simp (disch := first | omega | assumption | ((repeat' (first | exact Fr.refl _ _ | assumption | (refine Fr.via (by assumption) ?_ (by intro i hi hm; first | exact hm | exact List.mem_cons_of_mem _ hm | exact absurd hm List.not_mem_nil | (simp only [List.mem_cons, List.mem_append, List.not_mem_nil, or_false] at hm ⊢; omega))) | refine Fr.push ?_ _ | (refine Fr.setM ?_ ?_ _; · first | exact List.mem_cons_self | (simp only [List.mem_cons, true_or, or_true]; done)) | (refine Fr.setN ?_ ?_ _; · first | omega | (simp only [Array.size_push, Array.size_setIfInBounds]; omega)))); done) | (simp only [Array.size_push, Array.size_setIfInBounds, List.length_cons, List.length_nil, List.mem_cons, List.not_mem_nil, or_false, false_or, not_false_eq_true, not_or]; done) | (simp only [Array.size_push, Array.size_setIfInBounds, List.length_cons, List.length_nil, List.mem_cons, List.not_mem_nil, or_false, false_or, not_or]; omega)) only [go_sem, ↓mwp_block, ↓e_alloc, ↓e_box, ↓e_bslice, storeT_eq, Nat.reduceEqDiff, Nat.reduceAdd, Nat.reduceMul, Nat.reduceSub, Nat.reduceLeDiff, Nat.reduceLT, reduceIte, Int.reduceLT, Int.reduceLE, Int.reduceAdd, Int.reduceSub, Int.reduceMul, Int.reduceEq, Int.reduceToNat, Int.reduceNeg, Int.reduceNe, e1, e13, e15, hr, Msg.enc]
      (generalize hg : dcd _ = bb; cases bb <;> (first | replace hg := of_dcd_false hg | replace hg := of_dcd_true hg) <;> (try simp (disch := first | omega | assumption | ((repeat' (first | exact Fr.refl _ _ | assumption | (refine Fr.via (by assumption) ?_ (by intro i hi hm; first | exact hm | exact List.mem_cons_of_mem _ hm | exact absurd hm List.not_mem_nil | (simp only [List.mem_cons, List.mem_append, List.not_mem_nil, or_false] at hm ⊢; omega))) | refine Fr.push ?_ _ | (refine Fr.setM ?_ ?_ _; · first | exact List.mem_cons_self | (simp only [List.mem_cons, true_or, or_true]; done)) | (refine Fr.setN ?_ ?_ _; · first | omega | (simp only [Array.size_push, Array.size_setIfInBounds]; omega)))); done) | (simp only [Array.size_push, Array.size_setIfInBounds, List.length_cons, List.length_nil, List.mem_cons, List.not_mem_nil, or_false, false_or, not_false_eq_true, not_or]; done) | (simp only [Array.size_push, Array.size_setIfInBounds, List.length_cons, List.length_nil, List.mem_cons, List.not_mem_nil, or_false, false_or, not_or]; omega)) only [go_sem, ↓mwp_block, ↓e_alloc, ↓e_box, ↓e_bslice, storeT_eq, Nat.reduceEqDiff, Nat.reduceAdd, Nat.reduceMul, Nat.reduceSub, Nat.reduceLeDiff, Nat.reduceLT, reduceIte, Int.reduceLT, Int.reduceLE, Int.reduceAdd, Int.reduceSub, Int.reduceMul, Int.reduceEq, Int.reduceToNat, Int.reduceNeg, Int.reduceNe, e1, e13, e14, e15, e5]))
      · refine hJ _ _ ?_ ?_
        · simp (disch := first | omega | assumption | ((repeat' (first | exact Fr.refl _ _ | assumption | (refine Fr.via (by assumption) ?_ (by intro i hi hm; first | exact hm | exact List.mem_cons_of_mem _ hm | exact absurd hm List.not_mem_nil | (simp only [List.mem_cons, List.mem_append, List.not_mem_nil, or_false] at hm ⊢; omega))) | refine Fr.push ?_ _ | (refine Fr.setM ?_ ?_ _; · first | exact List.mem_cons_self | (simp only [List.mem_cons, true_or, or_true]; done)) | (refine Fr.setN ?_ ?_ _; · first | omega | (simp only [Array.size_push, Array.size_setIfInBounds]; omega)))); done) | (simp only [Array.size_push, Array.size_setIfInBounds, List.length_cons, List.length_nil, List.mem_cons, List.not_mem_nil, or_false, false_or, not_false_eq_true, not_or]; done) | (simp only [Array.size_push, Array.size_setIfInBounds, List.length_cons, List.length_nil, List.mem_cons, List.not_mem_nil, or_false, false_or, not_or]; omega)) only [go_sem, ↓mwp_block, ↓e_alloc, ↓e_box, ↓e_bslice, storeT_eq, Nat.reduceEqDiff, Nat.reduceAdd, Nat.reduceMul, Nat.reduceSub, Nat.reduceLeDiff, Nat.reduceLT, reduceIte, Int.reduceLT, Int.reduceLE, Int.reduceAdd, Int.reduceSub, Int.reduceMul, Int.reduceEq, Int.reduceToNat, Int.reduceNeg, Int.reduceNe, e1, e13, e14, e5]
          exact ⟨by ((repeat' (first | exact Fr.refl _ _ | assumption | (refine Fr.via (by assumption) ?_ (by intro i hi hm; first | exact hm | exact List.mem_cons_of_mem _ hm | exact absurd hm List.not_mem_nil | (simp only [List.mem_cons, List.mem_append, List.not_mem_nil, or_false] at hm ⊢; omega))) | refine Fr.push ?_ _ | (refine Fr.setM ?_ ?_ _; · first | exact List.mem_cons_self | (simp only [List.mem_cons, true_or, or_true]; done)) | (refine Fr.setN ?_ ?_ _; · first | omega | (simp only [Array.size_push, Array.size_setIfInBounds]; omega)))); done), i + 1, rfl, by omega, by rw [hsucc, if_neg (by simp [hg])]; rfl⟩
        · simp (disch := first | omega | assumption | ((repeat' (first | exact Fr.refl _ _ | assumption | (refine Fr.via (by assumption) ?_ (by intro i hi hm; first | exact hm | exact List.mem_cons_of_mem _ hm | exact absurd hm List.not_mem_nil | (simp only [List.mem_cons, List.mem_append, List.not_mem_nil, or_false] at hm ⊢; omega))) | refine Fr.push ?_ _ | (refine Fr.setM ?_ ?_ _; · first | exact List.mem_cons_self | (simp only [List.mem_cons, true_or, or_true]; done)) | (refine Fr.setN ?_ ?_ _; · first | omega | (simp only [Array.size_push, Array.size_setIfInBounds]; omega)))); done) | (simp only [Array.size_push, Array.size_setIfInBounds, List.length_cons, List.length_nil, List.mem_cons, List.not_mem_nil, or_false, false_or, not_false_eq_true, not_or]; done) | (simp only [Array.size_push, Array.size_setIfInBounds, List.length_cons, List.length_nil, List.mem_cons, List.not_mem_nil, or_false, false_or, not_or]; omega)) only [go_sem, ↓mwp_block, ↓e_alloc, ↓e_box, ↓e_bslice, storeT_eq, Nat.reduceEqDiff, Nat.reduceAdd, Nat.reduceMul, Nat.reduceSub, Nat.reduceLeDiff, Nat.reduceLT, reduceIte, Int.reduceLT, Int.reduceLE, Int.reduceAdd, Int.reduceSub, Int.reduceMul, Int.reduceEq, Int.reduceToNat, Int.reduceNeg, Int.reduceNe, e15]
          omega
      · have hg1 := hg
        (generalize hg : dcd _ = bb; cases bb <;> (first | replace hg := of_dcd_false hg | replace hg := of_dcd_true hg) <;> (try simp (disch := first | omega | assumption | ((repeat' (first | exact Fr.refl _ _ | assumption | (refine Fr.via (by assumption) ?_ (by intro i hi hm; first | exact hm | exact List.mem_cons_of_mem _ hm | exact absurd hm List.not_mem_nil | (simp only [List.mem_cons, List.mem_append, List.not_mem_nil, or_false] at hm ⊢; omega))) | refine Fr.push ?_ _ | (refine Fr.setM ?_ ?_ _; · first | exact List.mem_cons_self | (simp only [List.mem_cons, true_or, or_true]; done)) | (refine Fr.setN ?_ ?_ _; · first | omega | (simp only [Array.size_push, Array.size_setIfInBounds]; omega)))); done) | (simp only [Array.size_push, Array.size_setIfInBounds, List.length_cons, List.length_nil, List.mem_cons, List.not_mem_nil, or_false, false_or, not_false_eq_true, not_or]; done) | (simp only [Array.size_push, Array.size_setIfInBounds, List.length_cons, List.length_nil, List.mem_cons, List.not_mem_nil, or_false, false_or, not_or]; omega)) only [go_sem, ↓mwp_block, ↓e_alloc, ↓e_box, ↓e_bslice, storeT_eq, Nat.reduceEqDiff, Nat.reduceAdd, Nat.reduceMul, Nat.reduceSub, Nat.reduceLeDiff, Nat.reduceLT, reduceIte, Int.reduceLT, Int.reduceLE, Int.reduceAdd, Int.reduceSub, Int.reduceMul, Int.reduceEq, Int.reduceToNat, Int.reduceNeg, Int.reduceNe, e1, e13, e14, e15, e5]))
        · refine hJ _ _ ?_ ?_
          · simp (disch := first | omega | assumption | ((repeat' (first | exact Fr.refl _ _ | assumption | (refine Fr.via (by assumption) ?_ (by intro i hi hm; first | exact hm | exact List.mem_cons_of_mem _ hm | exact absurd hm List.not_mem_nil | (simp only [List.mem_cons, List.mem_append, List.not_mem_nil, or_false] at hm ⊢; omega))) | refine Fr.push ?_ _ | (refine Fr.setM ?_ ?_ _; · first | exact List.mem_cons_self | (simp only [List.mem_cons, true_or, or_true]; done)) | (refine Fr.setN ?_ ?_ _; · first | omega | (simp only [Array.size_push, Array.size_setIfInBounds]; omega)))); done) | (simp only [Array.size_push, Array.size_setIfInBounds, List.length_cons, List.length_nil, List.mem_cons, List.not_mem_nil, or_false, false_or, not_false_eq_true, not_or]; done) | (simp only [Array.size_push, Array.size_setIfInBounds, List.length_cons, List.length_nil, List.mem_cons, List.not_mem_nil, or_false, false_or, not_or]; omega)) only [go_sem, ↓mwp_block, ↓e_alloc, ↓e_box, ↓e_bslice, storeT_eq, Nat.reduceEqDiff, Nat.reduceAdd, Nat.reduceMul, Nat.reduceSub, Nat.reduceLeDiff, Nat.reduceLT, reduceIte, Int.reduceLT, Int.reduceLE, Int.reduceAdd, Int.reduceSub, Int.reduceMul, Int.reduceEq, Int.reduceToNat, Int.reduceNeg, Int.reduceNe, e1, e13, e14, e5]
            exact ⟨by ((repeat' (first | exact Fr.refl _ _ | assumption | (refine Fr.via (by assumption) ?_ (by intro i hi hm; first | exact hm | exact List.mem_cons_of_mem _ hm | exact absurd hm List.not_mem_nil | (simp only [List.mem_cons, List.mem_append, List.not_mem_nil, or_false] at hm ⊢; omega))) | refine Fr.push ?_ _ | (refine Fr.setM ?_ ?_ _; · first | exact List.mem_cons_self | (simp only [List.mem_cons, true_or, or_true]; done)) | (refine Fr.setN ?_ ?_ _; · first | omega | (simp only [Array.size_push, Array.size_setIfInBounds]; omega)))); done), i + 1, rfl, by omega, by rw [hsucc, if_pos ⟨hg1, hg⟩]; rfl⟩
          · simp (disch := first | omega | assumption | ((repeat' (first | exact Fr.refl _ _ | assumption | (refine Fr.via (by assumption) ?_ (by intro i hi hm; first | exact hm | exact List.mem_cons_of_mem _ hm | exact absurd hm List.not_mem_nil | (simp only [List.mem_cons, List.mem_append, List.not_mem_nil, or_false] at hm ⊢; omega))) | refine Fr.push ?_ _ | (refine Fr.setM ?_ ?_ _; · first | exact List.mem_cons_self | (simp only [List.mem_cons, true_or, or_true]; done)) | (refine Fr.setN ?_ ?_ _; · first | omega | (simp only [Array.size_push, Array.size_setIfInBounds]; omega)))); done) | (simp only [Array.size_push, Array.size_setIfInBounds, List.length_cons, List.length_nil, List.mem_cons, List.not_mem_nil, or_false, false_or, not_false_eq_true, not_or]; done) | (simp only [Array.size_push, Array.size_setIfInBounds, List.length_cons, List.length_nil, List.mem_cons, List.not_mem_nil, or_false, false_or, not_or]; omega)) only [go_sem, ↓mwp_block, ↓e_alloc, ↓e_box, ↓e_bslice, storeT_eq, Nat.reduceEqDiff, Nat.reduceAdd, Nat.reduceMul, Nat.reduceSub, Nat.reduceLeDiff, Nat.reduceLT, reduceIte, Int.reduceLT, Int.reduceLE, Int.reduceAdd, Int.reduceSub, Int.reduceMul, Int.reduceEq, Int.reduceToNat, Int.reduceNeg, Int.reduceNe, e15]
            omega
        · refine hJ _ _ ?_ ?_
          · simp (disch := first | omega | assumption | ((repeat' (first | exact Fr.refl _ _ | assumption | (refine Fr.via (by assumption) ?_ (by intro i hi hm; first | exact hm | exact List.mem_cons_of_mem _ hm | exact absurd hm List.not_mem_nil | (simp only [List.mem_cons, List.mem_append, List.not_mem_nil, or_false] at hm ⊢; omega))) | refine Fr.push ?_ _ | (refine Fr.setM ?_ ?_ _; · first | exact List.mem_cons_self | (simp only [List.mem_cons, true_or, or_true]; done)) | (refine Fr.setN ?_ ?_ _; · first | omega | (simp only [Array.size_push, Array.size_setIfInBounds]; omega)))); done) | (simp only [Array.size_push, Array.size_setIfInBounds, List.length_cons, List.length_nil, List.mem_cons, List.not_mem_nil, or_false, false_or, not_false_eq_true, not_or]; done) | (simp only [Array.size_push, Array.size_setIfInBounds, List.length_cons, List.length_nil, List.mem_cons, List.not_mem_nil, or_false, false_or, not_or]; omega)) only [go_sem, ↓mwp_block, ↓e_alloc, ↓e_box, ↓e_bslice, storeT_eq, Nat.reduceEqDiff, Nat.reduceAdd, Nat.reduceMul, Nat.reduceSub, Nat.reduceLeDiff, Nat.reduceLT, reduceIte, Int.reduceLT, Int.reduceLE, Int.reduceAdd, Int.reduceSub, Int.reduceMul, Int.reduceEq, Int.reduceToNat, Int.reduceNeg, Int.reduceNe, e1, e13, e14, e5]
            exact ⟨by ((repeat' (first | exact Fr.refl _ _ | assumption | (refine Fr.via (by assumption) ?_ (by intro i hi hm; first | exact hm | exact List.mem_cons_of_mem _ hm | exact absurd hm List.not_mem_nil | (simp only [List.mem_cons, List.mem_append, List.not_mem_nil, or_false] at hm ⊢; omega))) | refine Fr.push ?_ _ | (refine Fr.setM ?_ ?_ _; · first | exact List.mem_cons_self | (simp only [List.mem_cons, true_or, or_true]; done)) | (refine Fr.setN ?_ ?_ _; · first | omega | (simp only [Array.size_push, Array.size_setIfInBounds]; omega)))); done), i + 1, rfl, by omega, by rw [hsucc, if_neg (by simp [hg])]; rfl⟩
          · simp (disch := first | omega | assumption | ((repeat' (first | exact Fr.refl _ _ | assumption | (refine Fr.via (by assumption) ?_ (by intro i hi hm; first | exact hm | exact List.mem_cons_of_mem _ hm | exact absurd hm List.not_mem_nil | (simp only [List.mem_cons, List.mem_append, List.not_mem_nil, or_false] at hm ⊢; omega))) | refine Fr.push ?_ _ | (refine Fr.setM ?_ ?_ _; · first | exact List.mem_cons_self | (simp only [List.mem_cons, true_or, or_true]; done)) | (refine Fr.setN ?_ ?_ _; · first | omega | (simp only [Array.size_push, Array.size_setIfInBounds]; omega)))); done) | (simp only [Array.size_push, Array.size_setIfInBounds, List.length_cons, List.length_nil, List.mem_cons, List.not_mem_nil, or_false, false_or, not_false_eq_true, not_or]; done) | (simp only [Array.size_push, Array.size_setIfInBounds, List.length_cons, List.length_nil, List.mem_cons, List.not_mem_nil, or_false, false_or, not_or]; omega)) only [go_sem, ↓mwp_block, ↓e_alloc, ↓e_box, ↓e_bslice, storeT_eq, Nat.reduceEqDiff, Nat.reduceAdd, Nat.reduceMul, Nat.reduceSub, Nat.reduceLeDiff, Nat.reduceLT, reduceIte, Int.reduceLT, Int.reduceLE, Int.reduceAdd, Int.reduceSub, Int.reduceMul, Int.reduceEq, Int.reduceToNat, Int.reduceNeg, Int.reduceNe, e15]
            omega

end Go.Proofs.YtblalmgahfbalaaGreat.MX

namespace Go.Proofs.YtblalmgahfbalaaGreat.MX
open Go Go.Proofs
set_option linter.unusedSimpArgs false

/-- Said once more. -/
def Msg.bump (now : Int) (m : Msg) : Msg := ⟨m.key, m.kind, m.rma, m.value, m.tries + 1, now + wait (m.tries + 1)⟩
/-- Three lists, each in blocks of its own. -/
structure Tri (T base : Nat) (h : Heap) (a b c : Value) (x y z : List Msg) : Prop where
  oa : Own Msg.enc 6 T base h a x
  ob : Own Msg.enc 6 T base h b y
  oc : Own Msg.enc 6 T base h c z
  ab : ∀ i ∈ blkOf a, i ∉ blkOf b
  ac : ∀ i ∈ blkOf a, i ∉ blkOf c
  bc : ∀ i ∈ blkOf b, i ∉ blkOf c
theorem Tri.set {T base : Nat} {h : Heap} {a b c : Value} {x y z : List Msg} (t : Tri T base h a b c x y z) {k : Nat} {o : Obj} (hk : k ∉ blkOf a ∧ k ∉ blkOf b ∧ k ∉ blkOf c) : Tri T base (h.setIfInBounds k o) a b c x y z :=
  ⟨t.oa.set hk.1, t.ob.set hk.2.1, t.oc.set hk.2.2, t.ab, t.ac, t.bc⟩
theorem Tri.push {T base : Nat} {h : Heap} {a b c : Value} {x y z : List Msg} (t : Tri T base h a b c x y z) {o : Obj} : Tri T base (h.push o) a b c x y z :=
  ⟨t.oa.push, t.ob.push, t.oc.push, t.ab, t.ac, t.bc⟩
theorem Tri.new {T base : Nat} {h : Heap} {a b c : Value} {x y z : List Msg} (t : Tri T base h a b c x y z) {k : Nat} (hk : h.size ≤ k) : k ∉ blkOf a ∧ k ∉ blkOf b ∧ k ∉ blkOf c :=
  ⟨fun hm => by have := (t.oa.lt _ hm).1; omega, fun hm => by have := (t.ob.lt _ hm).1; omega, fun hm => by have := (t.oc.lt _ hm).1; omega⟩
end Go.Proofs.YtblalmgahfbalaaGreat.MX

/- The outbox as a thing that stands in a heap; its methods. -/
namespace Go.Proofs.YtblalmgahfbalaaGreat.MX
open Go Go.Proofs
set_option linter.unusedSimpArgs false
set_option linter.unusedVariables false
set_option maxHeartbeats 4000000
def obxA (o : Nat) (n : Int) (L : List Msg) : HP := exA fun s => starA (cellA o [.int .i64 n, s] 128) (ownA Msg.enc 6 107 s L)
section
variable {h0 h : Heap} {l : List HP} {o : Nat} {n : Int} {L : List Msg}
theorem St.obx : St h0 h (obxA o n L :: l) ↔ ∃ s, St h0 h (cellA o [.int .i64 n, s] 128 :: ownA Msg.enc 6 107 s L :: l) := by
  rw [obxA, St.ex]
  exact exists_congr fun s => St.star
theorem St.isOb (S : St h0 h (obxA o n L :: l)) : ∃ s, IsOb h0.size h o s n L ∧ ∀ h' s' n' L', IsOb h0.size h' o s' n' L' → Fr h h' (o :: blkOf s) → (∀ b ∈ blkOf s', b ∈ blkOf s ∨ h.size ≤ b) → St h0 h' (obxA o n' L' :: l) := by
  rw [obxA, St.ex] at S
  obtain ⟨s, S⟩ := S
  obtain ⟨B, hp, hb, hk⟩ := S.hd
  obtain ⟨C, D, rfl, ⟨rfl, hc⟩, ⟨rfl, hd⟩, hdis⟩ := hp
  refine ⟨s, ⟨hc, hb o (by simp), hd.rebase (fun b hm => hb b (by simp [hm])), hdis o (by simp)⟩, fun h' s' n' L' i hf hs => ?_⟩
  refine hk h' (obxA o n' L') (o :: blkOf s') hf ⟨s', [o], blkOf s', rfl, ⟨rfl, i.blk⟩, ⟨rfl, i.own.rebase fun _ _ => Nat.zero_le _⟩, by simpa using i.apart⟩ ?_
  intro b hm
  rcases List.mem_cons.1 hm with rfl | hm
  · exact .inl (by simp)
  · rcases hs b hm with h1 | h1
    · exact .inl (by simp [h1])
    · exact .inr h1
theorem NewO_ok (S : St h0 h l) : CallsH Tryz.prog 30 [] h fun v h' => ∃ o, v = .pointer (some ⟨o, 0, none⟩) ∧ St h0 h' (obxA o 1 [] :: l) :=
  (ONew_ok h).mono fun v h' ⟨o, e, hge, _, hb, hf⟩ => ⟨o, e, St.obx.2 ⟨_, (S.new (q := cellA o [.int .i64 1, .slice none 0 0] 128) hf (C := [o]) ⟨rfl, hb⟩ (by simpa using hge)).nilS.p1⟩⟩
theorem WaitsO_ok (rma : Int) (S : St h0 h (obxA o n L :: l)) (hl : L.length < 1000000) :
    CallsH Tryz.prog 42 [.pointer (some ⟨o, 0, none⟩), .int .i64 rma] h fun v h' => v = .int .i64 (waitsOf rma L) ∧ Fr h h' [] := by
  obtain ⟨s, i, hk⟩ := S.isOb
  exact Waits_ok rma i hl
theorem AllO_ok (S : St h0 h (obxA o n L :: l)) (hl : L.length < 1000000) :
    CallsH Tryz.prog 43 [.pointer (some ⟨o, 0, none⟩)] h fun v h' => St h0 h' (ownA Msg.enc 6 107 v L :: obxA o n L :: l) := by
  obtain ⟨s, i, hk⟩ := S.isOb
  exact (OAll_ok i hl).mono fun v h' ⟨ho, hf⟩ => S.ownNew hf ho
theorem CloneOut_ok (S : St h0 h (obxA o n L :: l)) (hl : L.length < 1000000) :
    CallsH Tryz.prog 61 [.pointer (some ⟨o, 0, none⟩)] h fun v h' => ∃ p, v = .pointer (some ⟨p, 0, none⟩) ∧ St h0 h' (obxA p n L :: obxA o n L :: l) := by
  obtain ⟨s, S⟩ := St.obx.1 S
  obtain ⟨A, c, rfl⟩ := S.p1.sl
  have hg0 := st_rd1 (off := 0) S
  have hg1 := st_rd1 (off := 1) S
  simp only [List.getElem?_cons_succ, List.getElem?_cons_zero] at hg0 hg1
  have hI : (fun h' => rd1 h' (.pointer (some ⟨o, 0, none⟩)) = some (.int .i64 n) ∧ rd1 h' (.pointer (some ⟨o, 1, none⟩)) = some (.slice A L.length c)) h := ⟨hg0, hg1⟩
  have rx : ∀ K t, readT (fun h' => rd1 h' (.pointer (some ⟨o, 0, none⟩)) = some (.int .i64 n) ∧ rd1 h' (.pointer (some ⟨o, 1, none⟩)) = some (.slice A L.length c)) (fun h' => rd1 h' (.pointer (some ⟨o, 0, none⟩))) K t = K (.int .i64 n) := fun K t => readT_I (fun h' hh => hh.1) h hI
  have ry : ∀ K t, readT (fun h' => rd1 h' (.pointer (some ⟨o, 0, none⟩)) = some (.int .i64 n) ∧ rd1 h' (.pointer (some ⟨o, 1, none⟩)) = some (.slice A L.length c)) (fun h' => rd1 h' (.pointer (some ⟨o, 1, none⟩))) K t = K (.slice A L.length c) := fun K t => readT_I (fun h' hh => hh.2) h hI
  (refine enterK c_outbox_Outbox_Clone (Nat.le_of_ble_eq_true rfl) fun K hK => ?_; (try simp (maxSteps := 1000000) (disch := first | omega | assumption | exact Nat.le_of_ble_eq_true rfl) only [go_sem, ↓mwp_block, simprocAttr, ir_outbox_Outbox_Clone]))
  refine draw_inv (fun h' => rd1 h' (.pointer (some ⟨o, 0, none⟩)) = some (.int .i64 n) ∧ rd1 h' (.pointer (some ⟨o, 1, none⟩)) = some (.slice A L.length c)) hI ?_
  (try simp (maxSteps := 1000000) (disch := first | omega | assumption | exact Nat.le_of_ble_eq_true rfl) only [go_sem, ↓mwp_block, simprocAttr, rx, ry])
  refine call_intro (CloneMsg_ok (S.p1.arr enc_len) rfl S.p1.own.nilA (by omega)) ?_
  rintro v h' ⟨ho, hf, _⟩
  have S := S.ownNew hf ho
  clear rx ry hI hg0 hg1
  obtain ⟨B, d, rfl⟩ := S.sl
  refine ⟨⟨st_rd1 (off := 0) S.p1, st_rd1 (off := 1) S.p1⟩, ?_⟩
  (try simp (maxSteps := 1000000) (disch := first | omega | assumption | exact Nat.le_of_ble_eq_true rfl) only [go_sem, ↓mwp_block, simprocAttr])
  (refine st_alloc S ?_; clear S; intro p h S; (try simp only [splice_cons, splice_nil, List.set_cons_zero, List.set_cons_succ, Nat.zero_add, Nat.reduceAdd, List.cons_append, List.nil_append] at S); ((try clear F); have F := S.all; (try simp only [all_cons, all_nil, says_cell, and_true] at F)))
  (try simp (maxSteps := 1000000) (disch := first | omega | assumption | exact Nat.le_of_ble_eq_true rfl) only [go_sem, ↓mwp_block, simprocAttr])
  exact hK _ _ ⟨p, rfl, St.obx.2 ⟨_, (St.obx.2 ⟨_, S.p2.p3.p1⟩).p1.p2.p1⟩⟩
end
end Go.Proofs.YtblalmgahfbalaaGreat.MX

/- What is read: numbers and bytes taken one behind the other (codec.In). -/
namespace Go.Proofs.YtblalmgahfbalaaGreat.MX
open Go Go.Proofs
set_option linter.unusedSimpArgs false
set_option linter.unusedVariables false

/-! What a reading of n bytes yields, and leaves. -/
def rdV (n : Nat) (bs : List UInt8) (bad : Bool) : Int := if bad = true ∨ bs.length < n then 0 else num (bs.take n)
def rdB (n : Nat) (bs : List UInt8) (bad : Bool) : List UInt8 := if bad = true ∨ bs.length < n then [] else bs.drop n
def rdX (n : Nat) (bs : List UInt8) (bad : Bool) : Bool := bad || decide (bs.length < n)
end Go.Proofs.YtblalmgahfbalaaGreat.MX

/- Numbers that are read. -/
namespace Go.Proofs.YtblalmgahfbalaaGreat.MX
open Go Go.Proofs
set_option linter.unusedSimpArgs false
set_option linter.unusedVariables false

theorem rdV_nn (n : Nat) (bs : List UInt8) (bad : Bool) : 0 ≤ rdV n bs bad ∧ rdV n bs bad < 256 ^ n := by
  unfold rdV
  split
  · exact ⟨Int.le_refl _, Int.pow_pos (by decide)⟩
  · rename_i hb
    have h1 := num_lt (bs.take n)
    have h2 : (bs.take n).length = n := by simp only [not_or] at hb; simp; omega
    rw [h2] at h1
    exact ⟨num_nonneg _, h1⟩
end Go.Proofs.YtblalmgahfbalaaGreat.MX

/- One policy read. -/
namespace Go.Proofs.YtblalmgahfbalaaGreat.MX
open Go Go.Proofs
set_option linter.unusedSimpArgs false
set_option linter.unusedVariables false

/-- What is left behind a reading. -/
def stp (n : Nat) (q : List UInt8 × Bool) : List UInt8 × Bool := (rdB n q.1 q.2, rdX n q.1 q.2)
def vl (n : Nat) (q : List UInt8 × Bool) : Int := rdV n q.1 q.2
def q1 (q : List UInt8 × Bool) := stp 2 q
def q2 (q : List UInt8 × Bool) := stp 1 (q1 q)
def q3 (q : List UInt8 × Bool) := stp 2 (q2 q)
def q4 (q : List UInt8 × Bool) := stp 2 (q3 q)
def q5 (q : List UInt8 × Bool) := stp 2 (q4 q)
def q6 (q : List UInt8 × Bool) := stp 2 (q5 q)
def q7 (q : List UInt8 × Bool) := stp 2 (q6 q)
def q8 (q : List UInt8 × Bool) := stp 1 (q7 q)
def q9 (q : List UInt8 × Bool) := stp 2 (q8 q)
end Go.Proofs.YtblalmgahfbalaaGreat.MX

/- A table's bytes and the table that they are: plain facts. -/
namespace Go.Proofs.YtblalmgahfbalaaGreat.MX
open Go Go.Proofs
set_option linter.unusedSimpArgs false
set_option linter.unusedVariables false

theorem le_num_n (l : List UInt8) (n : Nat) (h : l.length = n) : le n (num l) = l := by subst h; exact le_num l

end Go.Proofs.YtblalmgahfbalaaGreat.MX

/- Tables decoded; the law TableBack. -/
namespace Go.Proofs.YtblalmgahfbalaaGreat.MX
open Go Go.Proofs
set_option linter.unusedSimpArgs false
set_option linter.unusedVariables false

theorem arr_none {α : Type} {enc : α → List Value} {sz : Nat} {h : Heap} {A : Option Addr} {xs : List α} (ha : Arr enc sz h A xs) : A = none → xs = [] := by
  rintro rfl
  cases xs with
  | nil => rfl
  | cons x xs => obtain ⟨b, off, hA, _⟩ := ha 0 (by simp); cases hA
end Go.Proofs.YtblalmgahfbalaaGreat.MX
