/- Timers, part 6: the law's same, ahead, without. -/
import Derived.Test.YtnjjdpeglkiifaaTi5
namespace Go.Proofs.Ytnjjdpeglkiifaa.MX
open Go Go.Proofs
set_option linter.unusedSimpArgs false
set_option linter.unusedVariables false
set_option maxHeartbeats 4000000
theorem find_own {L : List Tm} (hg : L.Pairwise (fun a b => a.num ≠ b.num)) {i : Nat} (hi : i < L.length) : L.find? (isNum L[i].num) = some L[i] := by
  refine find_at hi (fun x hx => ?_) (by simp [isNum])
  obtain ⟨k, hk, rfl⟩ := List.mem_iff_getElem.1 hx
  rw [List.length_take] at hk
  rw [List.getElem_take]
  have := List.pairwise_iff_getElem.1 hg k i (by omega) hi (by omega)
  simpa [isNum] using this
section
variable {h0 h : Heap} {l : List HP} {t : Nat} {L : List Tm}
theorem Same12_ok {A : Option Addr} {c : Nat} (S : St h0 h (timA t L :: l)) (hw : ∀ h', St h0 h' l → Arr tmE 2 h' A L) (hL : L.length < 1000000) (hg : GoodT L) :
    CallsH Try.prog 22 [.pointer (some ⟨t, 0, none⟩), .slice A L.length c] h fun v h' => v = .bool true ∧ St h0 h' (timA t L :: l) := by
  (refine enterK c_recouplaw12_same (Nat.le_of_ble_eq_true rfl) fun K hK => ?_; (try simp (maxSteps := 1000000) (disch := first | omega | assumption | exact Nat.le_of_ble_eq_true rfl) only [go_sem, ↓mwp_block, simprocAttr, ir_recouplaw12_same]))
  refine call_intro (AllT_ok S hL) ?_
  clear S
  intro v h S
  obtain ⟨B, d, rfl⟩ := S.sl
  (try simp (maxSteps := 1000000) (disch := first | omega | assumption | exact Nat.le_of_ble_eq_true rfl) only [go_sem, ↓mwp_block, simprocAttr])
  refine call_intro (NextT_ok S.p1) ?_
  rintro _ _ ⟨rfl, rfl⟩
  (try simp (maxSteps := 1000000) (disch := first | omega | assumption | exact Nat.le_of_ble_eq_true rfl) only [go_sem, ↓mwp_block, simprocAttr])
  refine call_intro (LenT_ok S.p1) ?_
  rintro _ _ ⟨rfl, rfl⟩
  have hend : ∀ {h' : Heap}, St h0 h' (ownA tmE 2 30 (.slice B L.length d) L :: timA t L :: l) → K (.bool true) h' := fun S => hK _ _ ⟨rfl, S.tl⟩
  have hb1 : (L = [] ∧ dcd (L ≠ []) = false) ∨ (L ≠ [] ∧ dcd (L ≠ []) = true) := by
    by_cases e : L = []
    · exact .inl ⟨e, dcd_false (by simp [e])⟩
    · exact .inr ⟨e, dcd_true e⟩
  rcases hb1 with ⟨rfl, hb⟩ | ⟨hne, hb⟩
  · rw [hb]
    simp only [List.length_nil]
    (try simp (maxSteps := 1000000) (disch := first | omega | assumption | exact Nat.le_of_ble_eq_true rfl) only [go_sem, ↓mwp_block, simprocAttr, beq_self_eq_true, Bool.not_false, Bool.not_true])
    refine loop_unroll 1 ?_
    (try simp (maxSteps := 1000000) (disch := first | omega | assumption | exact Nat.le_of_ble_eq_true rfl) only [go_sem, ↓mwp_block, simprocAttr])
    exact hend S
  · have hpos : 0 < L.length := List.length_pos_iff.2 hne
    obtain ⟨b, off, rfl, hr⟩ := hw _ S.tl.tl 0 hpos
    simp only [Nat.zero_mul, Nat.add_zero] at hr
    have hr0 : rd1 _ (.pointer (some ⟨b, off, none⟩)) = some (.int .i64 L[0].day) := rd1_part hr 0 (by omega)
    have hd0 : (L.head?.map Tm.day).getD 0 = L[0].day := by cases L with | nil => exact absurd rfl hne | cons x M => rfl
    rw [hb, hd0]
    (try simp (maxSteps := 1000000) (disch := first | omega | assumption | exact Nat.le_of_ble_eq_true rfl) only [go_sem, ↓mwp_block, simprocAttr, hr0, beq_self_eq_true, Bool.not_false, Bool.not_true])
    clear hr hr0
    refine loop_intro (fun ρ h' => St h0 h' (ownA tmE 2 30 (.slice B L.length d) L :: timA t L :: l) ∧ ρ 0 = .pointer (some ⟨t, 0, none⟩) ∧ ρ 1 = .slice (some ⟨b, off, none⟩) L.length c ∧ ρ 5 = .slice B L.length d ∧ ρ 49 = .int .i64 L.length ∧ ∃ i : Nat, ρ 50 = .int .i64 i ∧ i ≤ L.length) (fun ρ _ => L.length - (iv (ρ 50)).toNat) ?_ ?_
    · (try simp (maxSteps := 1000000) (disch := first | omega | assumption | exact Nat.le_of_ble_eq_true rfl) only [go_sem, ↓mwp_block, simprocAttr])
      exact ⟨S, 0, rfl, by omega⟩
    · clear S
      rintro ρ h J hJ ⟨S, e0, e1, e5, e49, i, e50, hi⟩
      (try simp (maxSteps := 1000000) (disch := first | omega | assumption | exact Nat.le_of_ble_eq_true rfl) only [go_sem, ↓mwp_block, simprocAttr, e50, e49])
      refine cond_dec (fun hlt => ?_) (fun hlt => ?_)
      · have hil : i < L.length := by omega
        obtain ⟨b1, o1, hA, hr⟩ := hw _ S.tl.tl i hil
        cases hA
        have hr1 : rd1 h (.pointer (some ⟨b, off + i * 2 + 1, none⟩)) = some (.int .i64 L[i].num) := rd1_part hr 1 (by omega)
        (try simp (maxSteps := 1000000) (disch := first | omega | assumption | exact Nat.le_of_ble_eq_true rfl) only [go_sem, ↓mwp_block, simprocAttr, e0, e1, e50, hr1])
        refine call_intro (DayT_ok _ S.p1 hL) ?_
        rw [find_own hg.2 hil]
        clear S hr hr1
        rintro _ h ⟨rfl, S⟩
        have S := S.p1
        obtain ⟨b2, o2, rfl, hr2⟩ := S.arr tmE_len i hil
        obtain ⟨b1, o1, hA, hr⟩ := hw _ S.tl.tl i hil
        cases hA
        have hr0 : rd1 h (.pointer (some ⟨b, off + i * 2, none⟩)) = some (.int .i64 L[i].day) := rd1_part hr 0 (by omega)
        (try simp (maxSteps := 1000000) (disch := first | omega | assumption | exact Nat.le_of_ble_eq_true rfl) only [go_sem, ↓mwp_block, simprocAttr])
        refine draw_eq ?_
        (try simp (maxSteps := 1000000) (disch := first | omega | assumption | exact Nat.le_of_ble_eq_true rfl) only [go_sem, ↓mwp_block, simprocAttr, e0, e1, e5, e50, hr, hr0, hr2, tmE, Option.isSome_some, Option.map_some, Option.getD_some])
        refine hJ _ _ ?_ ?_
        · (try simp (maxSteps := 1000000) (disch := first | omega | assumption | exact Nat.le_of_ble_eq_true rfl) only [go_sem, ↓mwp_block, simprocAttr, e0, e1, e5, e49])
          exact ⟨S, i + 1, rfl, by omega⟩
        · (try simp (maxSteps := 1000000) (disch := first | omega | assumption | exact Nat.le_of_ble_eq_true rfl) only [go_sem, ↓mwp_block, simprocAttr, e50])
          omega
      · (try simp (maxSteps := 1000000) (disch := first | omega | assumption | exact Nat.le_of_ble_eq_true rfl) only [go_sem, ↓mwp_block, simprocAttr])
        exact hend S
theorem ahead_ok (a b : Tm) (S : St h0 h l) : CallsH Try.prog 20 [.agg (tmE a).toArray, .agg (tmE b).toArray] h fun v h' => v = .bool (dcd (aheadT a b)) ∧ St h0 h' l := by
  simp only [tmE]
  by_cases h1 : a.day < b.day
  · (refine enterK c_recouplaw12_ahead (Nat.le_of_ble_eq_true rfl) fun K hK => ?_; (try simp (maxSteps := 1000000) (disch := first | omega | assumption | exact Nat.le_of_ble_eq_true rfl) only [go_sem, ↓mwp_block, simprocAttr, ir_recouplaw12_ahead]))
    (refine st_alloc S ?_; clear S; intro p h S; (try simp only [splice_cons, splice_nil, List.set_cons_zero, List.set_cons_succ, Nat.zero_add, Nat.reduceAdd, List.cons_append, List.nil_append] at S); ((try clear F); have F := S.all; (try simp only [all_cons, all_nil, says_cell, and_true] at F)))
    (try simp (maxSteps := 1000000) (disch := first | omega | assumption | exact Nat.le_of_ble_eq_true rfl) only [go_sem, ↓mwp_block, simprocAttr, F])
    (refine st_alloc S ?_; clear S; intro q h S; (try simp only [splice_cons, splice_nil, List.set_cons_zero, List.set_cons_succ, Nat.zero_add, Nat.reduceAdd, List.cons_append, List.nil_append] at S); ((try clear F); have F := S.all; (try simp only [all_cons, all_nil, says_cell, and_true] at F)))
    (try simp (maxSteps := 1000000) (disch := first | omega | assumption | exact Nat.le_of_ble_eq_true rfl) only [go_sem, ↓mwp_block, simprocAttr, F, h1])
    exact hK _ _ ⟨by rw [dcd_true (show aheadT a b from .inl h1)], S.tl.tl⟩
  by_cases h2 : a.day = b.day
  · by_cases h3 : a.num < b.num
    · (refine enterK c_recouplaw12_ahead (Nat.le_of_ble_eq_true rfl) fun K hK => ?_; (try simp (maxSteps := 1000000) (disch := first | omega | assumption | exact Nat.le_of_ble_eq_true rfl) only [go_sem, ↓mwp_block, simprocAttr, ir_recouplaw12_ahead]))
      (refine st_alloc S ?_; clear S; intro p h S; (try simp only [splice_cons, splice_nil, List.set_cons_zero, List.set_cons_succ, Nat.zero_add, Nat.reduceAdd, List.cons_append, List.nil_append] at S); ((try clear F); have F := S.all; (try simp only [all_cons, all_nil, says_cell, and_true] at F)))
      (try simp (maxSteps := 1000000) (disch := first | omega | assumption | exact Nat.le_of_ble_eq_true rfl) only [go_sem, ↓mwp_block, simprocAttr, F])
      (refine st_alloc S ?_; clear S; intro q h S; (try simp only [splice_cons, splice_nil, List.set_cons_zero, List.set_cons_succ, Nat.zero_add, Nat.reduceAdd, List.cons_append, List.nil_append] at S); ((try clear F); have F := S.all; (try simp only [all_cons, all_nil, says_cell, and_true] at F)))
      (try simp (maxSteps := 1000000) (disch := first | omega | assumption | exact Nat.le_of_ble_eq_true rfl) only [go_sem, ↓mwp_block, simprocAttr, F, h1, h2, h3])
      exact hK _ _ ⟨by rw [dcd_true (show aheadT a b from .inr ⟨h2, h3⟩)], S.tl.tl⟩
    · (refine enterK c_recouplaw12_ahead (Nat.le_of_ble_eq_true rfl) fun K hK => ?_; (try simp (maxSteps := 1000000) (disch := first | omega | assumption | exact Nat.le_of_ble_eq_true rfl) only [go_sem, ↓mwp_block, simprocAttr, ir_recouplaw12_ahead]))
      (refine st_alloc S ?_; clear S; intro p h S; (try simp only [splice_cons, splice_nil, List.set_cons_zero, List.set_cons_succ, Nat.zero_add, Nat.reduceAdd, List.cons_append, List.nil_append] at S); ((try clear F); have F := S.all; (try simp only [all_cons, all_nil, says_cell, and_true] at F)))
      (try simp (maxSteps := 1000000) (disch := first | omega | assumption | exact Nat.le_of_ble_eq_true rfl) only [go_sem, ↓mwp_block, simprocAttr, F])
      (refine st_alloc S ?_; clear S; intro q h S; (try simp only [splice_cons, splice_nil, List.set_cons_zero, List.set_cons_succ, Nat.zero_add, Nat.reduceAdd, List.cons_append, List.nil_append] at S); ((try clear F); have F := S.all; (try simp only [all_cons, all_nil, says_cell, and_true] at F)))
      (try simp (maxSteps := 1000000) (disch := first | omega | assumption | exact Nat.le_of_ble_eq_true rfl) only [go_sem, ↓mwp_block, simprocAttr, F, h1, h2, h3])
      exact hK _ _ ⟨by rw [dcd_false (show ¬ aheadT a b by unfold aheadT; omega)], S.tl.tl⟩
  · (refine enterK c_recouplaw12_ahead (Nat.le_of_ble_eq_true rfl) fun K hK => ?_; (try simp (maxSteps := 1000000) (disch := first | omega | assumption | exact Nat.le_of_ble_eq_true rfl) only [go_sem, ↓mwp_block, simprocAttr, ir_recouplaw12_ahead]))
    (refine st_alloc S ?_; clear S; intro p h S; (try simp only [splice_cons, splice_nil, List.set_cons_zero, List.set_cons_succ, Nat.zero_add, Nat.reduceAdd, List.cons_append, List.nil_append] at S); ((try clear F); have F := S.all; (try simp only [all_cons, all_nil, says_cell, and_true] at F)))
    (try simp (maxSteps := 1000000) (disch := first | omega | assumption | exact Nat.le_of_ble_eq_true rfl) only [go_sem, ↓mwp_block, simprocAttr, F])
    (refine st_alloc S ?_; clear S; intro q h S; (try simp only [splice_cons, splice_nil, List.set_cons_zero, List.set_cons_succ, Nat.zero_add, Nat.reduceAdd, List.cons_append, List.nil_append] at S); ((try clear F); have F := S.all; (try simp only [all_cons, all_nil, says_cell, and_true] at F)))
    (try simp (maxSteps := 1000000) (disch := first | omega | assumption | exact Nat.le_of_ble_eq_true rfl) only [go_sem, ↓mwp_block, simprocAttr, F, h1, h2])
    exact hK _ _ ⟨by rw [dcd_false (show ¬ aheadT a b by unfold aheadT; omega)], S.tl.tl⟩
theorem without_ok {A : Option Addr} {c : Nat} {xs : List Tm} (n : Int) (S : St h0 h l) (ha : ∀ h', St h0 h' l → Arr tmE 2 h' A xs) (hL : xs.length < 1000000) :
    CallsH Try.prog 19 [.slice A xs.length c, .int .i64 n] h fun v h' => St h0 h' (ownA tmE 2 30 v (without xs n) :: l) := by
  have S0 : St h0 h (ownA tmE 2 30 (.slice none 0 0) [] :: l) := S.nilS
  (refine enterK c_recouplaw12_without (Nat.le_of_ble_eq_true rfl) fun K hK => ?_; (try simp (maxSteps := 1000000) (disch := first | omega | assumption | exact Nat.le_of_ble_eq_true rfl) only [go_sem, ↓mwp_block, simprocAttr, ir_recouplaw12_without]))
  refine loop_intro (fun ρ h' => ρ 0 = .slice A xs.length c ∧ ρ 1 = .int .i64 n ∧ ρ 8 = .int .i64 xs.length ∧ ∃ i : Nat, ρ 9 = .int .i64 i ∧ i ≤ xs.length ∧ St h0 h' (ownA tmE 2 30 (ρ 5) (without (xs.take i) n) :: l)) (fun ρ _ => xs.length - (iv (ρ 9)).toNat) ?_ ?_
  · (try simp (maxSteps := 1000000) (disch := first | omega | assumption | exact Nat.le_of_ble_eq_true rfl) only [go_sem, ↓mwp_block, simprocAttr])
    exact ⟨0, rfl, by omega, S0⟩
  · clear S S0
    rintro ρ h J hJ ⟨e0, e1, e8, i, e9, hi, S⟩
    (try simp (maxSteps := 1000000) (disch := first | omega | assumption | exact Nat.le_of_ble_eq_true rfl) only [go_sem, ↓mwp_block, simprocAttr, e9, e8])
    refine cond_dec (fun hlt => ?_) (fun hlt => ?_)
    · have hil : i < xs.length := by omega
      obtain ⟨b, off, rfl, hr⟩ := ha _ S.tl i hil
      have hr1 : rd1 h (.pointer (some ⟨b, off + i * 2 + 1, none⟩)) = some (.int .i64 xs[i].num) := rd1_part hr 1 (by omega)
      have htk : xs.take (i + 1) = xs.take i ++ [xs[i]] := by rw [List.take_succ_eq_append_getElem hil]
      have hwl : (without (xs.take i) n).length ≤ i := Nat.le_trans (List.length_filter_le _ _) (by rw [List.length_take]; omega)
      by_cases hn : xs[i].num = n
      · (try simp (maxSteps := 1000000) (disch := first | omega | assumption | exact Nat.le_of_ble_eq_true rfl) only [go_sem, ↓mwp_block, simprocAttr, e0, e1, e9, hr1, hn])
        refine hJ _ _ ?_ ?_
        · (try simp (maxSteps := 1000000) (disch := first | omega | assumption | exact Nat.le_of_ble_eq_true rfl) only [go_sem, ↓mwp_block, simprocAttr, e0, e1, e8])
          refine ⟨i + 1, rfl, by omega, ?_⟩
          rw [htk, without, List.filter_append]
          simpa [isNum, hn, without] using S
        · (try simp (maxSteps := 1000000) (disch := first | omega | assumption | exact Nat.le_of_ble_eq_true rfl) only [go_sem, ↓mwp_block, simprocAttr, e9])
          omega
      · simp only [tmE] at hr
        (try simp (maxSteps := 1000000) (disch := first | omega | assumption | exact Nat.le_of_ble_eq_true rfl) only [go_sem, ↓mwp_block, simprocAttr, e0, e1, e9, hr1, hn, hr, splice_cons, splice_nil])
        (refine st_alloc S ?_; clear S; intro g h S; (try simp only [splice_cons, splice_nil, List.set_cons_zero, List.set_cons_succ, Nat.zero_add, Nat.reduceAdd, List.cons_append, List.nil_append] at S); ((try clear F); have F := S.all; (try simp only [all_cons, all_nil, says_cell, and_true] at F)))
        obtain ⟨A', c', e5⟩ := S.p1.sl
        rw [e5] at S ⊢
        (try simp (maxSteps := 1000000) (disch := first | omega | assumption | exact Nat.le_of_ble_eq_true rfl) only [go_sem, ↓mwp_block, simprocAttr, e5])
        refine st_append1 (bytes := 16) (x := xs[i]) tmE_len (by omega) tmE_plain rfl rfl S (by omega) (by omega) ?_
        clear S F
        intro v h S
        (try simp (maxSteps := 1000000) (disch := first | omega | assumption | exact Nat.le_of_ble_eq_true rfl) only [go_sem, ↓mwp_block, simprocAttr, e9])
        refine hJ _ _ ?_ ?_
        · (try simp (maxSteps := 1000000) (disch := first | omega | assumption | exact Nat.le_of_ble_eq_true rfl) only [go_sem, ↓mwp_block, simprocAttr, e0, e1, e8])
          refine ⟨i + 1, rfl, by omega, ?_⟩
          rw [htk, without, List.filter_append]
          simpa [isNum, hn, without] using S
        · (try simp (maxSteps := 1000000) (disch := first | omega | assumption | exact Nat.le_of_ble_eq_true rfl) only [go_sem, ↓mwp_block, simprocAttr, e9])
          omega
    · obtain rfl : i = xs.length := by omega
      (try simp (maxSteps := 1000000) (disch := first | omega | assumption | exact Nat.le_of_ble_eq_true rfl) only [go_sem, ↓mwp_block, simprocAttr])
      rw [List.take_length] at S
      exact hK _ _ S
end
end Go.Proofs.Ytnjjdpeglkiifaa.MX
