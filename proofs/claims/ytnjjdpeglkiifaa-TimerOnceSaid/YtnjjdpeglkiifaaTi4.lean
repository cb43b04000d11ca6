/- Timers, part 4: Day, Stop, Set, Due. -/
import Derived.Test.YtnjjdpeglkiifaaTi3
namespace Go.Proofs.Ytnjjdpeglkiifaa.MX
open Go Go.Proofs
set_option linter.unusedSimpArgs false
set_option linter.unusedVariables false
set_option maxHeartbeats 4000000
theorem find_no {p : Tm → Bool} {L : List Tm} (hp : ∀ x ∈ L, p x = false) : L.find? p = none := List.find?_eq_none.2 fun x hx => by simp [hp x hx]
theorem find_at {p : Tm → Bool} : ∀ {L : List Tm} {i : Nat} (hi : i < L.length), (∀ x ∈ L.take i, p x = false) → p L[i] = true → L.find? p = some L[i]
  | [], i, hi, _, _ => by simp at hi
  | x :: L, 0, hi, _, h => by simpa using by simp [List.find?_cons, show p x = true from h]
  | x :: L, i + 1, hi, h1, h2 => by
    rw [List.find?_cons, show p x = false from h1 x (by simp)]
    exact find_at (by simpa using hi) (fun y hy => h1 y (by simp [hy])) h2
theorem without_no {n : Int} {L : List Tm} (hp : ∀ x ∈ L, isNum n x = false) : without L n = L := List.filter_eq_self.2 fun x hx => by simp [hp x hx]
theorem without_at {n : Int} {L : List Tm} {i : Nat} (hi : i < L.length) (h1 : ∀ x ∈ L.take i, isNum n x = false) (h2 : isNum n L[i] = true) (hg : L.Pairwise (fun a b => a.num ≠ b.num)) : without L n = L.take i ++ L.drop (i + 1) := by
  have hd : ∀ x ∈ L.drop (i + 1), isNum n x = false := by
    intro x hx
    obtain ⟨k, hk, rfl⟩ := List.mem_iff_getElem.1 hx
    rw [List.length_drop] at hk
    rw [List.getElem_drop]
    have := List.pairwise_iff_getElem.1 hg i (i + 1 + k) hi (by omega) (by omega)
    simp only [isNum, decide_eq_true_eq] at h2
    simp only [isNum, decide_eq_false_iff_not]
    rw [← h2]
    exact fun e => this e.symm
  unfold without
  conv => lhs; rw [← List.take_append_drop i L, List.drop_eq_getElem_cons hi, List.filter_append, List.filter_cons]
  rw [if_neg (by simp [h2])]
  congr 1
  · exact List.filter_eq_self.2 fun x hx => by simp [h1 x hx]
  · exact List.filter_eq_self.2 fun x hx => by simp [hd x hx]
/-- A timer set. -/
def insT (L : List Tm) (x : Tm) : List Tm := L.take (posT L x) ++ x :: L.drop (posT L x)
def setT (L : List Tm) (n d : Int) : List Tm := insT (without L n) ⟨d, n⟩
def dueT (L : List Tm) (d : Int) : List Tm := L.takeWhile fun x => decide (x.day ≤ d)
def lateT (L : List Tm) (d : Int) : List Tm := L.dropWhile fun x => decide (x.day ≤ d)
def slN : Value → Nat
  | .slice _ n _ => n
  | _ => 0
def iEnc (x : Int) : List Value := [.int .i64 x]
theorem iEnc_len (x : Int) : (iEnc x).length = 1 := rfl
theorem iEnc_plain (x : Int) : plainCells (iEnc x) = true := rfl
section
variable {h0 h : Heap} {l : List HP} {t : Nat} {L : List Tm}
theorem St.timO' {s v : Value} {L' : List Tm} (S : St h0 h (cellA t [s] 27 :: offA tmE 2 30 v L' :: l)) : ∃ A c, v = .slice A L'.length c := S.p1.offSl
theorem St.apart {b : Nat} {cs : List Value} {T T' sz : Nat} {α : Type} {enc : α → List Value} {v : Value} {xs : List α} (S : St h0 h (cellA b cs T :: offA enc sz T' v xs :: l)) : b ∉ blkOf v := by
  obtain ⟨_, C, hp, _, D, hq, hd, _⟩ := S
  obtain ⟨rfl, _⟩ := hp
  obtain ⟨rfl, _⟩ := hq
  exact fun hm => (hd b hm).2 (by simp)
theorem OwnO.keepPush {α : Type} {enc : α → List Value} {sz T : Nat} {v : Value} {xs : List α} {o : Obj} (ho : OwnO enc sz T h v xs) : OwnO enc sz T (h.push o) v xs := ho.keep fun b hb => blk_push_old (ho.lt b hb)
theorem Day_nil (n : Int) (h : Heap) : CallsH Try.prog 18 [.pointer none, .int .i64 n] h fun v h' => v = .tuple #[.int .i64 0, .bool false] ∧ Fr h h' [] := by
  (refine enterK c_timer_Timers_Day (Nat.le_of_ble_eq_true rfl) fun K hK => ?_; (try simp (maxSteps := 1000000) (disch := first | omega | assumption | exact Nat.le_of_ble_eq_true rfl) only [go_sem, ↓mwp_block, simprocAttr, ir_timer_Timers_Day]))
  refine call_intro (at_nil _ _) ?_
  rintro _ h' ⟨rfl, hf⟩
  (try simp (maxSteps := 1000000) (disch := first | omega | assumption | exact Nat.le_of_ble_eq_true rfl) only [go_sem, ↓mwp_block, simprocAttr])
  exact hK _ _ ⟨rfl, hf⟩
theorem DayT_ok (n : Int) (S : St h0 h (timA t L :: l)) (hL : L.length < 1000000) : CallsH Try.prog 18 [.pointer (some ⟨t, 0, none⟩), .int .i64 n] h fun v h' => v = .tuple #[.int .i64 (((L.find? (isNum n)).map Tm.day).getD 0), .bool (L.find? (isNum n)).isSome] ∧ St h0 h' (timA t L :: l) := by
  (refine enterK c_timer_Timers_Day (Nat.le_of_ble_eq_true rfl) fun K hK => ?_; (try simp (maxSteps := 1000000) (disch := first | omega | assumption | exact Nat.le_of_ble_eq_true rfl) only [go_sem, ↓mwp_block, simprocAttr, ir_timer_Timers_Day]))
  refine call_intro (at_ok n S hL) ?_
  clear S
  rintro _ h ⟨rfl, S⟩
  rcases idxOf_spec (isNum n) L 0 with ⟨h1, h2⟩ | ⟨i, h1, hi, h3, h4⟩
  · simp only [Int.natCast_zero] at h1
    rw [h1]
    (try simp (maxSteps := 1000000) (disch := first | omega | assumption | exact Nat.le_of_ble_eq_true rfl) only [go_sem, ↓mwp_block, simprocAttr])
    exact hK _ _ ⟨by rw [find_no h2]; rfl, S⟩
  · simp only [Nat.zero_add, Int.natCast_zero] at h1
    have hf := find_at hi h3 (h4 _ (List.getElem?_eq_getElem hi))
    obtain ⟨s, S'⟩ := St.tim.1 S
    obtain ⟨A, c, rfl⟩ := S'.timO
    have F := S'.all
    simp only [all_cons, all_nil, says_cell, and_true] at F
    obtain ⟨b, off, rfl, hr⟩ := S'.p1.offArr tmE_len i hi
    have hr0 : rd1 h (.pointer (some ⟨b, off + i * 2, none⟩)) = some (.int .i64 L[i].day) := rd1_part hr 0 (by omega)
    rw [h1]
    (try simp (maxSteps := 1000000) (disch := first | omega | assumption | exact Nat.le_of_ble_eq_true rfl) only [go_sem, ↓mwp_block, simprocAttr, F, hr0])
    exact hK _ _ ⟨by rw [hf]; rfl, S⟩
theorem Stop_nil (n : Int) (h : Heap) : CallsH Try.prog 21 [.pointer none, .int .i64 n] h fun v h' => v = .bool false ∧ Fr h h' [] := by
  (refine enterK c_timer_Timers_Stop (Nat.le_of_ble_eq_true rfl) fun K hK => ?_; (try simp (maxSteps := 1000000) (disch := first | omega | assumption | exact Nat.le_of_ble_eq_true rfl) only [go_sem, ↓mwp_block, simprocAttr, ir_timer_Timers_Stop]))
  refine call_intro (at_nil _ _) ?_
  rintro _ h' ⟨rfl, hf⟩
  (try simp (maxSteps := 1000000) (disch := first | omega | assumption | exact Nat.le_of_ble_eq_true rfl) only [go_sem, ↓mwp_block, simprocAttr])
  exact hK _ _ ⟨rfl, hf⟩
theorem StopT_ok (n : Int) (S : St h0 h (timA t L :: l)) (hL : L.length < 1000000) (hg : GoodT L) : CallsH Try.prog 21 [.pointer (some ⟨t, 0, none⟩), .int .i64 n] h fun v h' => v = .bool (L.find? (isNum n)).isSome ∧ St h0 h' (timA t (without L n) :: l) := by
  (refine enterK c_timer_Timers_Stop (Nat.le_of_ble_eq_true rfl) fun K hK => ?_; (try simp (maxSteps := 1000000) (disch := first | omega | assumption | exact Nat.le_of_ble_eq_true rfl) only [go_sem, ↓mwp_block, simprocAttr, ir_timer_Timers_Stop]))
  refine call_intro (at_ok n S hL) ?_
  clear S
  rintro _ h ⟨rfl, S⟩
  rcases idxOf_spec (isNum n) L 0 with ⟨h1, h2⟩ | ⟨i, h1, hi, h3, h4⟩
  · simp only [Int.natCast_zero] at h1
    rw [h1]
    (try simp (maxSteps := 1000000) (disch := first | omega | assumption | exact Nat.le_of_ble_eq_true rfl) only [go_sem, ↓mwp_block, simprocAttr])
    exact hK _ _ ⟨by rw [find_no h2]; rfl, by rw [without_no h2]; exact S⟩
  · simp only [Nat.zero_add, Int.natCast_zero] at h1
    have hp := h4 _ (List.getElem?_eq_getElem hi)
    have hf := find_at hi h3 hp
    obtain ⟨s, S⟩ := St.tim.1 S
    obtain ⟨A, c, rfl⟩ := S.timO
    ((try clear F); have F := S.all; (try simp only [all_cons, all_nil, says_cell, and_true] at F))
    rw [h1]
    (try simp (maxSteps := 1000000) (disch := first | omega | assumption | exact Nat.le_of_ble_eq_true rfl) only [go_sem, ↓mwp_block, simprocAttr, F])
    rw [show ((i : Int) + 1) = ((i + 1 : Nat) : Int) by omega]
    refine call_intro (deleteO_ok (T := 30) (sz := 2) (bytes := 16) c_slices_Delete_timer_Timer_timer_Timer tmE_len (by omega) tmE_plain rfl tmz_plain S.p1.off (by omega) (by omega) (by omega)) ?_
    rintro v h' ⟨ho, hfr, hb⟩
    have S := (S.p1.offUp hfr ho (fun b hm => .inl (hb b hm))).p1
    obtain ⟨A', c', rfl⟩ := S.timO'
    ((try clear F); have F := S.all; (try simp only [all_cons, all_nil, says_cell, and_true] at F))
    (try simp (maxSteps := 1000000) (disch := first | omega | assumption | exact Nat.le_of_ble_eq_true rfl) only [go_sem, ↓mwp_block, simprocAttr, F])
    (refine st_store (by first | exact S | exact S.p1 | exact S.p2 | exact S.p3 | exact S.p4 | exact S.p5 | exact S.p6 | exact S.p7 | exact S.p8 | exact S.p9 | exact S.p10 | exact S.p11) (by rfl) (by rfl) (Nat.le_of_ble_eq_true rfl) ?_; clear S; intro h S; (try simp only [splice_cons, splice_nil, List.set_cons_zero, List.set_cons_succ, Nat.zero_add, Nat.reduceAdd, List.cons_append, List.nil_append] at S); ((try clear F); have F := S.all; (try simp only [all_cons, all_nil, says_cell, and_true] at F)))
    (try simp (maxSteps := 1000000) (disch := first | omega | assumption | exact Nat.le_of_ble_eq_true rfl) only [go_sem, ↓mwp_block, simprocAttr])
    rw [← without_at hi h3 hp hg.2] at S
    exact hK _ _ ⟨by rw [hf]; rfl, St.tim.2 ⟨_, S⟩⟩
theorem Set_nil (n d : Int) (h : Heap) : CallsH Try.prog 16 [.pointer none, .int .i64 n, .int .i64 d] h fun v h' => h' = h := by
  (refine enterK c_timer_Timers_Set (Nat.le_of_ble_eq_true rfl) fun K hK => ?_; (try simp (maxSteps := 1000000) (disch := first | omega | assumption | exact Nat.le_of_ble_eq_true rfl) only [go_sem, ↓mwp_block, simprocAttr, ir_timer_Timers_Set]))
  exact hK _ _ rfl
theorem SetT_ok (n d : Int) (S : St h0 h (timA t L :: l)) (hL : L.length < 900000) (hg : GoodT L) : CallsH Try.prog 16 [.pointer (some ⟨t, 0, none⟩), .int .i64 n, .int .i64 d] h fun v h' => St h0 h' (timA t (setT L n d) :: l) := by
  (refine enterK c_timer_Timers_Set (Nat.le_of_ble_eq_true rfl) fun K hK => ?_; (try simp (maxSteps := 1000000) (disch := first | omega | assumption | exact Nat.le_of_ble_eq_true rfl) only [go_sem, ↓mwp_block, simprocAttr, ir_timer_Timers_Set]))
  refine call_intro (StopT_ok n S (by omega) hg) ?_
  clear S
  rintro _ h ⟨rfl, S⟩
  (try simp (maxSteps := 1000000) (disch := first | omega | assumption | exact Nat.le_of_ble_eq_true rfl) only [go_sem, ↓mwp_block, simprocAttr])
  (refine st_alloc S ?_; clear S; intro q h S; (try simp only [splice_cons, splice_nil, List.set_cons_zero, List.set_cons_succ, Nat.zero_add, Nat.reduceAdd, List.cons_append, List.nil_append] at S); ((try clear F); have F := S.all; (try simp only [all_cons, all_nil, says_cell, and_true] at F)))
  (try simp (maxSteps := 1000000) (disch := first | omega | assumption | exact Nat.le_of_ble_eq_true rfl) only [go_sem, ↓mwp_block, simprocAttr, F])
  (refine st_store (by first | exact S | exact S.p1 | exact S.p2 | exact S.p3 | exact S.p4 | exact S.p5 | exact S.p6 | exact S.p7 | exact S.p8 | exact S.p9 | exact S.p10 | exact S.p11) (by rfl) (by rfl) (Nat.le_of_ble_eq_true rfl) ?_; clear S; intro h S; (try simp only [splice_cons, splice_nil, List.set_cons_zero, List.set_cons_succ, Nat.zero_add, Nat.reduceAdd, List.cons_append, List.nil_append] at S); ((try clear F); have F := S.all; (try simp only [all_cons, all_nil, says_cell, and_true] at F)))
  (try simp (maxSteps := 1000000) (disch := first | omega | assumption | exact Nat.le_of_ble_eq_true rfl) only [go_sem, ↓mwp_block, simprocAttr, F])
  have hwl : (without L n).length ≤ L.length := List.length_filter_le _ _
  have hso : (without L n).Pairwise aheadT := hg.1.sublist List.filter_sublist
  generalize hW : without L n = W at S hwl hso
  obtain ⟨s, S⟩ := St.tim.1 S.p1
  obtain ⟨A, c, rfl⟩ := S.timO
  ((try clear F); have F := S.all; (try simp only [all_cons, all_nil, says_cell, and_true] at F))
  have hs1 := hso
  have rt : ∀ K u, readT (fun h' => St h0 h' _) (fun h' => rd1 h' (.pointer (some ⟨t, 0, none⟩))) K u = bindT (some (.slice A W.length c)) K ⟨⟩ := fun K u => reads_of S (fun h' s => st_rd1 s)
  have rq : ∀ K u, readT (fun h' => St h0 h' _) (fun h' => bindV (rdN h' q 0 2) fun cs => some (.agg cs.toArray)) K u = bindT (some (.agg (tmE ⟨d, n⟩).toArray)) K ⟨⟩ := fun K u => reads_of S (fun h' s => by rw [st_rdN s.p2 (by simp)]; rfl)
  refine draw_st S ?_
  (try simp (maxSteps := 1000000) (disch := first | omega | assumption | exact Nat.le_of_ble_eq_true rfl) only [go_sem, ↓mwp_block, simprocAttr, rt, rq])
  refine call_intro (Search_ok (x := ⟨d, n⟩) S (fun h' s => s.p1.offArr tmE_len) hs1 (by omega)) ?_
  rintro _ h1 ⟨⟨fnd, rfl⟩, S1⟩
  (try simp (maxSteps := 1000000) (disch := first | omega | assumption | exact Nat.le_of_ble_eq_true rfl) only [go_sem, ↓mwp_block, simprocAttr])
  refine ⟨S1, ?_⟩
  (try simp (maxSteps := 1000000) (disch := first | omega | assumption | exact Nat.le_of_ble_eq_true rfl) only [go_sem, ↓mwp_block, simprocAttr])
  clear rt rq
  refine draw_fr (blkOf (.slice A W.length c)) ?_
  have r1 : rd1 h1 (.pointer (some ⟨t, 0, none⟩)) = some (.slice A W.length c) := st_rd1 S1
  have htm : t < h1.size := blk_lt S1.blk
  have htv : t ∉ blkOf (.slice A W.length c) := S1.apart
  have rq : ∀ K u, readT (fun h' => Fr h1 h' (blkOf (.slice A W.length c))) (fun h' => bindV (rdN h' q 0 2) fun cs => some (.agg cs.toArray)) K u = bindT (some (.agg [Value.int .i64 d, .int .i64 n].toArray)) K ⟨⟩ := fun K u => by
    rw [readT_N (blk_lt S1.p2.blk) (S1.p2.d1).apart, st_rdN S1.p2 (by simp)]; rfl
  (try simp (maxSteps := 1000000) (disch := first | omega | assumption | exact Nat.le_of_ble_eq_true rfl) only [go_sem, ↓mwp_block, simprocAttr, r1, rq, splice_cons, splice_nil])
  simp only [allocT, mkSl_eq]
  have S2 : St h0 (h1.push (.cells [Value.int .i64 d, .int .i64 n].toArray 30 (0, 0))) _ := S1.alloc
  have hf2 : Fr h1 (h1.push (.cells [Value.int .i64 d, .int .i64 n].toArray 30 (0, 0))) (blkOf (.slice A W.length c)) := (Fr.refl _ _).push _
  (try simp (maxSteps := 1000000) (disch := first | omega | assumption | exact Nat.le_of_ble_eq_true rfl) only [go_sem, ↓mwp_block, simprocAttr, hf2, splice_cons, splice_nil])
  have hpl : posT W ⟨d, n⟩ ≤ W.length := List.IsPrefix.length_le (List.takeWhile_prefix _)
  refine call_intro (Insert_ok (x := ⟨d, n⟩) S1.p1.off.keepPush hpl (by omega) (blk_push_new rfl) (fun hm => by have := S1.p1.off.lt _ hm; omega)) ?_
  rintro v h3 ⟨ho, hf3, hb⟩
  have S3 := (S2.p2.offUp hf3 ho hb).p2
  obtain ⟨A', c', rfl⟩ := S3.timO'
  have hf4 := hf2.trans hf3
  (try simp (maxSteps := 1000000) (disch := first | omega | assumption | exact Nat.le_of_ble_eq_true rfl) only [go_sem, ↓mwp_block, simprocAttr, hf4])
  refine st_store S3 (by rfl) (by rfl) (Nat.le_of_ble_eq_true rfl) ?_
  intro h4 S4
  simp only [splice_cons, splice_nil, List.set_cons_zero] at S4
  (try simp (maxSteps := 1000000) (disch := first | omega | assumption | exact Nat.le_of_ble_eq_true rfl) only [go_sem, ↓mwp_block, simprocAttr])
  refine hK _ _ ?_
  unfold setT insT
  rw [hW]
  exact (St.tim.2 ⟨_, S4⟩).d1.d1
theorem Due_nil (d : Int) (h : Heap) : CallsH Try.prog 17 [.pointer none, .int .i64 d] h fun v h' => v = .slice none 0 0 ∧ h' = h := by
  (refine enterK c_timer_Timers_Due (Nat.le_of_ble_eq_true rfl) fun K hK => ?_; (try simp (maxSteps := 1000000) (disch := first | omega | assumption | exact Nat.le_of_ble_eq_true rfl) only [go_sem, ↓mwp_block, simprocAttr, ir_timer_Timers_Due]))
  exact hK _ _ ⟨rfl, rfl⟩
theorem DueT_ok (d : Int) (S : St h0 h (timA t L :: l)) (hL : L.length < 1000000) : CallsH Try.prog 17 [.pointer (some ⟨t, 0, none⟩), .int .i64 d] h fun v h' => St h0 h' (ownA iEnc 1 3 v ((dueT L d).map Tm.num) :: timA t (lateT L d) :: l) := by
  have S0 : St h0 h (ownA iEnc 1 3 (.slice none 0 0) [] :: timA t L :: l) := S.nilS
  (refine enterK c_timer_Timers_Due (Nat.le_of_ble_eq_true rfl) fun K hK => ?_; (try simp (maxSteps := 1000000) (disch := first | omega | assumption | exact Nat.le_of_ble_eq_true rfl) only [go_sem, ↓mwp_block, simprocAttr, ir_timer_Timers_Due]))
  refine loop_intro (fun ρ h' => ρ 0 = .pointer (some ⟨t, 0, none⟩) ∧ ρ 1 = .int .i64 d ∧ ∃ v D M, ρ 5 = v ∧ St h0 h' (ownA iEnc 1 3 v D :: timA t M :: l) ∧ M.length ≤ L.length ∧ D.length + M.length = L.length ∧ D ++ (dueT M d).map Tm.num = (dueT L d).map Tm.num ∧ lateT M d = lateT L d) (fun ρ _ => L.length - slN (ρ 5)) ?_ ?_
  · (try simp (maxSteps := 1000000) (disch := first | omega | assumption | exact Nat.le_of_ble_eq_true rfl) only [go_sem, ↓mwp_block, simprocAttr])
    exact ⟨_, [], L, rfl, S0, by omega, by simp, rfl, rfl⟩
  · clear S S0
    rintro ρ h J hJ ⟨e0, e1, v, D, M, e5, S, hML, hDM, hD, hM⟩
    obtain ⟨Av, cv, rfl⟩ := S.sl
    obtain ⟨s, S⟩ := St.tim.1 S.p1
    obtain ⟨A, c, rfl⟩ := S.timO
    ((try clear F); have F := S.all; (try simp only [all_cons, all_nil, says_cell, and_true] at F))
    cases M with
    | nil =>
      simp only [List.length_nil] at S F
      (try simp (maxSteps := 1000000) (disch := first | omega | assumption | exact Nat.le_of_ble_eq_true rfl) only [go_sem, ↓mwp_block, simprocAttr, e0, e1, F])
      refine hK _ _ ?_
      simp only [dueT, lateT, List.takeWhile_nil, List.dropWhile_nil, List.map_nil, List.append_nil] at hD hM
      (try simp (maxSteps := 1000000) (disch := first | omega | assumption | exact Nat.le_of_ble_eq_true rfl) only [go_sem, ↓mwp_block, simprocAttr, e5])
      rw [dueT, ← hD, lateT, ← hM]
      exact (St.tim.2 ⟨_, S⟩).p1
    | cons x M =>
      obtain ⟨b, off, rfl, hr⟩ := S.p1.offArr tmE_len 0 (by simp)
      simp only [Nat.zero_mul, Nat.add_zero, List.getElem_cons_zero] at hr
      have hr0 : rd1 h (.pointer (some ⟨b, off, none⟩)) = some (.int .i64 x.day) := rd1_part hr 0 (by omega)
      have hr1 : rd1 h (.pointer (some ⟨b, off + 1, none⟩)) = some (.int .i64 x.num) := rd1_part hr 1 (by omega)
      generalize hn : (x :: M).length = n at S F hML hDM
      have hn1 : n = M.length + 1 := by rw [← hn]; simp
      by_cases hx : x.day ≤ d
      · (try simp (maxSteps := 1000000) (disch := first | omega | assumption | exact Nat.le_of_ble_eq_true rfl) only [go_sem, ↓mwp_block, simprocAttr, e0, e1, e5, F, hr0, hr1, hx])
        (refine st_alloc S ?_; clear S; intro g h S; (try simp only [splice_cons, splice_nil, List.set_cons_zero, List.set_cons_succ, Nat.zero_add, Nat.reduceAdd, List.cons_append, List.nil_append] at S); ((try clear F); have F := S.all; (try simp only [all_cons, all_nil, says_cell, and_true] at F)))
        (try simp (maxSteps := 1000000) (disch := first | omega | assumption | exact Nat.le_of_ble_eq_true rfl) only [go_sem, ↓mwp_block, simprocAttr])
        refine st_append1 (bytes := 8) (x := x.num) iEnc_len (by omega) iEnc_plain rfl rfl S.p3.p1 (by omega) (by omega) ?_
        clear S
        intro v h S
        ((try clear F); have F := S.all; (try simp only [all_cons, all_nil, says_cell, and_true] at F))
        obtain ⟨A', c', hcut, hoff, hblk⟩ := S.p2.off.pop tmE_len
        (try simp (maxSteps := 1000000) (disch := first | omega | assumption | exact Nat.le_of_ble_eq_true rfl) only [go_sem, ↓mwp_block, simprocAttr, e0, F, hcut])
        have S := (S.p2.offUp (Fr.refl _ _) hoff (fun b hm => .inl (by rw [← hblk]; exact hm))).p2
        refine st_store S (by rfl) (by rfl) (Nat.le_of_ble_eq_true rfl) ?_
        clear S
        intro h S
        simp only [splice_cons, splice_nil, List.set_cons_zero] at S
        (try simp (maxSteps := 1000000) (disch := first | omega | assumption | exact Nat.le_of_ble_eq_true rfl) only [go_sem, ↓mwp_block, simprocAttr])
        have S := (St.tim.2 ⟨_, S⟩).p1
        obtain ⟨Av', cv', rfl⟩ := S.sl
        rw [dueT, List.takeWhile_cons, if_pos (by simpa using hx)] at hD
        rw [lateT, List.dropWhile_cons, if_pos (by simpa using hx)] at hM
        refine hJ _ _ ?_ ?_
        · (try simp (maxSteps := 1000000) (disch := first | omega | assumption | exact Nat.le_of_ble_eq_true rfl) only [go_sem, ↓mwp_block, simprocAttr, e0, e1])
          exact ⟨_, _, M, rfl, S, by omega, by simp only [List.length_append, List.length_cons, List.length_nil]; omega, by rw [← hD]; simp [dueT], hM⟩
        · (try simp (maxSteps := 1000000) (disch := first | omega | assumption | exact Nat.le_of_ble_eq_true rfl) only [go_sem, ↓mwp_block, simprocAttr, e5, slN])
          simp only [List.length_append, List.length_cons, List.length_nil]
          omega
      · (try simp (maxSteps := 1000000) (disch := first | omega | assumption | exact Nat.le_of_ble_eq_true rfl) only [go_sem, ↓mwp_block, simprocAttr, e0, e1, e5, F, hr0, hr1, hx])
        refine hK _ _ ?_
        rw [dueT, List.takeWhile_cons, if_neg (by simpa using hx)] at hD
        rw [lateT, List.dropWhile_cons, if_neg (by simpa using hx)] at hM
        rw [← hD, ← hM, List.map_nil, List.append_nil]
        subst hn
        exact (St.tim.2 ⟨_, S⟩).p1
end
end Go.Proofs.Ytnjjdpeglkiifaa.MX
