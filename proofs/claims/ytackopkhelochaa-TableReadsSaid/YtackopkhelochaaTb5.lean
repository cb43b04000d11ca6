/- The document's bytes of a table; the law TableWrites. -/
import Derived.Test.YtackopkhelochaaTb4
namespace Go.Proofs.Ytackopkhelochaa.MX
open Go Go.Proofs
set_option linter.unusedSimpArgs false
set_option linter.unusedVariables false

/-- A test behind which both ways go on alike: what follows is shown once. -/
theorem cond_join {P : Program} {b : Bool} {x y : MCode} {T : Env → Heap → Prop} {Q : MExit → Env → Heap → Prop} {ρ : Env} {h : Heap} {s : Tag (mwp P x (qseq T Q) ρ h)} {t : Tag (mwp P y (qseq T Q) ρ h)} (I : Env → Heap → Prop) (hT : ∀ ρ h, I ρ h → T ρ h)
    (hX : b = true → ∀ J : Env → Heap → Prop, (∀ ρ h, I ρ h → J ρ h) → mwp P x (qseq J Q) ρ h) (hY : b = false → ∀ J : Env → Heap → Prop, (∀ ρ h, I ρ h → J ρ h) → mwp P y (qseq J Q) ρ h) :
    condT (.bool b) (mwp P x (qseq T Q) ρ h) (mwp P y (qseq T Q) ρ h) s t := by
  cases b
  · simp only [condT, condW, Bool.false_eq_true, if_false]; exact hY rfl T hT
  · simp only [condT, condW, if_true]; exact hX rfl T hT

set_option maxRecDepth 20000 in
set_option maxHeartbeats 8000000 in
theorem bytes_ok {h0 h : Heap} {l : List HP} {A : Option Addr} {c : Nat} {xs : List Pol} (S : St h0 h l) (ha : ∀ h', St h0 h' l → Arr Pol.enc 16 h' A xs) (hr : RightT xs) :
    CallsH Try.prog 25 [.slice A xs.length c] h fun v h' => St h0 h' (ownA bEnc 1 5 v (encT xs) :: l) := by
  have h16 := hr.1
  (refine enterK c_recouplaw08_bytes (Nat.le_of_ble_eq_true rfl) fun K hK => ?_; (try simp (disch := first | omega | assumption | exact Nat.le_of_ble_eq_true rfl) only [go_sem, ↓mwp_block, Nat.reduceEqDiff, Nat.reduceAdd, Nat.reduceMul, Nat.reduceSub, Nat.reduceLeDiff, Nat.reduceLT, reduceIte, Int.reduceLT, Int.reduceLE, Int.reduceAdd, Int.reduceSub, Int.reduceMul, Int.reduceEq, Int.reduceToNat, Int.reduceNeg, Int.reduceNe, ir_recouplaw08_bytes]))
  refine call_intro (RefBytes_ok (xs.length : Int) 2 S (by omega) (by omega)) ?_
  intro r h S
  (try simp (disch := first | omega | assumption | exact Nat.le_of_ble_eq_true rfl) only [go_sem, ↓mwp_block, Nat.reduceEqDiff, Nat.reduceAdd, Nat.reduceMul, Nat.reduceSub, Nat.reduceLeDiff, Nat.reduceLT, reduceIte, Int.reduceLT, Int.reduceLE, Int.reduceAdd, Int.reduceSub, Int.reduceMul, Int.reduceEq, Int.reduceToNat, Int.reduceNeg, Int.reduceNe])
  refine loop_intro (fun ρ h' => ρ 0 = .slice A xs.length c ∧ ρ 14 = .int .i64 xs.length ∧ ∃ i : Nat, ρ 15 = .int .i64 i ∧ i ≤ xs.length ∧ St h0 h' (ownA bEnc 1 5 (ρ 3) (le 2 xs.length ++ (xs.take i).flatMap Pol.bytes) :: l)) (fun ρ _ => xs.length - (iv (ρ 15)).toNat) ?_ ?_
  · (try simp (disch := first | omega | assumption | exact Nat.le_of_ble_eq_true rfl) only [go_sem, ↓mwp_block, Nat.reduceEqDiff, Nat.reduceAdd, Nat.reduceMul, Nat.reduceSub, Nat.reduceLeDiff, Nat.reduceLT, reduceIte, Int.reduceLT, Int.reduceLE, Int.reduceAdd, Int.reduceSub, Int.reduceMul, Int.reduceEq, Int.reduceToNat, Int.reduceNeg, Int.reduceNe])
    exact ⟨0, rfl, Nat.zero_le _, by simpa using S⟩
  · clear S
    rintro ρ h J hJ ⟨e0, e14, i, e15, hi, S⟩
    (try simp (disch := first | omega | assumption | exact Nat.le_of_ble_eq_true rfl) only [go_sem, ↓mwp_block, Nat.reduceEqDiff, Nat.reduceAdd, Nat.reduceMul, Nat.reduceSub, Nat.reduceLeDiff, Nat.reduceLT, reduceIte, Int.reduceLT, Int.reduceLE, Int.reduceAdd, Int.reduceSub, Int.reduceMul, Int.reduceEq, Int.reduceToNat, Int.reduceNeg, Int.reduceNe, e14, e15])
    refine cond_dec (fun hg => ?_) (fun hg => ?_)
    · have hlt : i < xs.length := by omega
      have hmu : (iv (ρ 15)).toNat = i := by rw [e15]; rfl
      obtain ⟨b, off, rfl, hr1⟩ := (ha _ S.tl).at hlt
      have hp := hr.2 xs[i] (List.getElem_mem hlt)
      have htk : (xs.take (i + 1)).flatMap Pol.bytes = (xs.take i).flatMap Pol.bytes ++ xs[i].bytes := by
        rw [List.take_succ_eq_append_getElem hlt, List.flatMap_append]; simp
      generalize xs[i] = p at hr1 hp htk
      obtain ⟨⟨p0, p1, p2, p3⟩, ⟨⟨q0, u0⟩, ⟨q1, u1⟩, ⟨q2, u2⟩, q3, u3⟩, w0, w1⟩ := hp
      simp only [okPts] at p0 p1 p2 p3 q0 q1 q2 q3
      have hfl := flagsOf_lt p
      generalize hbs : le 2 (xs.length : Int) ++ (xs.take i).flatMap Pol.bytes = bs at S
      have hbl : bs.length ≤ 400 := by rw [← hbs, List.length_append, bytes_len, le_length, List.length_take]; omega
      (try simp (disch := first | omega | assumption | exact Nat.le_of_ble_eq_true rfl) only [go_sem, ↓mwp_block, Nat.reduceEqDiff, Nat.reduceAdd, Nat.reduceMul, Nat.reduceSub, Nat.reduceLeDiff, Nat.reduceLT, reduceIte, Int.reduceLT, Int.reduceLE, Int.reduceAdd, Int.reduceSub, Int.reduceMul, Int.reduceEq, Int.reduceToNat, Int.reduceNeg, Int.reduceNe, e0, e15, hr1])
      (refine st_alloc S ?_; clear S; intro g h S; (try simp only [splice_cons, splice_nil, List.set_cons_zero, List.set_cons_succ, Nat.zero_add, Nat.reduceAdd, List.cons_append, List.nil_append] at S); ((try clear F); have F := S.all; (try simp only [all_cons, all_nil, says_cell, and_true] at F)))
      (try simp (disch := first | omega | assumption | exact Nat.le_of_ble_eq_true rfl) only [go_sem, ↓mwp_block, Nat.reduceEqDiff, Nat.reduceAdd, Nat.reduceMul, Nat.reduceSub, Nat.reduceLeDiff, Nat.reduceLT, reduceIte, Int.reduceLT, Int.reduceLE, Int.reduceAdd, Int.reduceSub, Int.reduceMul, Int.reduceEq, Int.reduceToNat, Int.reduceNeg, Int.reduceNe, F, Pol.enc])
      (refine st_store (by first | exact S | exact S.p1 | exact S.p2 | exact S.p3 | exact S.p4 | exact S.p5 | exact S.p6 | exact S.p7 | exact S.p8 | exact S.p9 | exact S.p10 | exact S.p11) (by rfl) (by rfl) (Nat.le_of_ble_eq_true rfl) ?_; clear S; intro h S; (try simp only [splice_cons, splice_nil, List.set_cons_zero, List.set_cons_succ, Nat.zero_add, Nat.reduceAdd, List.cons_append, List.nil_append] at S); ((try clear F); have F := S.all; (try simp only [all_cons, all_nil, says_cell, and_true] at F)))
      (try simp (disch := first | omega | assumption | exact Nat.le_of_ble_eq_true rfl) only [go_sem, ↓mwp_block, Nat.reduceEqDiff, Nat.reduceAdd, Nat.reduceMul, Nat.reduceSub, Nat.reduceLeDiff, Nat.reduceLT, reduceIte, Int.reduceLT, Int.reduceLE, Int.reduceAdd, Int.reduceSub, Int.reduceMul, Int.reduceEq, Int.reduceToNat, Int.reduceNeg, Int.reduceNe, F])
      refine call_intro (RefBytes_ok p.w 2 S (by omega) (by omega)) ?_
      intro r h S
      (obtain ⟨Aa, ca, haa⟩ := S.sl; rw [haa] at S ⊢; (try simp (disch := first | omega | assumption | exact Nat.le_of_ble_eq_true rfl) only [go_sem, ↓mwp_block, Nat.reduceEqDiff, Nat.reduceAdd, Nat.reduceMul, Nat.reduceSub, Nat.reduceLeDiff, Nat.reduceLT, reduceIte, Int.reduceLT, Int.reduceLE, Int.reduceAdd, Int.reduceSub, Int.reduceMul, Int.reduceEq, Int.reduceToNat, Int.reduceNeg, Int.reduceNe]); refine st_append (bytes := 1) bEnc_len (by omega) bEnc_plain rfl (by first | exact S.p1 | exact S.p2 | exact S.p3 | exact S.p4) rfl (src_arr bEnc_len (S.arr bEnc_len) rfl) (by (try simp only [List.length_append, le_length, List.length_cons, List.length_nil]); omega) (by (try simp only [List.length_append, le_length, List.length_cons, List.length_nil]); omega) ?_; clear S haa; intro va h S; have S := S.d1; ((try clear F); have F := S.all; (try simp only [all_cons, all_nil, says_cell, and_true] at F)))
      (try simp (disch := first | omega | assumption | exact Nat.le_of_ble_eq_true rfl) only [go_sem, ↓mwp_block, Nat.reduceEqDiff, Nat.reduceAdd, Nat.reduceMul, Nat.reduceSub, Nat.reduceLeDiff, Nat.reduceLT, reduceIte, Int.reduceLT, Int.reduceLE, Int.reduceAdd, Int.reduceSub, Int.reduceMul, Int.reduceEq, Int.reduceToNat, Int.reduceNeg, Int.reduceNe, F])
      refine cond_join (fun ρ' h' => ρ' 0 = .slice (some ⟨b, off, none⟩) xs.length c ∧ ρ' 14 = .int .i64 xs.length ∧ ρ' 15 = .int .i64 i ∧ ρ' 5 = .pointer (some ⟨g, 0, none⟩) ∧ ρ' 6 = .int .u8 (if p.fin then 1 else 0) ∧ St h0 h' (ownA bEnc 1 5 (ρ' 3) (bs ++ le 2 p.w) :: cellA g p.enc 41 :: l)) ?_ ?_ ?_
      rotate_left
      · intro hf J hJ
        (try simp (disch := first | omega | assumption | exact Nat.le_of_ble_eq_true rfl) only [go_sem, ↓mwp_block, Nat.reduceEqDiff, Nat.reduceAdd, Nat.reduceMul, Nat.reduceSub, Nat.reduceLeDiff, Nat.reduceLT, reduceIte, Int.reduceLT, Int.reduceLE, Int.reduceAdd, Int.reduceSub, Int.reduceMul, Int.reduceEq, Int.reduceToNat, Int.reduceNeg, Int.reduceNe])
        refine hJ _ _ ?_
        (try simp (disch := first | omega | assumption | exact Nat.le_of_ble_eq_true rfl) only [go_sem, ↓mwp_block, Nat.reduceEqDiff, Nat.reduceAdd, Nat.reduceMul, Nat.reduceSub, Nat.reduceLeDiff, Nat.reduceLT, reduceIte, Int.reduceLT, Int.reduceLE, Int.reduceAdd, Int.reduceSub, Int.reduceMul, Int.reduceEq, Int.reduceToNat, Int.reduceNeg, Int.reduceNe, e0, e14, e15, hf])
        exact S
      · intro hf J hJ
        (try simp (disch := first | omega | assumption | exact Nat.le_of_ble_eq_true rfl) only [go_sem, ↓mwp_block, Nat.reduceEqDiff, Nat.reduceAdd, Nat.reduceMul, Nat.reduceSub, Nat.reduceLeDiff, Nat.reduceLT, reduceIte, Int.reduceLT, Int.reduceLE, Int.reduceAdd, Int.reduceSub, Int.reduceMul, Int.reduceEq, Int.reduceToNat, Int.reduceNeg, Int.reduceNe])
        refine hJ _ _ ?_
        (try simp (disch := first | omega | assumption | exact Nat.le_of_ble_eq_true rfl) only [go_sem, ↓mwp_block, Nat.reduceEqDiff, Nat.reduceAdd, Nat.reduceMul, Nat.reduceSub, Nat.reduceLeDiff, Nat.reduceLT, reduceIte, Int.reduceLT, Int.reduceLE, Int.reduceAdd, Int.reduceSub, Int.reduceMul, Int.reduceEq, Int.reduceToNat, Int.reduceNeg, Int.reduceNe, e0, e14, e15, hf])
        exact S
      clear S F
      rintro ρ h ⟨e0, e14, e15, e5, e6, S⟩
      ((try clear F); have F := S.all; (try simp only [all_cons, all_nil, says_cell, and_true] at F))
      (try simp (disch := first | omega | assumption | exact Nat.le_of_ble_eq_true rfl) only [go_sem, ↓mwp_block, Nat.reduceEqDiff, Nat.reduceAdd, Nat.reduceMul, Nat.reduceSub, Nat.reduceLeDiff, Nat.reduceLT, reduceIte, Int.reduceLT, Int.reduceLE, Int.reduceAdd, Int.reduceSub, Int.reduceMul, Int.reduceEq, Int.reduceToNat, Int.reduceNeg, Int.reduceNe, e5, F, Pol.enc])
      refine cond_join (fun ρ' h' => ρ' 0 = .slice (some ⟨b, off, none⟩) xs.length c ∧ ρ' 14 = .int .i64 xs.length ∧ ρ' 15 = .int .i64 i ∧ ρ' 5 = .pointer (some ⟨g, 0, none⟩) ∧ ρ' 6 = .int .u8 ((if p.fin then 1 else 0) + (if p.exc then 2 else 0)) ∧ St h0 h' (ownA bEnc 1 5 (ρ' 3) (bs ++ le 2 p.w) :: cellA g p.enc 41 :: l)) ?_ ?_ ?_
      rotate_left
      · intro hf J hJ
        (try simp (disch := first | omega | assumption | exact Nat.le_of_ble_eq_true rfl) only [go_sem, ↓mwp_block, Nat.reduceEqDiff, Nat.reduceAdd, Nat.reduceMul, Nat.reduceSub, Nat.reduceLeDiff, Nat.reduceLT, reduceIte, Int.reduceLT, Int.reduceLE, Int.reduceAdd, Int.reduceSub, Int.reduceMul, Int.reduceEq, Int.reduceToNat, Int.reduceNeg, Int.reduceNe, e6])
        refine hJ _ _ ?_
        (try simp (disch := first | omega | assumption | exact Nat.le_of_ble_eq_true rfl) only [go_sem, ↓mwp_block, Nat.reduceEqDiff, Nat.reduceAdd, Nat.reduceMul, Nat.reduceSub, Nat.reduceLeDiff, Nat.reduceLT, reduceIte, Int.reduceLT, Int.reduceLE, Int.reduceAdd, Int.reduceSub, Int.reduceMul, Int.reduceEq, Int.reduceToNat, Int.reduceNeg, Int.reduceNe, e0, e14, e15, e5, e6, hf])
        first | exact S | exact ⟨by cases p.fin <;> rfl, S⟩
      · intro hf J hJ
        (try simp (disch := first | omega | assumption | exact Nat.le_of_ble_eq_true rfl) only [go_sem, ↓mwp_block, Nat.reduceEqDiff, Nat.reduceAdd, Nat.reduceMul, Nat.reduceSub, Nat.reduceLeDiff, Nat.reduceLT, reduceIte, Int.reduceLT, Int.reduceLE, Int.reduceAdd, Int.reduceSub, Int.reduceMul, Int.reduceEq, Int.reduceToNat, Int.reduceNeg, Int.reduceNe])
        refine hJ _ _ ?_
        (try simp (disch := first | omega | assumption | exact Nat.le_of_ble_eq_true rfl) only [go_sem, ↓mwp_block, Nat.reduceEqDiff, Nat.reduceAdd, Nat.reduceMul, Nat.reduceSub, Nat.reduceLeDiff, Nat.reduceLT, reduceIte, Int.reduceLT, Int.reduceLE, Int.reduceAdd, Int.reduceSub, Int.reduceMul, Int.reduceEq, Int.reduceToNat, Int.reduceNeg, Int.reduceNe, e0, e14, e15, e5, e6, hf])
        first | exact S | exact ⟨by simp, S⟩
      clear S F
      rintro ρ h ⟨e0, e14, e15, e5, e6, S⟩
      ((try clear F); have F := S.all; (try simp only [all_cons, all_nil, says_cell, and_true] at F))
      (try simp (disch := first | omega | assumption | exact Nat.le_of_ble_eq_true rfl) only [go_sem, ↓mwp_block, Nat.reduceEqDiff, Nat.reduceAdd, Nat.reduceMul, Nat.reduceSub, Nat.reduceLeDiff, Nat.reduceLT, reduceIte, Int.reduceLT, Int.reduceLE, Int.reduceAdd, Int.reduceSub, Int.reduceMul, Int.reduceEq, Int.reduceToNat, Int.reduceNeg, Int.reduceNe, e5, F, Pol.enc])
      refine cond_join (fun ρ' h' => ρ' 0 = .slice (some ⟨b, off, none⟩) xs.length c ∧ ρ' 14 = .int .i64 xs.length ∧ ρ' 15 = .int .i64 i ∧ ρ' 5 = .pointer (some ⟨g, 0, none⟩) ∧ ρ' 6 = .int .u8 (flagsOf p) ∧ St h0 h' (ownA bEnc 1 5 (ρ' 3) (bs ++ le 2 p.w) :: cellA g p.enc 41 :: l)) ?_ ?_ ?_
      rotate_left
      · intro hf J hJ
        (try simp (disch := first | omega | assumption | exact Nat.le_of_ble_eq_true rfl) only [go_sem, ↓mwp_block, Nat.reduceEqDiff, Nat.reduceAdd, Nat.reduceMul, Nat.reduceSub, Nat.reduceLeDiff, Nat.reduceLT, reduceIte, Int.reduceLT, Int.reduceLE, Int.reduceAdd, Int.reduceSub, Int.reduceMul, Int.reduceEq, Int.reduceToNat, Int.reduceNeg, Int.reduceNe, e6])
        refine hJ _ _ ?_
        (try simp (disch := first | omega | assumption | exact Nat.le_of_ble_eq_true rfl) only [go_sem, ↓mwp_block, Nat.reduceEqDiff, Nat.reduceAdd, Nat.reduceMul, Nat.reduceSub, Nat.reduceLeDiff, Nat.reduceLT, reduceIte, Int.reduceLT, Int.reduceLE, Int.reduceAdd, Int.reduceSub, Int.reduceMul, Int.reduceEq, Int.reduceToNat, Int.reduceNeg, Int.reduceNe, e0, e14, e15, e5, e6, hf])
        first | exact S | exact ⟨by unfold flagsOf; rw [hf]; cases p.fin <;> cases p.exc <;> rfl, S⟩
      · intro hf J hJ
        (try simp (disch := first | omega | assumption | exact Nat.le_of_ble_eq_true rfl) only [go_sem, ↓mwp_block, Nat.reduceEqDiff, Nat.reduceAdd, Nat.reduceMul, Nat.reduceSub, Nat.reduceLeDiff, Nat.reduceLT, reduceIte, Int.reduceLT, Int.reduceLE, Int.reduceAdd, Int.reduceSub, Int.reduceMul, Int.reduceEq, Int.reduceToNat, Int.reduceNeg, Int.reduceNe])
        refine hJ _ _ ?_
        (try simp (disch := first | omega | assumption | exact Nat.le_of_ble_eq_true rfl) only [go_sem, ↓mwp_block, Nat.reduceEqDiff, Nat.reduceAdd, Nat.reduceMul, Nat.reduceSub, Nat.reduceLeDiff, Nat.reduceLT, reduceIte, Int.reduceLT, Int.reduceLE, Int.reduceAdd, Int.reduceSub, Int.reduceMul, Int.reduceEq, Int.reduceToNat, Int.reduceNeg, Int.reduceNe, e0, e14, e15, e5, e6, hf])
        first | exact S | exact ⟨by unfold flagsOf; rw [hf]; simp, S⟩
      clear S F
      rintro ρ h ⟨e0, e14, e15, e5, e6, S⟩
      have hfb : flagsOf p = ((B8 (flagsOf p)).toNat : Int) := by rw [B8_toNat]; omega
      (try simp (disch := first | omega | assumption | exact Nat.le_of_ble_eq_true rfl) only [go_sem, ↓mwp_block, Nat.reduceEqDiff, Nat.reduceAdd, Nat.reduceMul, Nat.reduceSub, Nat.reduceLeDiff, Nat.reduceLT, reduceIte, Int.reduceLT, Int.reduceLE, Int.reduceAdd, Int.reduceSub, Int.reduceMul, Int.reduceEq, Int.reduceToNat, Int.reduceNeg, Int.reduceNe, e6])
      (refine st_alloc S ?_; clear S; intro q h S; (try simp only [splice_cons, splice_nil, List.set_cons_zero, List.set_cons_succ, Nat.zero_add, Nat.reduceAdd, List.cons_append, List.nil_append] at S); ((try clear F); have F := S.all; (try simp only [all_cons, all_nil, says_cell, and_true] at F)))
      (try simp (disch := first | omega | assumption | exact Nat.le_of_ble_eq_true rfl) only [go_sem, ↓mwp_block, Nat.reduceEqDiff, Nat.reduceAdd, Nat.reduceMul, Nat.reduceSub, Nat.reduceLeDiff, Nat.reduceLT, reduceIte, Int.reduceLT, Int.reduceLE, Int.reduceAdd, Int.reduceSub, Int.reduceMul, Int.reduceEq, Int.reduceToNat, Int.reduceNeg, Int.reduceNe])
      refine st_append1 (bytes := 1) (x := B8 (flagsOf p)) bEnc_len (by omega) bEnc_plain rfl (by rw [bEnc, ← hfb]) S (by simp [le_length]; omega) (by simp [le_length]; omega) ?_
      clear S F
      intro v' h S
      ((try clear F); have F := S.all; (try simp only [all_cons, all_nil, says_cell, and_true] at F))
      (try simp (disch := first | omega | assumption | exact Nat.le_of_ble_eq_true rfl) only [go_sem, ↓mwp_block, Nat.reduceEqDiff, Nat.reduceAdd, Nat.reduceMul, Nat.reduceSub, Nat.reduceLeDiff, Nat.reduceLT, reduceIte, Int.reduceLT, Int.reduceLE, Int.reduceAdd, Int.reduceSub, Int.reduceMul, Int.reduceEq, Int.reduceToNat, Int.reduceNeg, Int.reduceNe, e5])
      refine loop_unroll 5 ?_
      (try simp (disch := first | omega | assumption | exact Nat.le_of_ble_eq_true rfl) only [go_sem, ↓mwp_block, Nat.reduceEqDiff, Nat.reduceAdd, Nat.reduceMul, Nat.reduceSub, Nat.reduceLeDiff, Nat.reduceLT, reduceIte, Int.reduceLT, Int.reduceLE, Int.reduceAdd, Int.reduceSub, Int.reduceMul, Int.reduceEq, Int.reduceToNat, Int.reduceNeg, Int.reduceNe, e5, F, Pol.enc])
      iterate 4
        refine call_intro (RefBytes_ok _ 2 S (by omega) (by omega)) ?_
        intro r h S
        (obtain ⟨Aa, ca, haa⟩ := S.sl; rw [haa] at S ⊢; (try simp (disch := first | omega | assumption | exact Nat.le_of_ble_eq_true rfl) only [go_sem, ↓mwp_block, Nat.reduceEqDiff, Nat.reduceAdd, Nat.reduceMul, Nat.reduceSub, Nat.reduceLeDiff, Nat.reduceLT, reduceIte, Int.reduceLT, Int.reduceLE, Int.reduceAdd, Int.reduceSub, Int.reduceMul, Int.reduceEq, Int.reduceToNat, Int.reduceNeg, Int.reduceNe]); refine st_append (bytes := 1) bEnc_len (by omega) bEnc_plain rfl (by first | exact S.p1 | exact S.p2 | exact S.p3 | exact S.p4) rfl (src_arr bEnc_len (S.arr bEnc_len) rfl) (by (try simp only [List.length_append, le_length, List.length_cons, List.length_nil]); omega) (by (try simp only [List.length_append, le_length, List.length_cons, List.length_nil]); omega) ?_; clear S haa; intro va h S; have S := S.d1; ((try clear F); have F := S.all; (try simp only [all_cons, all_nil, says_cell, and_true] at F)))
        (try simp (disch := first | omega | assumption | exact Nat.le_of_ble_eq_true rfl) only [go_sem, ↓mwp_block, Nat.reduceEqDiff, Nat.reduceAdd, Nat.reduceMul, Nat.reduceSub, Nat.reduceLeDiff, Nat.reduceLT, reduceIte, Int.reduceLT, Int.reduceLE, Int.reduceAdd, Int.reduceSub, Int.reduceMul, Int.reduceEq, Int.reduceToNat, Int.reduceNeg, Int.reduceNe, e5, F, Pol.enc])
      refine loop_unroll 5 ?_
      (try simp (disch := first | omega | assumption | exact Nat.le_of_ble_eq_true rfl) only [go_sem, ↓mwp_block, Nat.reduceEqDiff, Nat.reduceAdd, Nat.reduceMul, Nat.reduceSub, Nat.reduceLeDiff, Nat.reduceLT, reduceIte, Int.reduceLT, Int.reduceLE, Int.reduceAdd, Int.reduceSub, Int.reduceMul, Int.reduceEq, Int.reduceToNat, Int.reduceNeg, Int.reduceNe, e5, F, Pol.enc])
      iterate 4
        refine call_intro (RefBytes_ok _ 2 S (by omega) (by omega)) ?_
        intro r h S
        (obtain ⟨Aa, ca, haa⟩ := S.sl; rw [haa] at S ⊢; (try simp (disch := first | omega | assumption | exact Nat.le_of_ble_eq_true rfl) only [go_sem, ↓mwp_block, Nat.reduceEqDiff, Nat.reduceAdd, Nat.reduceMul, Nat.reduceSub, Nat.reduceLeDiff, Nat.reduceLT, reduceIte, Int.reduceLT, Int.reduceLE, Int.reduceAdd, Int.reduceSub, Int.reduceMul, Int.reduceEq, Int.reduceToNat, Int.reduceNeg, Int.reduceNe]); refine st_append (bytes := 1) bEnc_len (by omega) bEnc_plain rfl (by first | exact S.p1 | exact S.p2 | exact S.p3 | exact S.p4) rfl (src_arr bEnc_len (S.arr bEnc_len) rfl) (by (try simp only [List.length_append, le_length, List.length_cons, List.length_nil]); omega) (by (try simp only [List.length_append, le_length, List.length_cons, List.length_nil]); omega) ?_; clear S haa; intro va h S; have S := S.d1; ((try clear F); have F := S.all; (try simp only [all_cons, all_nil, says_cell, and_true] at F)))
        (try simp (disch := first | omega | assumption | exact Nat.le_of_ble_eq_true rfl) only [go_sem, ↓mwp_block, Nat.reduceEqDiff, Nat.reduceAdd, Nat.reduceMul, Nat.reduceSub, Nat.reduceLeDiff, Nat.reduceLT, reduceIte, Int.reduceLT, Int.reduceLE, Int.reduceAdd, Int.reduceSub, Int.reduceMul, Int.reduceEq, Int.reduceToNat, Int.reduceNeg, Int.reduceNe, e5, F, Pol.enc])
        (refine st_alloc S ?_; clear S; intro q h S; (try simp only [splice_cons, splice_nil, List.set_cons_zero, List.set_cons_succ, Nat.zero_add, Nat.reduceAdd, List.cons_append, List.nil_append] at S); ((try clear F); have F := S.all; (try simp only [all_cons, all_nil, says_cell, and_true] at F)))
        (try simp (disch := first | omega | assumption | exact Nat.le_of_ble_eq_true rfl) only [go_sem, ↓mwp_block, Nat.reduceEqDiff, Nat.reduceAdd, Nat.reduceMul, Nat.reduceSub, Nat.reduceLeDiff, Nat.reduceLT, reduceIte, Int.reduceLT, Int.reduceLE, Int.reduceAdd, Int.reduceSub, Int.reduceMul, Int.reduceEq, Int.reduceToNat, Int.reduceNeg, Int.reduceNe])
        (refine st_append1 (bytes := 1) bEnc_len (by omega) bEnc_plain rfl (bEnc_B8 (by omega) (by omega)) S (by (try simp only [List.length_append, le_length, List.length_cons, List.length_nil]); omega) (by (try simp only [List.length_append, le_length, List.length_cons, List.length_nil]); omega) ?_; clear S; (try clear F); intro va h S; ((try clear F); have F := S.all; (try simp only [all_cons, all_nil, says_cell, and_true] at F)))
        (try simp (disch := first | omega | assumption | exact Nat.le_of_ble_eq_true rfl) only [go_sem, ↓mwp_block, Nat.reduceEqDiff, Nat.reduceAdd, Nat.reduceMul, Nat.reduceSub, Nat.reduceLeDiff, Nat.reduceLT, reduceIte, Int.reduceLT, Int.reduceLE, Int.reduceAdd, Int.reduceSub, Int.reduceMul, Int.reduceEq, Int.reduceToNat, Int.reduceNeg, Int.reduceNe, e5, F, Pol.enc])
      (try simp (disch := first | omega | assumption | exact Nat.le_of_ble_eq_true rfl) only [go_sem, ↓mwp_block, Nat.reduceEqDiff, Nat.reduceAdd, Nat.reduceMul, Nat.reduceSub, Nat.reduceLeDiff, Nat.reduceLT, reduceIte, Int.reduceLT, Int.reduceLE, Int.reduceAdd, Int.reduceSub, Int.reduceMul, Int.reduceEq, Int.reduceToNat, Int.reduceNeg, Int.reduceNe, e15])
      refine hJ _ _ ?_ ?_
      · (try simp (disch := first | omega | assumption | exact Nat.le_of_ble_eq_true rfl) only [go_sem, ↓mwp_block, Nat.reduceEqDiff, Nat.reduceAdd, Nat.reduceMul, Nat.reduceSub, Nat.reduceLeDiff, Nat.reduceLT, reduceIte, Int.reduceLT, Int.reduceLE, Int.reduceAdd, Int.reduceSub, Int.reduceMul, Int.reduceEq, Int.reduceToNat, Int.reduceNeg, Int.reduceNe, e0, e14, e15])
        refine ⟨i + 1, rfl, by omega, ?_⟩
        rw [htk]
        have S := S.d1
        have e1 : ∀ v, le 1 v = [B8 v] := fun _ => rfl
        rw [← List.append_assoc, hbs]
        clear hbs
        simpa only [Pol.bytes, e1, List.append_assoc] using S
      · rw [hmu]
        (try simp (disch := first | omega | assumption | exact Nat.le_of_ble_eq_true rfl) only [go_sem, ↓mwp_block, Nat.reduceEqDiff, Nat.reduceAdd, Nat.reduceMul, Nat.reduceSub, Nat.reduceLeDiff, Nat.reduceLT, reduceIte, Int.reduceLT, Int.reduceLE, Int.reduceAdd, Int.reduceSub, Int.reduceMul, Int.reduceEq, Int.reduceToNat, Int.reduceNeg, Int.reduceNe, e15])
        omega
    · obtain rfl : i = xs.length := by omega
      rw [List.take_length] at S
      (try simp (disch := first | omega | assumption | exact Nat.le_of_ble_eq_true rfl) only [go_sem, ↓mwp_block, Nat.reduceEqDiff, Nat.reduceAdd, Nat.reduceMul, Nat.reduceSub, Nat.reduceLeDiff, Nat.reduceLT, reduceIte, Int.reduceLT, Int.reduceLE, Int.reduceAdd, Int.reduceSub, Int.reduceMul, Int.reduceEq, Int.reduceToNat, Int.reduceNeg, Int.reduceNe])
      exact hK _ _ S

theorem TableWrites_ok (A : Option Addr) (c : Nat) (xs : List Pol) (h : Heap) (ha : Arr Pol.enc 16 h A xs) (_ : xs.length ≤ c) (_ : c ≤ maxLen) (hok : ∀ x ∈ xs, x.ok) :
    CallsH Try.prog 4 [.slice A xs.length c] h fun v h' => v = .bool true ∧ Fr h h' [] := by
  have S := St.nil h
  (refine enterK c_recouplaw08_TableWrites (Nat.le_of_ble_eq_true rfl) fun K hK => ?_; (try simp (disch := first | omega | assumption | exact Nat.le_of_ble_eq_true rfl) only [go_sem, ↓mwp_block, Nat.reduceEqDiff, Nat.reduceAdd, Nat.reduceMul, Nat.reduceSub, Nat.reduceLeDiff, Nat.reduceLT, reduceIte, Int.reduceLT, Int.reduceLE, Int.reduceAdd, Int.reduceSub, Int.reduceMul, Int.reduceEq, Int.reduceToNat, Int.reduceNeg, Int.reduceNe, ir_recouplaw08_TableWrites]))
  refine call_intro (awake08_ok _) ?_
  rintro _ h1 ⟨rfl, hf⟩
  have S := S.frame hf
  (try simp (disch := first | omega | assumption | exact Nat.le_of_ble_eq_true rfl) only [go_sem, ↓mwp_block, Nat.reduceEqDiff, Nat.reduceAdd, Nat.reduceMul, Nat.reduceSub, Nat.reduceLeDiff, Nat.reduceLT, reduceIte, Int.reduceLT, Int.reduceLE, Int.reduceAdd, Int.reduceSub, Int.reduceMul, Int.reduceEq, Int.reduceToNat, Int.reduceNeg, Int.reduceNe])
  refine cond_dec (fun hg => ?_) (fun hg => ?_)
  · (try simp (disch := first | omega | assumption | exact Nat.le_of_ble_eq_true rfl) only [go_sem, ↓mwp_block, Nat.reduceEqDiff, Nat.reduceAdd, Nat.reduceMul, Nat.reduceSub, Nat.reduceLeDiff, Nat.reduceLT, reduceIte, Int.reduceLT, Int.reduceLE, Int.reduceAdd, Int.reduceSub, Int.reduceMul, Int.reduceEq, Int.reduceToNat, Int.reduceNeg, Int.reduceNe])
    refine call_intro (awake08_ok _) ?_
    rintro _ h2 ⟨rfl, hf⟩
    (try simp (disch := first | omega | assumption | exact Nat.le_of_ble_eq_true rfl) only [go_sem, ↓mwp_block, Nat.reduceEqDiff, Nat.reduceAdd, Nat.reduceMul, Nat.reduceSub, Nat.reduceLeDiff, Nat.reduceLT, reduceIte, Int.reduceLT, Int.reduceLE, Int.reduceAdd, Int.reduceSub, Int.reduceMul, Int.reduceEq, Int.reduceToNat, Int.reduceNeg, Int.reduceNe])
    exact hK _ _ ⟨rfl, (S.frame hf).fr⟩
  · (try simp (disch := first | omega | assumption | exact Nat.le_of_ble_eq_true rfl) only [go_sem, ↓mwp_block, Nat.reduceEqDiff, Nat.reduceAdd, Nat.reduceMul, Nat.reduceSub, Nat.reduceLeDiff, Nat.reduceLT, reduceIte, Int.reduceLT, Int.reduceLE, Int.reduceAdd, Int.reduceSub, Int.reduceMul, Int.reduceEq, Int.reduceToNat, Int.reduceNeg, Int.reduceNe])
    refine call_intro (Encode_ok S (fun h' S => ha.fr S.fr (by simp)) (by omega)) ?_
    rintro _ h ⟨s, e, rfl, hor⟩
    (try simp (disch := first | omega | assumption | exact Nat.le_of_ble_eq_true rfl) only [go_sem, ↓mwp_block, Nat.reduceEqDiff, Nat.reduceAdd, Nat.reduceMul, Nat.reduceSub, Nat.reduceLeDiff, Nat.reduceLT, reduceIte, Int.reduceLT, Int.reduceLE, Int.reduceAdd, Int.reduceSub, Int.reduceMul, Int.reduceEq, Int.reduceToNat, Int.reduceNeg, Int.reduceNe])
    rcases hor with ⟨hr, rfl, S⟩ | ⟨hr, rfl, rfl, S⟩
    · refine call_intro (RightTable_ok (ha.fr S.fr (by simp)) (by omega)) ?_
      rintro _ h ⟨rfl, hf⟩
      have S := S.frame hf
      (try simp (disch := first | omega | assumption | exact Nat.le_of_ble_eq_true rfl) only [go_sem, ↓mwp_block, Nat.reduceEqDiff, Nat.reduceAdd, Nat.reduceMul, Nat.reduceSub, Nat.reduceLeDiff, Nat.reduceLT, reduceIte, Int.reduceLT, Int.reduceLE, Int.reduceAdd, Int.reduceSub, Int.reduceMul, Int.reduceEq, Int.reduceToNat, Int.reduceNeg, Int.reduceNe])
      refine call_intro (bytes_ok S (fun h' S => ha.fr S.fr (by simp)) hr) ?_
      intro r h S
      obtain ⟨B1, c1, rfl⟩ := S.sl
      obtain ⟨B2, c2, rfl⟩ := S.p1.sl
      (try simp (disch := first | omega | assumption | exact Nat.le_of_ble_eq_true rfl) only [go_sem, ↓mwp_block, Nat.reduceEqDiff, Nat.reduceAdd, Nat.reduceMul, Nat.reduceSub, Nat.reduceLeDiff, Nat.reduceLT, reduceIte, Int.reduceLT, Int.reduceLE, Int.reduceAdd, Int.reduceSub, Int.reduceMul, Int.reduceEq, Int.reduceToNat, Int.reduceNeg, Int.reduceNe])
      have hel : (encT xs).length = 2 + xs.length * 23 := by rw [encT, List.length_append, le_length, bytes_len]
      refine call_intro (Bytes_ok (S.p1.arr bEnc_len) (S.arr bEnc_len) (by omega) (by omega)) ?_
      rintro _ _ ⟨rfl, rfl⟩
      (try simp (disch := first | omega | assumption | exact Nat.le_of_ble_eq_true rfl) only [go_sem, ↓mwp_block, Nat.reduceEqDiff, Nat.reduceAdd, Nat.reduceMul, Nat.reduceSub, Nat.reduceLeDiff, Nat.reduceLT, reduceIte, Int.reduceLT, Int.reduceLE, Int.reduceAdd, Int.reduceSub, Int.reduceMul, Int.reduceEq, Int.reduceToNat, Int.reduceNeg, Int.reduceNe])
      refine call_intro (Right_ok (ha.fr S.fr (by simp)) rfl (by omega)) ?_
      rintro _ h ⟨rfl, hf⟩
      (try simp (disch := first | omega | assumption | exact Nat.le_of_ble_eq_true rfl) only [go_sem, ↓mwp_block, Nat.reduceEqDiff, Nat.reduceAdd, Nat.reduceMul, Nat.reduceSub, Nat.reduceLeDiff, Nat.reduceLT, reduceIte, Int.reduceLT, Int.reduceLE, Int.reduceAdd, Int.reduceSub, Int.reduceMul, Int.reduceEq, Int.reduceToNat, Int.reduceNeg, Int.reduceNe])
      exact hK _ _ ⟨by simp [dcd_true hr], (S.frame hf).fr⟩
    · refine call_intro (RightTable_ok (ha.fr S.fr (by simp)) (by omega)) ?_
      rintro _ h ⟨rfl, hf⟩
      have S := S.frame hf
      (try simp (disch := first | omega | assumption | exact Nat.le_of_ble_eq_true rfl) only [go_sem, ↓mwp_block, Nat.reduceEqDiff, Nat.reduceAdd, Nat.reduceMul, Nat.reduceSub, Nat.reduceLeDiff, Nat.reduceLT, reduceIte, Int.reduceLT, Int.reduceLE, Int.reduceAdd, Int.reduceSub, Int.reduceMul, Int.reduceEq, Int.reduceToNat, Int.reduceNeg, Int.reduceNe])
      refine call_intro (Right_ok (ha.fr S.fr (by simp)) rfl (by omega)) ?_
      rintro _ h ⟨rfl, hf⟩
      (try simp (disch := first | omega | assumption | exact Nat.le_of_ble_eq_true rfl) only [go_sem, ↓mwp_block, Nat.reduceEqDiff, Nat.reduceAdd, Nat.reduceMul, Nat.reduceSub, Nat.reduceLeDiff, Nat.reduceLT, reduceIte, Int.reduceLT, Int.reduceLE, Int.reduceAdd, Int.reduceSub, Int.reduceMul, Int.reduceEq, Int.reduceToNat, Int.reduceNeg, Int.reduceNe])
      exact hK _ _ ⟨by simp [dcd_false hr], (S.frame hf).fr⟩
end Go.Proofs.Ytackopkhelochaa.MX
