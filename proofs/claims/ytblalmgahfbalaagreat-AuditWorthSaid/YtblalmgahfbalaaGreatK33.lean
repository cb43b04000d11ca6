/- Texts in one file: Aw1, Aw2. -/
import Derived.Test.YtblalmgahfbalaaGreatK30
import Derived.Test.YtblalmgahfbalaaGreatK31
import Derived.Test.YtblalmgahfbalaaGreatK32

/- The audit's laws: awake; Few; a return of the document's, read, and turned to the program's. -/
namespace Go.Proofs.YtblalmgahfbalaaGreat.MX
open Go Go.Proofs
set_option linter.unusedSimpArgs false
set_option linter.unusedVariables false
set_option maxHeartbeats 16000000
theorem int_of {h : Heap} {d : Nat} {cs : List Value} (hg : Good Tryz.prog h d 3 cs) : ∃ x : Int, cs = zEnc x ∧ I64 x := by
  have hl : leaves Tryz.prog 2 3 = some [.int .i64] := by kernel_rfl
  obtain ⟨a0, _, rfl, w0, rfl⟩ := leaves_of 2 hg hl
  exact ⟨a0, rfl, wf_i64 w0⟩
structure RetV.ok (h : Heap) (x : RetV) : Prop where
  us : Arr zEnc 1 h x.A x.r.us
  gs : Arr zEnc 1 h x.B x.r.gs
theorem retv_of {h : Heap} {d : Nat} {cs : List Value} (hg : Good Tryz.prog h d 29 cs) : ∃ x : RetV, cs = x.enc ∧ x.ok h := by
  have hl : leaves Tryz.prog 3 29 = some [.int .i64, .int .i64, .int .i64, .int .i64, .int .i64, .bool, .int .i64, .int .i64, .slice 3, .slice 3, .int .i64, .int .i64, .int .i64, .int .i64] := by kernel_rfl
  obtain ⟨a0, _, rfl, w0, a1, _, rfl, w1, a2, _, rfl, w2, a3, _, rfl, w3, a4, _, rfl, w4, b5, _, rfl, a6, _, rfl, w6, a7, _, rfl, w7, v8, _, rfl, g8, v9, _, rfl, g9, a10, _, rfl, w10, a11, _, rfl, w11, a12, _, rfl, w12, a13, _, rfl, w13, rfl⟩ := leaves_of 3 hg hl
  obtain ⟨A, c, us, rfl, hu, _, _, _⟩ := GoodS.arr (enc := zEnc) (sz := 1) (by kernel_rfl) (by decide) g8 int_of
  obtain ⟨B, d, gs, rfl, hv, _, _, _⟩ := GoodS.arr (enc := zEnc) (sz := 1) (by kernel_rfl) (by decide) g9 int_of
  exact ⟨⟨⟨a0, a1, a2, a3, a4, b5, a6, a7, us, gs, a10, a11, a12, a13⟩, A, c, B, d⟩, rfl, hu, hv⟩
theorem aud_new {D : Cfg} (hp : D.pu = c0C.pu) : Aud D (unitsAll c0C) (sagNew c0C) := by
  have hU : unitsAll c0C = [] := rfl
  refine ⟨okCfg_pu hp.symm c0_ok, ?_, ?_, ?_, ?_, ?_, ?_, ?_⟩
  · rw [hU]; intro u hu; cases hu
  · rw [hU]; exact Nat.zero_le _
  · exact ⟨⟨by decide, by decide⟩, ⟨by decide, by decide⟩, ⟨by decide, by decide⟩, ⟨by decide, by decide⟩, ⟨by decide, by decide⟩⟩
  · exact Nat.zero_le _
  · intro r hr; cases hr
  · rw [sagNew, hU]; exact Nat.zero_le _
  · exact Nat.lt_of_le_of_lt (Nat.zero_le 0) (by decide)
theorem awake24_ok (h : Heap) : CallsH Tryz.prog 4 [] h fun v h' => v = .bool true ∧ Fr h h' [] := by
  have S := St.nil h
  (refine enterK c_recouplaw24_awake (Nat.le_of_ble_eq_true rfl) fun K hK => ?_; (try simp (maxSteps := 1000000) (disch := first | omega | assumption | exact Nat.le_of_ble_eq_true rfl) only [go_sem, ↓mwp_block, simprocAttr, ir_recouplaw24_awake]))
  refine call_intro (NewS_ok c0C (fun h' S => ⟨Arr.nil _ _ _ _, (fun o ho => by cases ho), Arr.nil _ _ _ _, Arr.nil _ _ _ _⟩) ⟨by decide, by decide, by decide, by decide, by decide, by decide, fun o ho => by cases ho⟩ (by decide) (by decide) (by decide) (fun o ho => by cases ho) S) ?_
  clear S
  rintro _ h (⟨hn, _⟩ | ⟨_, p, D, u, rfl, hw, hp, S⟩)
  · exact (hn c0_ok).elim
  obtain ⟨_, A, c, rfl, _⟩ := stcA_rd S.p1
  have W := aud_new hp
  have e1 : sumsOK D (unitsAll c0C) (sagNew c0C) := ⟨rfl, fun r hr => by cases hr⟩
  have e2 : placesOK (unitsAll c0C) (sagNew c0C) := by
    refine ⟨?_, ?_, ?_⟩
    · intro i u hu
      have hU : unitsAll c0C = [] := rfl
      rw [hU] at hu
      cases i <;> cases hu
    · simp [heldL, sagNew]
    · intro r hr; cases hr
  have e3 : returnsOK (sagNew c0C) := by
    intro i r hr
    simp [sagNew] at hr
  have e4 : stillOK (sagNew c0C) := ⟨fun r hr => (by cases hr), fun m hm => (by cases hm)⟩
  (try simp (maxSteps := 1000000) (disch := first | omega | assumption | exact Nat.le_of_ble_eq_true rfl) only [go_sem, ↓mwp_block, simprocAttr])
  refine call_intro (ASums_ok W S) ?_
  clear S
  rintro _ h ⟨rfl, S⟩
  rw [dcd_true e1]
  (try simp (maxSteps := 1000000) (disch := first | omega | assumption | exact Nat.le_of_ble_eq_true rfl) only [go_sem, ↓mwp_block, simprocAttr])
  refine call_intro (APlaces_ok W S) ?_
  clear S
  rintro _ h ⟨rfl, S⟩
  rw [dcd_true e2]
  (try simp (maxSteps := 1000000) (disch := first | omega | assumption | exact Nat.le_of_ble_eq_true rfl) only [go_sem, ↓mwp_block, simprocAttr])
  refine call_intro (AReturns_ok W S) ?_
  clear S
  rintro _ h ⟨rfl, S⟩
  rw [dcd_true e3]
  (try simp (maxSteps := 1000000) (disch := first | omega | assumption | exact Nat.le_of_ble_eq_true rfl) only [go_sem, ↓mwp_block, simprocAttr])
  refine call_intro (AStill_ok W S) ?_
  clear S
  rintro _ h ⟨rfl, S⟩
  rw [dcd_true e4]
  (try simp (maxSteps := 1000000) (disch := first | omega | assumption | exact Nat.le_of_ble_eq_true rfl) only [go_sem, ↓mwp_block, simprocAttr])
  refine call_intro (ASums_nil _) ?_
  rintro _ _ ⟨rfl, rfl⟩
  (try simp (maxSteps := 1000000) (disch := first | omega | assumption | exact Nat.le_of_ble_eq_true rfl) only [go_sem, ↓mwp_block, simprocAttr])
  exact hK _ _ ⟨rfl, S.fr⟩
theorem Few16_nil {h0 : Heap} (C : Cfg) (r : C.rd h0) (w : C.wf) (n : Int) :
    CallsH Tryz.prog 5 [.agg C.enc.toArray, .slice none 0 0, .int .i64 n] h0 fun v h' => v = .bool (dcd (fewC C)) ∧ Fr h0 h' [] := by
  have S := St.nil h0
  (refine enterK c_recouplaw16_Few (Nat.le_of_ble_eq_true rfl) fun K hK => ?_; (try simp (maxSteps := 1000000) (disch := first | omega | assumption | exact Nat.le_of_ble_eq_true rfl) only [go_sem, ↓mwp_block, simprocAttr, ir_recouplaw16_Few]))
  (refine st_alloc S ?_; clear S; intro g h S; (try simp only [splice_cons, splice_nil, List.set_cons_zero, List.set_cons_succ, Nat.zero_add, Nat.reduceAdd, List.cons_append, List.nil_append] at S); ((try clear F); have F := S.all; (try simp only [all_cons, all_nil, says_cell, and_true] at F)))
  (try simp (maxSteps := 1000000) (disch := first | omega | assumption | exact Nat.le_of_ble_eq_true rfl) only [go_sem, ↓mwp_block, simprocAttr])
  refine loop_unroll 1 ?_
  (try simp (maxSteps := 1000000) (disch := first | omega | assumption | exact Nat.le_of_ble_eq_true rfl) only [go_sem, ↓mwp_block, simprocAttr, F])
  refine call_intro (Few_ok C (r.fr S.fr) w) ?_
  rintro _ h ⟨rfl, f1⟩
  (try simp (maxSteps := 1000000) (disch := first | omega | assumption | exact Nat.le_of_ble_eq_true rfl) only [go_sem, ↓mwp_block, simprocAttr])
  exact hK _ _ ⟨rfl, (S.frame f1).fr⟩
section
variable {h0 h : Heap} {l : List HP}
theorem Theirs14_ok (x : RetV) (ha : ∀ h', St h0 h' l → Arr zEnc 1 h' x.A x.r.us) (hb : ∀ h', St h0 h' l → Arr zEnc 1 h' x.B x.r.gs) (l1 : x.r.us.length < 1000000) (l2 : x.r.gs.length < 1000000) (S : St h0 h l) :
    CallsH Tryz.prog 7 [.agg x.enc.toArray] h fun v h' => ∃ y : RetV, v = .agg y.enc.toArray ∧ y.r = x.r ∧ St h0 h' (retRow y :: l) := by
  (refine enterK c_recouplaw14_Theirs (Nat.le_of_ble_eq_true rfl) fun K hK => ?_; (try simp (maxSteps := 1000000) (disch := first | omega | assumption | exact Nat.le_of_ble_eq_true rfl) only [go_sem, ↓mwp_block, simprocAttr, ir_recouplaw14_Theirs]))
  (refine st_alloc S ?_; clear S; intro b h S; (try simp only [splice_cons, splice_nil, List.set_cons_zero, List.set_cons_succ, Nat.zero_add, Nat.reduceAdd, List.cons_append, List.nil_append] at S); ((try clear F); have F := S.all; (try simp only [all_cons, all_nil, says_cell, and_true] at F)))
  (try simp (maxSteps := 1000000) (disch := first | omega | assumption | exact Nat.le_of_ble_eq_true rfl) only [go_sem, ↓mwp_block, simprocAttr])
  (refine st_alloc S ?_; clear S; intro g h S; (try simp only [splice_cons, splice_nil, List.set_cons_zero, List.set_cons_succ, Nat.zero_add, Nat.reduceAdd, List.cons_append, List.nil_append] at S); ((try clear F); have F := S.all; (try simp only [all_cons, all_nil, says_cell, and_true] at F)))
  (try simp (maxSteps := 1000000) (disch := first | omega | assumption | exact Nat.le_of_ble_eq_true rfl) only [go_sem, ↓mwp_block, simprocAttr, F, RetV.enc])
  (refine st_alloc S ?_; clear S; intro t h S; (try simp only [splice_cons, splice_nil, List.set_cons_zero, List.set_cons_succ, Nat.zero_add, Nat.reduceAdd, List.cons_append, List.nil_append] at S); ((try clear F); have F := S.all; (try simp only [all_cons, all_nil, says_cell, and_true] at F)))
  (try simp (maxSteps := 1000000) (disch := first | omega | assumption | exact Nat.le_of_ble_eq_true rfl) only [go_sem, ↓mwp_block, simprocAttr])
  (refine st_store (by first | exact S | exact S.p1 | exact S.p2 | exact S.p3 | exact S.p4 | exact S.p5 | exact S.p6 | exact S.p7 | exact S.p8 | exact S.p9 | exact S.p10 | exact S.p11) (by rfl) (by rfl) (Nat.le_of_ble_eq_true rfl) ?_; clear S; intro h S; (try simp only [splice_cons, splice_nil, List.set_cons_zero, List.set_cons_succ, Nat.zero_add, Nat.reduceAdd, List.cons_append, List.nil_append] at S); ((try clear F); have F := S.all; (try simp only [all_cons, all_nil, says_cell, and_true] at F)))
  have S : St h0 h (cellA t x.enc 35 :: cellA g _ _ :: cellA b x.enc 29 :: l) := S
  (try simp (maxSteps := 1000000) (disch := first | omega | assumption | exact Nat.le_of_ble_eq_true rfl) only [go_sem, ↓mwp_block, simprocAttr])
  obtain ⟨Z, hZ⟩ : ∃ Z, Z = ([.int .i64 0, .int .i64 0, .int .i64 0, .int .i64 0, .int .i64 0, .bool false, .int .i64 0, .int .i64 0, .slice none 0 0, .slice none 0 0, .int .i64 0, .int .i64 0, .int .i64 0, .int .i64 0] : List Value) := ⟨_, rfl⟩
  rw [← hZ] at S
  refine cut_st S (fun ρ' h' => ρ' 2 = .pointer (some ⟨g, 0, none⟩) ∧ ρ' 3 = .pointer (some ⟨t, 0, none⟩) ∧ ∃ A c B d, St h0 h' (cellA t (RetV.enc ⟨x.r, A, c, B, d⟩) 35 :: ownA zEnc 1 3 (.slice A x.r.us.length c) x.r.us :: ownA zEnc 1 3 (.slice B x.r.gs.length d) x.r.gs :: cellA g Z 35 :: l)) ?_ ?_
  · intro J hJ
    have rx : ∀ K t', readT (fun h' => St h0 h' (cellA t x.enc 35 :: cellA g Z 35 :: cellA b x.enc 29 :: l)) (fun h' => rd1 h' (.pointer (some ⟨b, 8, none⟩))) K t' = K (.slice x.A x.r.us.length x.c) := fun K t' => readT_I (fun h' S => st_rd1 (off := 8) S.p2) h S
    have ry : ∀ K t', readT (fun h' => St h0 h' (cellA t x.enc 35 :: cellA g Z 35 :: cellA b x.enc 29 :: l)) (fun h' => rd1 h' (.pointer (some ⟨b, 9, none⟩))) K t' = K (.slice x.B x.r.gs.length x.d) := fun K t' => readT_I (fun h' S => st_rd1 (off := 9) S.p2) h S
    (try simp (maxSteps := 1000000) (disch := first | omega | assumption | exact Nat.le_of_ble_eq_true rfl) only [go_sem, ↓mwp_block, simprocAttr, rx, ry])
    refine ⟨?_, ?_⟩
    · (refine st_alloc S ?_; clear S; intro a0 h S; (try simp only [splice_cons, splice_nil, List.set_cons_zero, List.set_cons_succ, Nat.zero_add, Nat.reduceAdd, List.cons_append, List.nil_append] at S); ((try clear F); have F := S.all; (try simp only [all_cons, all_nil, says_cell, and_true] at F)))
      have S := S.cellOwn (enc := zEnc) (sz := 1) (ys := []) zEnc_len rfl (by decide)
      refine ⟨S.tl, ?_⟩
      (try simp (maxSteps := 1000000) (disch := first | omega | assumption | exact Nat.le_of_ble_eq_true rfl) only [go_sem, ↓mwp_block, simprocAttr, rx, ry])
      refine ⟨?_, ?_⟩
      · skip
        refine st_append (bytes := 8) (ys := x.r.us) zEnc_len (by omega) zEnc_plain rfl S rfl (src_arr zEnc_len (ha _ S.tl.tl.tl.tl) rfl) (by simp; omega) (by simp; omega) ?_
        (try clear F)
        clear S
        intro v h S
        rw [List.nil_append] at S
        obtain ⟨A, c, rfl⟩ := S.sl
        refine ⟨S.tl, ?_⟩
        (try simp (maxSteps := 1000000) (disch := first | omega | assumption | exact Nat.le_of_ble_eq_true rfl) only [go_sem, ↓mwp_block, simprocAttr])
        (refine st_alloc S ?_; clear S; intro a1 h S; (try simp only [splice_cons, splice_nil, List.set_cons_zero, List.set_cons_succ, Nat.zero_add, Nat.reduceAdd, List.cons_append, List.nil_append] at S); ((try clear F); have F := S.all; (try simp only [all_cons, all_nil, says_cell, and_true] at F)))
        have S := S.cellOwn (enc := zEnc) (sz := 1) (ys := []) zEnc_len rfl (by decide)
        refine ⟨S.tl.tl, ?_⟩
        (try simp (maxSteps := 1000000) (disch := first | omega | assumption | exact Nat.le_of_ble_eq_true rfl) only [go_sem, ↓mwp_block, simprocAttr])
        refine st_append (bytes := 8) (ys := x.r.gs) zEnc_len (by omega) zEnc_plain rfl S rfl (src_arr zEnc_len (hb _ S.tl.tl.tl.tl.tl) rfl) (by simp; omega) (by simp; omega) ?_
        (try clear F)
        clear S
        intro v h S
        rw [List.nil_append] at S
        obtain ⟨B, d, rfl⟩ := S.sl
        (try simp (maxSteps := 1000000) (disch := first | omega | assumption | exact Nat.le_of_ble_eq_true rfl) only [go_sem, ↓mwp_block, simprocAttr])
        refine st_store S.p2 rfl rfl (Nat.le_of_ble_eq_true rfl) ?_
        clear S
        intro h S
        rw [RetV.enc] at S
        (try simp only [splice_cons, splice_nil, List.set_cons_zero, List.set_cons_succ, Nat.zero_add, Nat.reduceAdd, List.cons_append, List.nil_append] at S)
        (try simp (maxSteps := 1000000) (disch := first | omega | assumption | exact Nat.le_of_ble_eq_true rfl) only [go_sem, ↓mwp_block, simprocAttr])
        refine st_store S rfl rfl (Nat.le_of_ble_eq_true rfl) ?_
        clear S
        intro h S
        (try simp only [splice_cons, splice_nil, List.set_cons_zero, List.set_cons_succ, Nat.zero_add, Nat.reduceAdd, List.cons_append, List.nil_append] at S)
        refine hJ _ _ ?_
        (try simp (maxSteps := 1000000) (disch := first | omega | assumption | exact Nat.le_of_ble_eq_true rfl) only [go_sem, ↓mwp_block, simprocAttr])
        exact ⟨A, c, B, d, by
          have S : St h0 h (cellA t (RetV.enc ⟨x.r, A, c, B, d⟩) 35 :: ownA zEnc 1 3 (.slice B x.r.gs.length d) x.r.gs :: ownA zEnc 1 3 (.slice A x.r.us.length c) x.r.us :: cellA g Z 35 :: cellA b x.enc 29 :: l) := S
          exact S.p4.tl.p2.p1⟩
      · skip
        (refine st_alloc S ?_; clear S; intro a1 h S; (try simp only [splice_cons, splice_nil, List.set_cons_zero, List.set_cons_succ, Nat.zero_add, Nat.reduceAdd, List.cons_append, List.nil_append] at S); ((try clear F); have F := S.all; (try simp only [all_cons, all_nil, says_cell, and_true] at F)))
        have S := S.cellOwn (enc := zEnc) (sz := 1) (ys := []) zEnc_len rfl (by decide)
        refine ⟨S.tl.tl, ?_⟩
        (try simp (maxSteps := 1000000) (disch := first | omega | assumption | exact Nat.le_of_ble_eq_true rfl) only [go_sem, ↓mwp_block, simprocAttr])
        refine st_append (bytes := 8) (ys := x.r.us) zEnc_len (by omega) zEnc_plain rfl S.p1 rfl (src_arr zEnc_len (ha _ S.tl.tl.tl.tl.tl) rfl) (by simp; omega) (by simp; omega) ?_
        (try clear F)
        clear S
        intro v h S
        rw [List.nil_append] at S
        obtain ⟨A, c, rfl⟩ := S.sl
        refine ⟨S.tl.tl, ?_⟩
        (try simp (maxSteps := 1000000) (disch := first | omega | assumption | exact Nat.le_of_ble_eq_true rfl) only [go_sem, ↓mwp_block, simprocAttr])
        refine st_append (bytes := 8) (ys := x.r.gs) zEnc_len (by omega) zEnc_plain rfl S.p1 rfl (src_arr zEnc_len (hb _ S.tl.tl.tl.tl.tl) rfl) (by simp; omega) (by simp; omega) ?_
        (try clear F)
        clear S
        intro v h S
        rw [List.nil_append] at S
        obtain ⟨B, d, rfl⟩ := S.sl
        (try simp (maxSteps := 1000000) (disch := first | omega | assumption | exact Nat.le_of_ble_eq_true rfl) only [go_sem, ↓mwp_block, simprocAttr])
        refine st_store S.p2 rfl rfl (Nat.le_of_ble_eq_true rfl) ?_
        clear S
        intro h S
        rw [RetV.enc] at S
        (try simp only [splice_cons, splice_nil, List.set_cons_zero, List.set_cons_succ, Nat.zero_add, Nat.reduceAdd, List.cons_append, List.nil_append] at S)
        (try simp (maxSteps := 1000000) (disch := first | omega | assumption | exact Nat.le_of_ble_eq_true rfl) only [go_sem, ↓mwp_block, simprocAttr])
        refine st_store S rfl rfl (Nat.le_of_ble_eq_true rfl) ?_
        clear S
        intro h S
        (try simp only [splice_cons, splice_nil, List.set_cons_zero, List.set_cons_succ, Nat.zero_add, Nat.reduceAdd, List.cons_append, List.nil_append] at S)
        refine hJ _ _ ?_
        (try simp (maxSteps := 1000000) (disch := first | omega | assumption | exact Nat.le_of_ble_eq_true rfl) only [go_sem, ↓mwp_block, simprocAttr])
        exact ⟨A, c, B, d, by
          have S : St h0 h (cellA t (RetV.enc ⟨x.r, A, c, B, d⟩) 35 :: ownA zEnc 1 3 (.slice B x.r.gs.length d) x.r.gs :: ownA zEnc 1 3 (.slice A x.r.us.length c) x.r.us :: cellA g Z 35 :: cellA b x.enc 29 :: l) := S
          exact S.p4.tl.p2.p1⟩
    · skip
      (refine st_alloc S ?_; clear S; intro a1 h S; (try simp only [splice_cons, splice_nil, List.set_cons_zero, List.set_cons_succ, Nat.zero_add, Nat.reduceAdd, List.cons_append, List.nil_append] at S); ((try clear F); have F := S.all; (try simp only [all_cons, all_nil, says_cell, and_true] at F)))
      have S := S.cellOwn (enc := zEnc) (sz := 1) (ys := []) zEnc_len rfl (by decide)
      refine ⟨S.tl, ?_⟩
      (try simp (maxSteps := 1000000) (disch := first | omega | assumption | exact Nat.le_of_ble_eq_true rfl) only [go_sem, ↓mwp_block, simprocAttr])
      (refine st_alloc S ?_; clear S; intro a0 h S; (try simp only [splice_cons, splice_nil, List.set_cons_zero, List.set_cons_succ, Nat.zero_add, Nat.reduceAdd, List.cons_append, List.nil_append] at S); ((try clear F); have F := S.all; (try simp only [all_cons, all_nil, says_cell, and_true] at F)))
      have S := S.cellOwn (enc := zEnc) (sz := 1) (ys := []) zEnc_len rfl (by decide)
      refine ⟨S.tl.tl, ?_⟩
      (try simp (maxSteps := 1000000) (disch := first | omega | assumption | exact Nat.le_of_ble_eq_true rfl) only [go_sem, ↓mwp_block, simprocAttr])
      refine st_append (bytes := 8) (ys := x.r.us) zEnc_len (by omega) zEnc_plain rfl S rfl (src_arr zEnc_len (ha _ S.tl.tl.tl.tl.tl) rfl) (by simp; omega) (by simp; omega) ?_
      (try clear F)
      clear S
      intro v h S
      rw [List.nil_append] at S
      obtain ⟨A, c, rfl⟩ := S.sl
      refine ⟨S.tl.tl, ?_⟩
      (try simp (maxSteps := 1000000) (disch := first | omega | assumption | exact Nat.le_of_ble_eq_true rfl) only [go_sem, ↓mwp_block, simprocAttr])
      refine st_append (bytes := 8) (ys := x.r.gs) zEnc_len (by omega) zEnc_plain rfl S.p1 rfl (src_arr zEnc_len (hb _ S.tl.tl.tl.tl.tl) rfl) (by simp; omega) (by simp; omega) ?_
      (try clear F)
      clear S
      intro v h S
      rw [List.nil_append] at S
      obtain ⟨B, d, rfl⟩ := S.sl
      (try simp (maxSteps := 1000000) (disch := first | omega | assumption | exact Nat.le_of_ble_eq_true rfl) only [go_sem, ↓mwp_block, simprocAttr])
      refine st_store S.p2 rfl rfl (Nat.le_of_ble_eq_true rfl) ?_
      clear S
      intro h S
      rw [RetV.enc] at S
      (try simp only [splice_cons, splice_nil, List.set_cons_zero, List.set_cons_succ, Nat.zero_add, Nat.reduceAdd, List.cons_append, List.nil_append] at S)
      (try simp (maxSteps := 1000000) (disch := first | omega | assumption | exact Nat.le_of_ble_eq_true rfl) only [go_sem, ↓mwp_block, simprocAttr])
      refine st_store S rfl rfl (Nat.le_of_ble_eq_true rfl) ?_
      clear S
      intro h S
      (try simp only [splice_cons, splice_nil, List.set_cons_zero, List.set_cons_succ, Nat.zero_add, Nat.reduceAdd, List.cons_append, List.nil_append] at S)
      refine hJ _ _ ?_
      (try simp (maxSteps := 1000000) (disch := first | omega | assumption | exact Nat.le_of_ble_eq_true rfl) only [go_sem, ↓mwp_block, simprocAttr])
      exact ⟨A, c, B, d, by
        have S : St h0 h (cellA t (RetV.enc ⟨x.r, A, c, B, d⟩) 35 :: ownA zEnc 1 3 (.slice B x.r.gs.length d) x.r.gs :: ownA zEnc 1 3 (.slice A x.r.us.length c) x.r.us :: cellA g Z 35 :: cellA b x.enc 29 :: l) := S
        exact S.p4.tl.p2.p1⟩
  rintro ρ' h ⟨f2, f3, A, c, B, d, S⟩
  ((try clear F); have F := S.all; (try simp only [all_cons, all_nil, says_cell, and_true] at F))
  (try simp (maxSteps := 1000000) (disch := first | omega | assumption | exact Nat.le_of_ble_eq_true rfl) only [go_sem, ↓mwp_block, simprocAttr, f2, f3, F, RetV.enc])
  refine st_store S.p3 (by rfl) rfl (by rw [hZ]; exact Nat.le_of_ble_eq_true rfl) ?_
  clear S F
  intro h S
  rw [hZ] at S
  (try simp only [splice_cons, splice_nil, List.set_cons_zero, List.set_cons_succ, Nat.zero_add, Nat.reduceAdd, List.cons_append, List.nil_append] at S)
  ((try clear F); have F := S.all; (try simp only [all_cons, all_nil, says_cell, and_true] at F))
  (try simp (maxSteps := 1000000) (disch := first | omega | assumption | exact Nat.le_of_ble_eq_true rfl) only [go_sem, ↓mwp_block, simprocAttr, f2, F])
  exact hK _ _ ⟨⟨x.r, A, c, B, d⟩, rfl, rfl, St.star.2 S.tl.tl⟩
end
end Go.Proofs.YtblalmgahfbalaaGreat.MX

/- The audit: the law AuditWorth, walked. -/
namespace Go.Proofs.YtblalmgahfbalaaGreat.MX
open Go Go.Proofs
set_option linter.unusedSimpArgs false
set_option linter.unusedVariables false
set_option maxHeartbeats 32000000
theorem addS_cat {sg : Int} {sh : List Int} {U : List Unt} (h : ∀ u ∈ U, 0 ≤ u.cat) : ∀ u ∈ addS sg sh U, 0 ≤ u.cat := by
  intro u hu
  unfold addS at hu
  obtain ⟨i, hi, rfl⟩ := List.getElem_of_mem hu
  simp only [List.getElem_zipWith]
  exact h (U[i]'(by rw [List.length_zipWith] at hi; omega)) (List.getElem_mem _)
theorem unitsR_cat {o : Odr} {k : Int} (ho : ∀ l ∈ o.ls, okLine k l) (i : Int) : ∀ r, ∀ u ∈ unitsR o i r, 0 ≤ u.cat
  | 0 => by
    intro u hu
    obtain ⟨x, hx, hu⟩ := List.mem_flatMap.1 hu
    rw [(List.mem_replicate.1 hu).2]
    exact (ho x hx).2.1
  | r + 1 => addS_cat (unitsR_cat ho i r)
theorem ordsU_cat {k : Int} : ∀ {os : List Odr} (i : Nat), (∀ o ∈ os, okOrder k o) → ∀ u ∈ ordsU i os, 0 ≤ u.cat
  | [], _, _, u, hu => by cases hu
  | o :: os, i, h, u, hu => by
    rcases List.mem_append.1 hu with hu | hu
    · exact unitsR_cat (h o (by simp)).2.1 _ _ u hu
    · exact ordsU_cat (i + 1) (fun x hx => h x (by simp [hx])) u hu
theorem units_cat {C : Cfg} (hok : okCfg C) : ∀ u ∈ unitsAll C, 0 ≤ u.cat := fun u hu => by
  rcases List.mem_append.1 hu with hu | hu
  · exact ordsU_cat 0 hok.2.2.2.1 u hu
  · obtain ⟨x, _, hu⟩ := List.mem_flatMap.1 hu
    rw [(List.mem_replicate.1 hu).2]
    exact Int.le_refl _
theorem AuditWorth_ok (C : Cfg) (x : RetV) (h0 : Heap) (hC : C.ok h0) (hx : x.ok h0) :
    CallsH Tryz.prog 3 [.agg C.enc.toArray, .agg x.enc.toArray] h0 fun v h' => v = .bool true ∧ Fr h0 h' [] := by
  obtain ⟨r, w⟩ := hC
  obtain ⟨ha, hb⟩ := hx
  have S := St.nil h0
  have r' : ∀ {l : List HP} (h' : Heap), St h0 h' l → C.rd h' := fun h' S => r.fr S.fr
  have ha' : ∀ {l : List HP} (h' : Heap), St h0 h' l → Arr zEnc 1 h' x.A x.r.us := fun h' S => ha.fr S.fr (by simp)
  have hb' : ∀ {l : List HP} (h' : Heap), St h0 h' l → Arr zEnc 1 h' x.B x.r.gs := fun h' S => hb.fr S.fr (by simp)
  (refine enterK c_recouplaw24_AuditWorth (Nat.le_of_ble_eq_true rfl) fun K hK => ?_; (try simp (maxSteps := 1000000) (disch := first | omega | assumption | exact Nat.le_of_ble_eq_true rfl) only [go_sem, ↓mwp_block, simprocAttr, ir_recouplaw24_AuditWorth]))
  (refine st_alloc S ?_; clear S; intro g h S; (try simp only [splice_cons, splice_nil, List.set_cons_zero, List.set_cons_succ, Nat.zero_add, Nat.reduceAdd, List.cons_append, List.nil_append] at S); ((try clear F); have F := S.all; (try simp only [all_cons, all_nil, says_cell, and_true] at F)))
  (try simp (maxSteps := 1000000) (disch := first | omega | assumption | exact Nat.le_of_ble_eq_true rfl) only [go_sem, ↓mwp_block, simprocAttr])
  (refine st_alloc S ?_; clear S; intro b h S; (try simp only [splice_cons, splice_nil, List.set_cons_zero, List.set_cons_succ, Nat.zero_add, Nat.reduceAdd, List.cons_append, List.nil_append] at S); ((try clear F); have F := S.all; (try simp only [all_cons, all_nil, says_cell, and_true] at F)))
  (try simp (maxSteps := 1000000) (disch := first | omega | assumption | exact Nat.le_of_ble_eq_true rfl) only [go_sem, ↓mwp_block, simprocAttr])
  refine call_intro (awake24_ok _) ?_
  rintro _ h ⟨rfl, f1⟩
  have S := S.frame f1
  clear f1
  ((try clear F); have F := S.all; (try simp only [all_cons, all_nil, says_cell, and_true] at F))
  (try simp (maxSteps := 1000000) (disch := first | omega | assumption | exact Nat.le_of_ble_eq_true rfl) only [go_sem, ↓mwp_block, simprocAttr, F])
  refine call_intro (Few16_nil C (r' _ S) w 0) ?_
  rintro _ h ⟨rfl, f1⟩
  have S := S.frame f1
  clear f1
  by_cases hfew : fewC C
  case neg =>
    rw [dcd_false hfew]
    (try simp (maxSteps := 1000000) (disch := first | omega | assumption | exact Nat.le_of_ble_eq_true rfl) only [go_sem, ↓mwp_block, simprocAttr])
    refine call_intro (awake24_ok _) ?_
    rintro _ h' ⟨rfl, f2⟩
    (try simp (maxSteps := 1000000) (disch := first | omega | assumption | exact Nat.le_of_ble_eq_true rfl) only [go_sem, ↓mwp_block, simprocAttr])
    exact hK _ _ ⟨rfl, (S.frame f2).fr⟩
  rw [dcd_true hfew]
  obtain ⟨l1, l2, l3, l4⟩ := hfew
  have l4' : ∀ o ∈ C.os, o.ls.length < 1000000 := fun o ho => by have := l4 o ho; omega
  ((try clear F); have F := S.all; (try simp only [all_cons, all_nil, says_cell, and_true] at F))
  by_cases m1 : (300 : Int) < x.r.us.length
  · (try simp (maxSteps := 1000000) (disch := first | omega | assumption | exact Nat.le_of_ble_eq_true rfl) only [go_sem, ↓mwp_block, simprocAttr, F, RetV.enc])
    refine call_intro (awake24_ok _) ?_
    rintro _ h' ⟨rfl, f2⟩
    (try simp (maxSteps := 1000000) (disch := first | omega | assumption | exact Nat.le_of_ble_eq_true rfl) only [go_sem, ↓mwp_block, simprocAttr])
    exact hK _ _ ⟨rfl, (S.frame f2).fr⟩
  by_cases m2 : (300 : Int) < x.r.gs.length
  · (try simp (maxSteps := 1000000) (disch := first | omega | assumption | exact Nat.le_of_ble_eq_true rfl) only [go_sem, ↓mwp_block, simprocAttr, F, RetV.enc])
    refine call_intro (awake24_ok _) ?_
    rintro _ h' ⟨rfl, f2⟩
    (try simp (maxSteps := 1000000) (disch := first | omega | assumption | exact Nat.le_of_ble_eq_true rfl) only [go_sem, ↓mwp_block, simprocAttr])
    exact hK _ _ ⟨rfl, (S.frame f2).fr⟩
  (try simp (maxSteps := 1000000) (disch := first | omega | assumption | exact Nat.le_of_ble_eq_true rfl) only [go_sem, ↓mwp_block, simprocAttr, F, RetV.enc])
  have S : St h0 h (cellA b x.enc 29 :: cellA g C.enc 26 :: []) := S
  have rg : ∀ K t', readT (fun h' => St h0 h' (cellA b x.enc 29 :: cellA g C.enc 26 :: [])) (fun h' => bindV (rdN h' g 0 3) fun cs => some (.agg cs.toArray)) K t' = K (.agg C.enc.toArray) := fun K t' => readT_I (fun h' S => by rw [st_rdN S.p1 (Nat.le_of_ble_eq_true rfl)]; rfl) h S
  have rb : ∀ K t', readT (fun h' => St h0 h' (cellA b x.enc 29 :: cellA g C.enc 26 :: [])) (fun h' => bindV (rdN h' b 0 14) fun cs => some (.agg cs.toArray)) K t' = K (.agg x.enc.toArray) := fun K t' => readT_I (fun h' S => by rw [st_rdN S (Nat.le_of_ble_eq_true rfl)]; rfl) h S
  refine draw_st S ?_
  (try simp (maxSteps := 1000000) (disch := first | omega | assumption | exact Nat.le_of_ble_eq_true rfl) only [go_sem, ↓mwp_block, simprocAttr, rg, rb])
  refine call_intro (Theirs14_ok x ha' hb' (by omega) (by omega) S) ?_
  clear S F rg rb
  rintro _ h ⟨y, rfl, hy, S⟩
  refine ⟨S.tl, ?_⟩
  (try simp (maxSteps := 1000000) (disch := first | omega | assumption | exact Nat.le_of_ble_eq_true rfl) only [go_sem, ↓mwp_block, simprocAttr])
  have hyr : ∀ (h' : Heap), St h0 h' (retRow y :: cellA b x.enc 29 :: cellA g C.enc 26 :: []) → Arr zEnc 1 h' y.A y.r.us ∧ Arr zEnc 1 h' y.B y.r.gs := fun h' S => retRow_in S (by simp)
  refine call_intro (AWorth_ok C y r' w (by omega) (by omega) (by omega) l4' (fun h' S => (hyr h' S).1) (fun h' S => (hyr h' S).2) (by rw [hy]; omega) (by rw [hy]; omega) S) ?_
  clear S
  rw [hy]
  rintro v h ⟨hv, S⟩
  have hv : ∃ n e, v = .tuple #[.int .i64 n, .int .i64 e] ∧ ((worthV C x.r ∧ n = worthOf C.ps (unitsAll C) x.r ∧ e = 0) ∨ (¬ worthV C x.r ∧ n = 0 ∧ e = 1)) := by
    rcases hv with ⟨h1, rfl⟩ | ⟨h1, rfl⟩
    · exact ⟨_, _, rfl, .inl ⟨h1, rfl, rfl⟩⟩
    · exact ⟨_, _, rfl, .inr ⟨h1, rfl, rfl⟩⟩
  obtain ⟨n, e, rfl, hv⟩ := hv
  have S := S.tl
  ((try clear F); have F := S.all; (try simp only [all_cons, all_nil, says_cell, and_true] at F))
  (try simp (maxSteps := 1000000) (disch := first | omega | assumption | exact Nat.le_of_ble_eq_true rfl) only [go_sem, ↓mwp_block, simprocAttr, F])
  refine call_intro (RightConfig_ok C (r' _ S) (by omega) (by omega) (by omega) l4') ?_
  rintro _ h ⟨rfl, f1⟩
  have S := S.frame f1
  clear f1
  by_cases hok : okCfg C
  case neg =>
    obtain ⟨_, rfl, rfl⟩ := hv.resolve_left (fun h => hok h.1.1)
    rw [dcd_false hok]
    (try simp (maxSteps := 1000000) (disch := first | omega | assumption | exact Nat.le_of_ble_eq_true rfl) only [go_sem, ↓mwp_block, simprocAttr])
    exact hK _ _ ⟨rfl, S.fr⟩
  rw [dcd_true hok]
  ((try clear F); have F := S.all; (try simp only [all_cons, all_nil, says_cell, and_true] at F))
  (try simp (maxSteps := 1000000) (disch := first | omega | assumption | exact Nat.le_of_ble_eq_true rfl) only [go_sem, ↓mwp_block, simprocAttr, F])
  refine call_intro (Right14_ok x (ha' _ S) (hb' _ S) (by omega) (by omega)) ?_
  rintro _ h ⟨rfl, f1⟩
  have S := S.frame f1
  clear f1
  by_cases hr : x.r.right
  case neg =>
    obtain ⟨_, rfl, rfl⟩ := hv.resolve_left (fun h => hr h.1.2.1)
    rw [dcd_false hr]
    (try simp (maxSteps := 1000000) (disch := first | omega | assumption | exact Nat.le_of_ble_eq_true rfl) only [go_sem, ↓mwp_block, simprocAttr])
    exact hK _ _ ⟨rfl, S.fr⟩
  rw [dcd_true hr]
  ((try clear F); have F := S.all; (try simp only [all_cons, all_nil, says_cell, and_true] at F))
  (try simp (maxSteps := 1000000) (disch := first | omega | assumption | exact Nat.le_of_ble_eq_true rfl) only [go_sem, ↓mwp_block, simprocAttr, F])
  refine call_intro (RUnits_ok C r' hok S) ?_
  clear S F
  intro v h S
  obtain ⟨A, c, rfl⟩ := S.sl
  have hsh : shOk (unitsAll C) := units_nn hok
  have hcat := units_cat hok
  obtain ⟨_, hul⟩ := unitsAll_len hok
  obtain ⟨n1, n2, hall⟩ := hr.2.2.2.2.2.2.2.1
  have hrea := hr.2.2.1
  have hp := hok.1
  have hwv : worthV C x.r ↔ x.r.us.getD (x.r.us.length - 1) 0 < (unitsAll C).length := ⟨fun h => h.2.2, fun h => ⟨hok, hr, h⟩⟩
  generalize hUe : unitsAll C = U at *
  have hw0 : worthTo C.ps U x.r 0 = 0 := by simp [worthTo]
  have hn11 := n1.1
  ((try clear F); have F := S.all; (try simp only [all_cons, all_nil, says_cell, and_true] at F))
  (try simp (maxSteps := 1000000) (disch := first | omega | assumption | exact Nat.le_of_ble_eq_true rfl) only [go_sem, ↓mwp_block, simprocAttr, F, RetV.enc])
  refine loop_intro (fun ρ h' => ρ 2 = .pointer (some ⟨g, 0, none⟩) ∧ ρ 3 = .pointer (some ⟨b, 0, none⟩) ∧ ρ 5 = .int .i64 n ∧ ρ 6 = .int .i64 e ∧ ρ 7 = .slice A U.length c ∧ ρ 57 = .int .i64 x.r.us.length ∧ ∃ i : Nat, ρ 58 = .int .i64 i ∧ i ≤ x.r.us.length ∧ (∀ j, j < i → x.r.us.getD j 0 < U.length) ∧ ρ 8 = .int .i64 (worthTo C.ps U x.r i) ∧
    St h0 h' (ownA Unt.enc 4 42 (.slice A U.length c) U :: cellA b x.enc 29 :: cellA g C.enc 26 :: [])) (fun ρ _ => x.r.us.length - (iv (ρ 58)).toNat) ?_ ?_
  · (try simp (maxSteps := 1000000) (disch := first | omega | assumption | exact Nat.le_of_ble_eq_true rfl) only [go_sem, ↓mwp_block, simprocAttr])
    exact ⟨0, rfl, by omega, fun j hj => absurd hj (by omega), by rw [hw0], S⟩
  clear S F
  rintro ρ h J hJ ⟨e2, e3, e5, e6, e7, e57, i, e58, hi, hin, e8, S⟩
  (try simp (maxSteps := 1000000) (disch := first | omega | assumption | exact Nat.le_of_ble_eq_true rfl) only [go_sem, ↓mwp_block, simprocAttr, e57, e58])
  refine cond_dec (fun hlt => ?_) (fun hlt => ?_)
  · have hil : i < x.r.us.length := by omega
    obtain ⟨b1, o1, hA1, q1⟩ := (ha' _ S).at hil
    obtain ⟨b2, o2, hA2, q2⟩ := (hb' _ S).at (i := i) (by omega)
    have q1 := rd1_part0 q1 (by omega)
    have q2 := rd1_part0 q2 (by omega)
    simp only [zEnc, List.getElem?_cons_zero, Nat.mul_one] at q1 q2
    rw [← getD_at] at q1 q2
    obtain ⟨c1, _, c2⟩ := hall i hil
    have hsn := worthTo_snoc (ps := C.ps) (U := U) (r := x.r) n2 hil
    have hbd := worthTo_bound (r := x.r) hp hsh i
    have hn200 := n1.2
    have hlast : ¬ x.r.us.getD i 0 < U.length → ¬ worthV C x.r := fun hn h => hn (by
      rw [hwv] at h
      have := last_max ⟨n1, n2, hall⟩ h
      rw [getD_at hil]
      exact this _ (List.getElem_mem hil))
    obtain ⟨j, hj⟩ := Int.eq_ofNat_of_zero_le c1.1
    rw [hj] at q1 hsn hlast
    ((try clear F); have F := S.all; (try simp only [all_cons, all_nil, says_cell, and_true] at F))
    by_cases d0 : (U.length : Int) ≤ j
    · obtain ⟨_, rfl, rfl⟩ := hv.resolve_left (fun h => hlast (by omega) h.1)
      (try simp (maxSteps := 1000000) (disch := first | omega | assumption | exact Nat.le_of_ble_eq_true rfl) only [go_sem, ↓mwp_block, simprocAttr, e3, e5, e6, e7, e58, F, RetV.enc, hA1, q1, Nat.mul_one])
      exact hK _ _ ⟨rfl, S.fr⟩
    have hjl : j < U.length := by omega
    have hat : untAt U (j : Int) = U[j] := by rw [untAt, Int.toNat_natCast, List.getD_eq_getElem?_getD, List.getElem?_eq_getElem hjl]; rfl
    have hshj := hsh _ (List.getElem_mem hjl)
    have hcj := hcat _ (List.getElem_mem hjl)
    obtain ⟨b4, o4, hA4, q4⟩ := (S.arr Unt.enc_len).at hjl
    have hin2 : ∀ j', j' < i + 1 → x.r.us.getD j' 0 < U.length := fun j' hj' => by
      by_cases e : j' = i
      · rw [e, hj]; omega
      · exact hin j' (by omega)
    generalize U[j] = z at *
    generalize hgv : x.r.gs.getD i 0 = gv at *
    (try simp (maxSteps := 1000000) (disch := first | omega | assumption | exact Nat.le_of_ble_eq_true rfl) only [go_sem, ↓mwp_block, simprocAttr, e3, e7, e58, F, RetV.enc, hA1, q1, hA4, q4, Nat.mul_one])
    (refine st_alloc S ?_; clear S; intro q h S; (try simp only [splice_cons, splice_nil, List.set_cons_zero, List.set_cons_succ, Nat.zero_add, Nat.reduceAdd, List.cons_append, List.nil_append] at S); ((try clear F); have F := S.all; (try simp only [all_cons, all_nil, says_cell, and_true] at F)))
    (try simp (maxSteps := 1000000) (disch := first | omega | assumption | exact Nat.le_of_ble_eq_true rfl) only [go_sem, ↓mwp_block, simprocAttr, F, Unt.enc])
    (refine st_store (by first | exact S | exact S.p1 | exact S.p2 | exact S.p3 | exact S.p4 | exact S.p5 | exact S.p6 | exact S.p7 | exact S.p8 | exact S.p9 | exact S.p10 | exact S.p11) (by rfl) (by rfl) (Nat.le_of_ble_eq_true rfl) ?_; clear S; intro h S; (try simp only [splice_cons, splice_nil, List.set_cons_zero, List.set_cons_succ, Nat.zero_add, Nat.reduceAdd, List.cons_append, List.nil_append] at S); ((try clear F); have F := S.all; (try simp only [all_cons, all_nil, says_cell, and_true] at F)))
    (try simp (maxSteps := 1000000) (disch := first | omega | assumption | exact Nat.le_of_ble_eq_true rfl) only [go_sem, ↓mwp_block, simprocAttr])
    (refine st_alloc S ?_; clear S; intro pp h S; (try simp only [splice_cons, splice_nil, List.set_cons_zero, List.set_cons_succ, Nat.zero_add, Nat.reduceAdd, List.cons_append, List.nil_append] at S); ((try clear F); have F := S.all; (try simp only [all_cons, all_nil, says_cell, and_true] at F)))
    (try simp (maxSteps := 1000000) (disch := first | omega | assumption | exact Nat.le_of_ble_eq_true rfl) only [go_sem, ↓mwp_block, simprocAttr])
    (refine st_store (by first | exact S | exact S.p1 | exact S.p2 | exact S.p3 | exact S.p4 | exact S.p5 | exact S.p6 | exact S.p7 | exact S.p8 | exact S.p9 | exact S.p10 | exact S.p11) (by rfl) (by rfl) (Nat.le_of_ble_eq_true rfl) ?_; clear S; intro h S; (try simp only [splice_cons, splice_nil, List.set_cons_zero, List.set_cons_succ, Nat.zero_add, Nat.reduceAdd, List.cons_append, List.nil_append] at S); ((try clear F); have F := S.all; (try simp only [all_cons, all_nil, says_cell, and_true] at F)))
    have S : St h0 h (cellA pp Pol.zero.enc 48 :: cellA q z.enc 42 :: _) := S
    obtain ⟨P, hP⟩ : ∃ P, P = polOf C.ps z.cat := ⟨_, rfl⟩
    have hPr : P.right := hP ▸ polOf_right hp z.cat
    ((try clear F); have F := S.all; (try simp only [all_cons, all_nil, says_cell, and_true] at F))
    (try simp (maxSteps := 1000000) (disch := first | omega | assumption | exact Nat.le_of_ble_eq_true rfl) only [go_sem, ↓mwp_block, simprocAttr, F, e2, Unt.enc, Cfg.enc])
    refine cond_cut (fun ρ' h' => ρ' 2 = .pointer (some ⟨g, 0, none⟩) ∧ ρ' 3 = .pointer (some ⟨b, 0, none⟩) ∧ ρ' 5 = .int .i64 n ∧ ρ' 6 = .int .i64 e ∧ ρ' 7 = .slice A U.length c ∧ ρ' 57 = .int .i64 x.r.us.length ∧ ρ' 58 = .int .i64 i ∧ ρ' 8 = .int .i64 (worthTo C.ps U x.r i) ∧ ρ' 9 = .int .i64 i ∧ ρ' 10 = .pointer (some ⟨q, 0, none⟩) ∧ ρ' 11 = .pointer (some ⟨pp, 0, none⟩) ∧ St h0 h' (cellA pp P.enc 48 :: cellA q z.enc 42 :: ownA Unt.enc 4 42 (.slice A U.length c) U :: cellA b x.enc 29 :: cellA g C.enc 26 :: [])) ?_ ?_ ?_
    · intro hb J' hJ'
      have hc := of_dcd_true hb
      obtain ⟨k, hk⟩ := Int.eq_ofNat_of_zero_le hcj
      have hkl : k < C.ps.length := by omega
      obtain ⟨b5, o5, hA5, q5⟩ := (r' _ S).ps.at hkl
      rw [← polOf_at hkl, ← hk, ← hP] at q5
      ((try clear F); have F := S.all; (try simp only [all_cons, all_nil, says_cell, and_true] at F))
      (try simp (maxSteps := 1000000) (disch := first | omega | assumption | exact Nat.le_of_ble_eq_true rfl) only [go_sem, ↓mwp_block, simprocAttr, F, e2, Unt.enc, Cfg.enc, hk, hA5, q5, Pol.enc])
      refine st_store S rfl rfl (Nat.le_of_ble_eq_true rfl) ?_
      clear S F q5
      intro h S
      rw [Pol.enc] at S
      (try simp only [splice_cons, splice_nil, List.set_cons_zero, List.set_cons_succ, Nat.zero_add, Nat.reduceAdd, List.cons_append, List.nil_append] at S)
      refine hJ' _ _ ?_
      (try simp (maxSteps := 1000000) (disch := first | omega | assumption | exact Nat.le_of_ble_eq_true rfl) only [go_sem, ↓mwp_block, simprocAttr, e2, e3, e5, e6, e7, e57, e58, e8])
      exact S
    · intro hb J' hJ'
      have hc := of_dcd_false hb
      have hPz : P = Pol.zero := by rw [hP]; exact polOf_out (.inr (by omega))
      (try simp (maxSteps := 1000000) (disch := first | omega | assumption | exact Nat.le_of_ble_eq_true rfl) only [go_sem, ↓mwp_block, simprocAttr])
      refine hJ' _ _ ?_
      (try simp (maxSteps := 1000000) (disch := first | omega | assumption | exact Nat.le_of_ble_eq_true rfl) only [go_sem, ↓mwp_block, simprocAttr, e2, e3, e5, e6, e7, e57, e58, e8])
      rw [hPz]
      exact S
    clear S F
    rintro ρ' h ⟨f2, f3, f5, f6, f7, f57, f58, f8, f9, f10, f11, S⟩
    clear q2
    obtain ⟨b6, o6, hA6, q2⟩ := (hb' _ S).at (i := i) (by omega)
    rw [hA2] at hA6
    cases hA6
    have q2 := rd1_part0 q2 (by omega)
    simp only [zEnc, List.getElem?_cons_zero, Nat.mul_one] at q2
    rw [← getD_at, hgv] at q2
    ((try clear F); have F := S.all; (try simp only [all_cons, all_nil, says_cell, and_true] at F))
    by_cases d1 : gv = 4
    · have hu : unitW C.ps U x.r.rea (j : Int) gv = z.share := by rw [unitW, if_pos d1, hat]
      rw [hu] at hsn
      (try simp (maxSteps := 1000000) (disch := first | omega | assumption | exact Nat.le_of_ble_eq_true rfl) only [go_sem, ↓mwp_block, simprocAttr, f3, f8, f9, f10, F, RetV.enc, Unt.enc, hA2, q2, Nat.mul_one])
      (try simp (maxSteps := 1000000) (disch := first | omega | assumption | exact Nat.le_of_ble_eq_true rfl) only [go_sem, ↓mwp_block, simprocAttr, f58])
      refine hJ _ _ ?_ ?_
      · (try simp (maxSteps := 1000000) (disch := first | omega | assumption | exact Nat.le_of_ble_eq_true rfl) only [go_sem, ↓mwp_block, simprocAttr, f2, f3, f5, f6, f7, f57, f8])
        exact ⟨i + 1, rfl, by omega, hin2, by rw [hsn], S.tl.tl⟩
      · (try simp (maxSteps := 1000000) (disch := first | omega | assumption | exact Nat.le_of_ble_eq_true rfl) only [go_sem, ↓mwp_block, simprocAttr, e58, f58])
        omega
    by_cases d2 : 0 ≤ gv
    · have hu : unitW C.ps U x.r.rea (j : Int) gv = wrt P z.share x.r.rea gv := by rw [unitW, if_neg d1, if_pos d2, hat, ← hP]
      rw [hu] at hsn
      have hwb := wrt_bound (r := x.r.rea) (g := gv) hPr hshj.1
      (try simp (maxSteps := 1000000) (disch := first | omega | assumption | exact Nat.le_of_ble_eq_true rfl) only [go_sem, ↓mwp_block, simprocAttr, f3, f8, f9, f10, F, RetV.enc, Unt.enc, hA2, q2, Nat.mul_one])
      refine draw_eq ?_
      (try simp (maxSteps := 1000000) (disch := first | omega | assumption | exact Nat.le_of_ble_eq_true rfl) only [go_sem, ↓mwp_block, simprocAttr, f3, f8, f9, f10, f11, F, RetV.enc, Unt.enc, Pol.enc, hA2, q2, Nat.mul_one])
      refine call_intro (RWorth_ok P z.share x.r.rea gv hPr ⟨hrea.1, by have := hrea.2; omega⟩ ⟨d2, by have := c2.2; omega⟩ hshj.1 (by omega) _) ?_
      rintro _ h ⟨rfl, f1'⟩
      have S := S.frame f1'
      clear f1'
      (try simp (maxSteps := 1000000) (disch := first | omega | assumption | exact Nat.le_of_ble_eq_true rfl) only [go_sem, ↓mwp_block, simprocAttr, f58])
      refine hJ _ _ ?_ ?_
      · (try simp (maxSteps := 1000000) (disch := first | omega | assumption | exact Nat.le_of_ble_eq_true rfl) only [go_sem, ↓mwp_block, simprocAttr, f2, f3, f5, f6, f7, f57, f8])
        exact ⟨i + 1, rfl, by omega, hin2, by rw [hsn], S.tl.tl⟩
      · (try simp (maxSteps := 1000000) (disch := first | omega | assumption | exact Nat.le_of_ble_eq_true rfl) only [go_sem, ↓mwp_block, simprocAttr, e58, f58])
        omega
    · have hu : unitW C.ps U x.r.rea (j : Int) gv = 0 := by rw [unitW, if_neg d1, if_neg d2]
      rw [hu, Int.add_zero] at hsn
      (try simp (maxSteps := 1000000) (disch := first | omega | assumption | exact Nat.le_of_ble_eq_true rfl) only [go_sem, ↓mwp_block, simprocAttr, f3, f8, f9, f10, F, RetV.enc, Unt.enc, hA2, q2, Nat.mul_one])
      (try simp (maxSteps := 1000000) (disch := first | omega | assumption | exact Nat.le_of_ble_eq_true rfl) only [go_sem, ↓mwp_block, simprocAttr, f58])
      refine hJ _ _ ?_ ?_
      · (try simp (maxSteps := 1000000) (disch := first | omega | assumption | exact Nat.le_of_ble_eq_true rfl) only [go_sem, ↓mwp_block, simprocAttr, f2, f3, f5, f6, f7, f57, f8])
        exact ⟨i + 1, rfl, by omega, hin2, by rw [hsn], S.tl.tl⟩
      · (try simp (maxSteps := 1000000) (disch := first | omega | assumption | exact Nat.le_of_ble_eq_true rfl) only [go_sem, ↓mwp_block, simprocAttr, e58, f58])
        omega
  obtain rfl : i = x.r.us.length := by omega
  have hw : worthV C x.r := by rw [hwv]; exact hin _ (by omega)
  obtain ⟨_, rfl, rfl⟩ := hv.resolve_right (fun h => h.1 hw)
  rw [worthTo_all n2] at e8
  (try simp (maxSteps := 1000000) (disch := first | omega | assumption | exact Nat.le_of_ble_eq_true rfl) only [go_sem, ↓mwp_block, simprocAttr, e5, e6, e8])
  exact hK _ _ ⟨by simp, S.fr⟩
end Go.Proofs.YtblalmgahfbalaaGreat.MX
