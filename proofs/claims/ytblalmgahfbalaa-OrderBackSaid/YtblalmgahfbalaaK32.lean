/- Texts in one file: Od21. -/
import Derived.Test.YtblalmgahfbalaaK30
import Derived.Test.YtblalmgahfbalaaK31

/- Orders: the law OrderBack. -/
namespace Go.Proofs.Ytblalmgahfbalaa.MX
open Go Go.Proofs
set_option linter.unusedSimpArgs false
set_option linter.unusedVariables false
set_option maxHeartbeats 8000000
theorem cfg_rd {h0 h : Heap} {D : Cfg} {l : List HP} (S : St h0 h (ownA Odr.enc 5 40 (.slice D.A1 D.os.length D.c1) D.os :: ownA Sup.enc 3 57 (.slice D.A2 D.ss.length D.c2) D.ss :: ownA Pol.enc 16 78 (.slice D.A3 D.ps.length D.c3) D.ps :: (D.os.map oRow ++ l))) : D.rd h := by
  have R := rows_arr (L := [_, _, _]) S
  exact ⟨S.arr Odr.enc_len, fun o ho => (R o ho).1, S.p1.arr Sup.enc_len, S.p2.arr Pol.enc_len⟩
theorem OrderBack_ok (C : Cfg) (h0 : Heap) (hC : C.ok h0) :
    CallsH Try.prog 7 [.agg C.enc.toArray] h0 fun v h' => v = .bool true ∧ Fr h0 h' [] := by
  obtain ⟨r, w⟩ := hC
  have S := St.nil h0
  have r' : ∀ {l : List HP} (h' : Heap), St h0 h' l → C.rd h' := fun h' S => r.fr S.fr
  (refine enterK c_recouplaw10_OrderBack (Nat.le_of_ble_eq_true rfl) fun K hK => ?_; (try simp (maxSteps := 1000000) (disch := first | omega | assumption | exact Nat.le_of_ble_eq_true rfl) only [go_sem, ↓mwp_block, simprocAttr, ir_recouplaw10_OrderBack]))
  (refine st_alloc S ?_; clear S; intro g h S; (try simp only [splice_cons, splice_nil, List.set_cons_zero, List.set_cons_succ, Nat.zero_add, Nat.reduceAdd, List.cons_append, List.nil_append] at S); ((try clear F); have F := S.all; (try simp only [all_cons, all_nil, says_cell, and_true] at F)))
  (try simp (maxSteps := 1000000) (disch := first | omega | assumption | exact Nat.le_of_ble_eq_true rfl) only [go_sem, ↓mwp_block, simprocAttr])
  refine call_intro (awake10_ok _) ?_
  rintro _ h ⟨rfl, f1⟩
  have S := S.frame f1
  ((try clear F); have F := S.all; (try simp only [all_cons, all_nil, says_cell, and_true] at F))
  (try simp (maxSteps := 1000000) (disch := first | omega | assumption | exact Nat.le_of_ble_eq_true rfl) only [go_sem, ↓mwp_block, simprocAttr, F])
  refine call_intro (Few_ok C (r' _ S) w) ?_
  rintro _ h ⟨rfl, f2⟩
  have S := S.frame f2
  clear f1 f2
  by_cases hfew : fewC C
  case neg =>
    rw [dcd_false hfew]
    (try simp (maxSteps := 1000000) (disch := first | omega | assumption | exact Nat.le_of_ble_eq_true rfl) only [go_sem, ↓mwp_block, simprocAttr])
    refine call_intro (awake10_ok _) ?_
    rintro _ h' ⟨rfl, f2⟩
    (try simp (maxSteps := 1000000) (disch := first | omega | assumption | exact Nat.le_of_ble_eq_true rfl) only [go_sem, ↓mwp_block, simprocAttr])
    exact hK _ _ ⟨rfl, (S.frame f2).fr⟩
  rw [dcd_true hfew]
  obtain ⟨l1, l2, l3, l4⟩ := hfew
  have l4' : ∀ o ∈ C.os, o.ls.length < 1000000 := fun o ho => by have := l4 o ho; omega
  ((try clear F); have F := S.all; (try simp only [all_cons, all_nil, says_cell, and_true] at F))
  (try simp (maxSteps := 1000000) (disch := first | omega | assumption | exact Nat.le_of_ble_eq_true rfl) only [go_sem, ↓mwp_block, simprocAttr, F])
  refine call_intro (OEncode_ok C r' w (by omega) (by omega) (by omega) l4' S) ?_
  clear S F
  rintro _ h (⟨hok, rfl, S⟩ | ⟨hok, s, rfl, S⟩)
  · ((try clear F); have F := S.all; (try simp only [all_cons, all_nil, says_cell, and_true] at F))
    (try simp (maxSteps := 1000000) (disch := first | omega | assumption | exact Nat.le_of_ble_eq_true rfl) only [go_sem, ↓mwp_block, simprocAttr, F])
    refine call_intro (RightConfig_ok C (r' _ S) (by omega) (by omega) (by omega) l4') ?_
    rintro _ h ⟨rfl, f2⟩
    have S := S.frame f2
    rw [dcd_false hok]
    (try simp (maxSteps := 1000000) (disch := first | omega | assumption | exact Nat.le_of_ble_eq_true rfl) only [go_sem, ↓mwp_block, simprocAttr])
    exact hK _ _ ⟨rfl, S.fr⟩
  obtain ⟨B, d, rfl⟩ := S.sl
  have hbl : (encC C).length < 1000000 := by
    obtain ⟨k0, k1, k2, k3, k4, _⟩ := id hok
    have := k0.1
    have h1 := flat_len (f := odrB) (n := 125) (l := C.os) fun x hx => odrB_len (k3 x hx).1.2.1.2
    have h2 := flat_len (f := supB) (n := 11) (l := C.ss) fun x _ => by rw [supB_len]; exact Nat.le_refl _
    have h3 := encT_len C.ps
    simp only [encC, List.length_append, le_length]
    omega
  ((try clear F); have F := S.all; (try simp only [all_cons, all_nil, says_cell, and_true] at F))
  (try simp (maxSteps := 1000000) (disch := first | omega | assumption | exact Nat.le_of_ble_eq_true rfl) only [go_sem, ↓mwp_block, simprocAttr, F])
  refine call_intro (RightConfig_ok C (r' _ S) (by omega) (by omega) (by omega) l4') ?_
  rintro _ h ⟨rfl, f2⟩
  have S := S.frame f2
  rw [dcd_true hok]
  (try simp (maxSteps := 1000000) (disch := first | omega | assumption | exact Nat.le_of_ble_eq_true rfl) only [go_sem, ↓mwp_block, simprocAttr])
  refine call_intro (ODecode_ok S (fun h' S => S.arr bEnc_len) hbl) ?_
  clear S F f2
  have hrC := reads_enc hok
  rintro _ h (⟨D, rfl, hw, hR, S⟩ | ⟨rfl, hn, S⟩)
  case inr => exact (hn ⟨C, hrC⟩).elim
  have hpu : C.pu = D.pu := by
    have e1 : C.ps = D.ps := encT_inj (fun x hx => Pol.right_fits (hok.1.2 x hx)) (fun x hx => Pol.right_fits (hR.1.1.2 x hx)) (hrC.2.1.trans hR.2.1.symm)
    have e2 : C.os.map Odr.pu = D.os.map Odr.pu := hrC.2.2.1.trans hR.2.2.1.symm
    have e3 : C.ss = D.ss := hrC.2.2.2.1.trans hR.2.2.2.1.symm
    simp only [Cfg.pu, e1, e2, e3]
  (try simp (maxSteps := 1000000) (disch := first | omega | assumption | exact Nat.le_of_ble_eq_true rfl) only [go_sem, ↓mwp_block, simprocAttr])
  (refine st_alloc S ?_; clear S; intro q h S; (try simp only [splice_cons, splice_nil, List.set_cons_zero, List.set_cons_succ, Nat.zero_add, Nat.reduceAdd, List.cons_append, List.nil_append] at S); ((try clear F); have F := S.all; (try simp only [all_cons, all_nil, says_cell, and_true] at F)))
  (try simp (maxSteps := 1000000) (disch := first | omega | assumption | exact Nat.le_of_ble_eq_true rfl) only [go_sem, ↓mwp_block, simprocAttr])
  refine st_store S rfl rfl (Nat.le_of_ble_eq_true rfl) ?_
  clear S F
  intro h S
  (try simp only [splice_cons, splice_nil, List.set_cons_zero, List.set_cons_succ, Nat.zero_add, Nat.reduceAdd, List.cons_append, List.nil_append] at S)
  have S : St h0 h (cellA q D.enc 26 :: (ownA Odr.enc 5 40 (.slice D.A1 D.os.length D.c1) D.os :: ownA Sup.enc 3 57 (.slice D.A2 D.ss.length D.c2) D.ss :: ownA Pol.enc 16 78 (.slice D.A3 D.ps.length D.c3) D.ps :: (D.os.map oRow ++ (ownA bEnc 1 5 (.slice B (encC C).length d) (encC C) :: cellA g C.enc 26 :: [])))) := S
  have hrD : D.rd h := cfg_rd S.tl
  have S2 : St h0 h [cellA q D.enc 26, cellA g C.enc 26] := by
    obtain ⟨M, S3⟩ : ∃ M, St h0 h (cellA q D.enc 26 :: cellA g C.enc 26 :: M) := by
      have hp : (cellA q D.enc 26 :: ownA Odr.enc 5 40 (.slice D.A1 D.os.length D.c1) D.os :: ownA Sup.enc 3 57 (.slice D.A2 D.ss.length D.c2) D.ss :: ownA Pol.enc 16 78 (.slice D.A3 D.ps.length D.c3) D.ps :: (D.os.map oRow ++ (ownA bEnc 1 5 (.slice B (encC C).length d) (encC C) :: cellA g C.enc 26 :: []))).Perm (cellA q D.enc 26 :: cellA g C.enc 26 :: (ownA Odr.enc 5 40 (.slice D.A1 D.os.length D.c1) D.os :: ownA Sup.enc 3 57 (.slice D.A2 D.ss.length D.c2) D.ss :: ownA Pol.enc 16 78 (.slice D.A3 D.ps.length D.c3) D.ps :: (D.os.map oRow ++ [ownA bEnc 1 5 (.slice B (encC C).length d) (encC C)]))) := by
        refine List.Perm.cons _ ?_
        have := (List.perm_append_comm (l₁ := ownA Odr.enc 5 40 (.slice D.A1 D.os.length D.c1) D.os :: ownA Sup.enc 3 57 (.slice D.A2 D.ss.length D.c2) D.ss :: ownA Pol.enc 16 78 (.slice D.A3 D.ps.length D.c3) D.ps :: (D.os.map oRow ++ [ownA bEnc 1 5 (.slice B (encC C).length d) (encC C)])) (l₂ := [cellA g C.enc 26]))
        simpa using this
      exact ⟨_, S.perm hp⟩
    have S4 : St h0 h (M ++ [cellA q D.enc 26, cellA g C.enc 26]) := S3.perm (List.perm_append_comm (l₁ := [_, _]))
    exact S4.dropL
  have rg : ∀ K t, readT (fun h' => St h0 h' _) (fun h' => bindV (rdN h' g 0 3) fun cs => some (Value.agg cs.toArray)) K t = bindT (some (.agg C.enc.toArray)) K ⟨⟩ := fun K t => reads_of S2 (fun h' s => by rw [st_rdN (off := 0) (n := 3) s.p1 (by simp [Cfg.enc])]; rfl)
  have rq : ∀ K t, readT (fun h' => St h0 h' _) (fun h' => bindV (rdN h' q 0 3) fun cs => some (Value.agg cs.toArray)) K t = bindT (some (.agg D.enc.toArray)) K ⟨⟩ := fun K t => reads_of S2 (fun h' s => by rw [st_rdN (off := 0) (n := 3) s (by simp [Cfg.enc])]; rfl)
  (try simp (maxSteps := 1000000) (disch := first | omega | assumption | exact Nat.le_of_ble_eq_true rfl) only [go_sem, ↓mwp_block, simprocAttr])
  refine draw_st S2 ?_
  (try simp (maxSteps := 1000000) (disch := first | omega | assumption | exact Nat.le_of_ble_eq_true rfl) only [go_sem, ↓mwp_block, simprocAttr, rg, rq])
  refine call_intro (SameConfig_ok C D (r' _ S) hrD (by omega) (by omega) (by omega) l4') ?_
  rintro _ h' ⟨rfl, f⟩
  have S2 := S2.frame f
  have hrD := hrD.fr f
  refine ⟨S2, ?_⟩
  rw [dcd_true hpu]
  (try simp (maxSteps := 1000000) (disch := first | omega | assumption | exact Nat.le_of_ble_eq_true rfl) only [go_sem, ↓mwp_block, simprocAttr, rg, rq])
  refine call_intro (OEqual_ok C D (r' _ S2) hrD (by omega) (by omega) (by omega) l4') ?_
  rintro _ h' ⟨rfl, f⟩
  have S2 := S2.frame f
  refine ⟨S2, ?_⟩
  rw [dcd_true hpu]
  (try simp (maxSteps := 1000000) (disch := first | omega | assumption | exact Nat.le_of_ble_eq_true rfl) only [go_sem, ↓mwp_block, simprocAttr, rg, rq])
  clear rg rq
  refine call_intro (OClone_ok C r' (by omega) (by omega) (by omega) (fun o ho => by have := l4 o ho; omega) S2) ?_
  clear S2
  rintro _ h' ⟨E, rfl, hwE, hpE, S3⟩
  have hrE := cfg_rd S3
  have hC2 := r' _ S3
  refine ⟨?_, ?_⟩
  · have := (show St h0 h' ((_ :: _ :: _ :: E.os.map oRow) ++ [cellA q D.enc 26, cellA g C.enc 26]) from S3)
    exact this.dropL
  (try simp (maxSteps := 1000000) (disch := first | omega | assumption | exact Nat.le_of_ble_eq_true rfl) only [go_sem, ↓mwp_block, simprocAttr])
  refine call_intro (OEqual_ok C E hC2 hrE (by omega) (by omega) (by omega) l4') ?_
  rintro _ h' ⟨rfl, f⟩
  have S3 := S3.frame f
  rw [dcd_true hpE.symm]
  (try simp (maxSteps := 1000000) (disch := first | omega | assumption | exact Nat.le_of_ble_eq_true rfl) only [go_sem, ↓mwp_block, simprocAttr])
  exact hK _ _ ⟨rfl, S3.fr⟩
end Go.Proofs.Ytblalmgahfbalaa.MX
