/- The law DiskClones. -/
import Derived.Test.YtackopkhelochaaDs7
namespace Go.Proofs.Ytackopkhelochaa.MX
open Go Go.Proofs
set_option linter.unusedSimpArgs false
set_option linter.unusedVariables false

set_option maxHeartbeats 4000000 in
theorem DiskClones_ok (cap : Int) (A : Option Addr) (c : Nat) (xs : List DA) (A2 : Option Addr) (c2 : Nat) (ys : List DA) (h0 : Heap) (hcap : I64 cap) (ha : Arr DA.enc 12 h0 A xs) (hc : xs.length ≤ c) (hc2 : c ≤ maxLen) (hok : ∀ x ∈ xs, x.ok h0)
    (hb : Arr DA.enc 12 h0 A2 ys) (hbc : ys.length ≤ c2) (hbc2 : c2 ≤ maxLen) (hbok : ∀ x ∈ ys, x.ok h0) :
    CallsH Try.prog 13 [.int .i64 cap, .slice A xs.length c, .slice A2 ys.length c2] h0 fun v h' => v = .bool true ∧ Fr h0 h' [] := by
  have S := St.nil h0
  have hm : maxLen = 9223372036854775807 := rfl
  obtain ⟨hcap1, hcap2⟩ := hcap
  (refine enterK c_recouplaw01_DiskClones (Nat.le_of_ble_eq_true rfl) fun K hK => ?_; (try simp (maxSteps := 1000000) (disch := first | omega | assumption | exact Nat.le_of_ble_eq_true rfl) only [go_sem, ↓mwp_block, simprocAttr, ir_recouplaw01_DiskClones]))
  refine call_intro (awake01_ok _) ?_
  rintro _ h ⟨rfl, hf⟩
  have S := S.frame hf
  (try simp (maxSteps := 1000000) (disch := first | omega | assumption | exact Nat.le_of_ble_eq_true rfl) only [go_sem, ↓mwp_block, simprocAttr])
  refine call_intro (Few01_ok 30 (ha.fr S.fr (by simp)) (by omega)) ?_
  rintro _ _ ⟨b, rfl, rfl⟩
  cases b
  · (try simp (maxSteps := 1000000) (disch := first | omega | assumption | exact Nat.le_of_ble_eq_true rfl) only [go_sem, ↓mwp_block, simprocAttr])
    refine call_intro (awake01_ok _) ?_
    rintro _ h ⟨rfl, hf⟩
    (try simp (maxSteps := 1000000) (disch := first | omega | assumption | exact Nat.le_of_ble_eq_true rfl) only [go_sem, ↓mwp_block, simprocAttr])
    exact hK _ _ ⟨rfl, (S.frame hf).fr⟩
  (try simp (maxSteps := 1000000) (disch := first | omega | assumption | exact Nat.le_of_ble_eq_true rfl) only [go_sem, ↓mwp_block, simprocAttr])
  refine call_intro (Few01_ok 30 (hb.fr S.fr (by simp)) (by omega)) ?_
  rintro _ _ ⟨b, rfl, rfl⟩
  cases b
  · (try simp (maxSteps := 1000000) (disch := first | omega | assumption | exact Nat.le_of_ble_eq_true rfl) only [go_sem, ↓mwp_block, simprocAttr])
    refine call_intro (awake01_ok _) ?_
    rintro _ h ⟨rfl, hf⟩
    (try simp (maxSteps := 1000000) (disch := first | omega | assumption | exact Nat.le_of_ble_eq_true rfl) only [go_sem, ↓mwp_block, simprocAttr])
    exact hK _ _ ⟨rfl, (S.frame hf).fr⟩
  by_cases hn0 : cap < 0
  · (try simp (maxSteps := 1000000) (disch := first | omega | assumption | exact Nat.le_of_ble_eq_true rfl) only [go_sem, ↓mwp_block, simprocAttr])
    refine call_intro (awake01_ok _) ?_
    rintro _ h ⟨rfl, hf⟩
    (try simp (maxSteps := 1000000) (disch := first | omega | assumption | exact Nat.le_of_ble_eq_true rfl) only [go_sem, ↓mwp_block, simprocAttr])
    exact hK _ _ ⟨rfl, (S.frame hf).fr⟩
  by_cases hn1 : 1048576 < cap
  · (try simp (maxSteps := 1000000) (disch := first | omega | assumption | exact Nat.le_of_ble_eq_true rfl) only [go_sem, ↓mwp_block, simprocAttr])
    refine call_intro (awake01_ok _) ?_
    rintro _ h ⟨rfl, hf⟩
    (try simp (maxSteps := 1000000) (disch := first | omega | assumption | exact Nat.le_of_ble_eq_true rfl) only [go_sem, ↓mwp_block, simprocAttr])
    exact hK _ _ ⟨rfl, (S.frame hf).fr⟩
  (try simp (maxSteps := 1000000) (disch := first | omega | assumption | exact Nat.le_of_ble_eq_true rfl) only [go_sem, ↓mwp_block, simprocAttr])
  refine call_intro (New_ok cap S) ?_
  rintro _ h (⟨_, _, d, rfl, S⟩ | ⟨hn, _⟩)
  case inr => exact absurd ⟨by omega, by omega⟩ hn
  (try simp (maxSteps := 1000000) (disch := first | omega | assumption | exact Nat.le_of_ble_eq_true rfl) only [go_sem, ↓mwp_block, simprocAttr])
  refine call_intro (RNew_ok cap S) ?_
  rintro _ h ⟨w, rfl, S⟩
  have S := S.p1
  (try simp (maxSteps := 1000000) (disch := first | omega | assumption | exact Nat.le_of_ble_eq_true rfl) only [go_sem, ↓mwp_block, simprocAttr])
  refine loop_intro (fun ρ h' => ρ 1 = .slice A xs.length c ∧ ρ 2 = .slice A2 ys.length c2 ∧ ρ 7 = .pointer (some ⟨d, 0, none⟩) ∧ ρ 9 = .pointer (some ⟨w, 0, none⟩) ∧ ρ 43 = .int .i64 xs.length ∧ ∃ (i : Nat) (D : Dk) (l : List HP), ρ 44 = .int .i64 i ∧ i ≤ xs.length ∧ D.ok ∧ St h0 h' (diskA d D :: refA w D :: l)) (fun ρ _ => xs.length - (iv (ρ 44)).toNat) ?_ ?_
  · (try simp (maxSteps := 1000000) (disch := first | omega | assumption | exact Nat.le_of_ble_eq_true rfl) only [go_sem, ↓mwp_block, simprocAttr])
    exact ⟨0, _, _, rfl, by omega, newD_ok (by omega) (by omega), S⟩
  · clear S
    rintro ρ h J hJ ⟨e1, e2, e7, e9, e43, i, D, l, e44, hi, ok, S⟩
    (try simp (maxSteps := 1000000) (disch := first | omega | assumption | exact Nat.le_of_ble_eq_true rfl) only [go_sem, ↓mwp_block, simprocAttr, e43, e44])
    refine cond_dec (fun hg => ?_) (fun hg => ?_)
    · have hi' : i < xs.length := by omega
      obtain ⟨b, off, rfl, hr⟩ := (ha.fr S.fr (by simp)).at hi'
      have hy := hok _ (List.getElem_mem hi')
      generalize xs[i] = y at hr hy
      obtain ⟨ok1, hyn, hya, hyc, hyl, hyk⟩ := hy
      have ok' := act_okn ok y.x ok1.2.2 y.bs
      obtain ⟨⟨hk0, hk1⟩, _, _⟩ := ok1
      simp only [DA.enc] at hr
      (try simp (maxSteps := 1000000) (disch := first | omega | assumption | exact Nat.le_of_ble_eq_true rfl) only [go_sem, ↓mwp_block, simprocAttr, e1, e44, hr, DAct.enc])
      (refine st_alloc S ?_; clear S; intro q h S; (try simp only [splice_cons, splice_nil, List.set_cons_zero, List.set_cons_succ, Nat.zero_add, Nat.reduceAdd, List.cons_append, List.nil_append] at S); ((try clear F); have F := S.all; (try simp only [all_cons, all_nil, says_cell, and_true] at F)))
      (try simp (maxSteps := 1000000) (disch := first | omega | assumption | exact Nat.le_of_ble_eq_true rfl) only [go_sem, ↓mwp_block, simprocAttr, F, e7])
      (refine st_store (by first | exact S | exact S.p1 | exact S.p2 | exact S.p3 | exact S.p4 | exact S.p5 | exact S.p6 | exact S.p7 | exact S.p8 | exact S.p9 | exact S.p10 | exact S.p11) (by rfl) (by rfl) (Nat.le_of_ble_eq_true rfl) ?_; clear S; intro h S; (try simp only [splice_cons, splice_nil, List.set_cons_zero, List.set_cons_succ, Nat.zero_add, Nat.reduceAdd, List.cons_append, List.nil_append] at S); ((try clear F); have F := S.all; (try simp only [all_cons, all_nil, says_cell, and_true] at F)))
      (try simp (maxSteps := 1000000) (disch := first | omega | assumption | exact Nat.le_of_ble_eq_true rfl) only [go_sem, ↓mwp_block, simprocAttr, F, e7])
      have hd := do_ok y.x (S := S.p1) ok hyn (fun h' s => hya.fr s.fr (by simp)) hyc hyl hyk
      simp only [DAct.enc] at hd
      refine call_intro hd ?_
      clear S F hd
      rintro _ h ⟨rfl, S⟩
      have S := S.p1
      ((try clear F); have F := S.all; (try simp only [all_cons, all_nil, says_cell, and_true] at F))
      by_cases hk : 5 < y.x.kind
      · have hact : actD D y.x y.bs = (restartD D y.x.ks, 0) := by
          simp only [actD, if_neg (show ¬ y.x.kind = 0 by omega), if_neg (show ¬ y.x.kind = 1 by omega), if_neg (show ¬ y.x.kind = 2 by omega), if_neg (show ¬ y.x.kind = 3 by omega), if_neg (show ¬ y.x.kind = 4 by omega), if_neg (show ¬ y.x.kind = 5 by omega)]
        rw [hact] at S ok' ⊢
        (try simp (maxSteps := 1000000) (disch := first | omega | assumption | exact Nat.le_of_ble_eq_true rfl) only [go_sem, ↓mwp_block, simprocAttr, F, e9])
        refine call_intro (RRestart_ok y.x.ks rfl hyk S.p2 ok) ?_
        clear S F
        rintro _ h S
        (try simp (maxSteps := 1000000) (disch := first | omega | assumption | exact Nat.le_of_ble_eq_true rfl) only [go_sem, ↓mwp_block, simprocAttr, e44])
        refine hJ _ _ ?_ ?_
        · (try simp (maxSteps := 1000000) (disch := first | omega | assumption | exact Nat.le_of_ble_eq_true rfl) only [go_sem, ↓mwp_block, simprocAttr, e1, e2, e7, e9, e43, e44])
          exact ⟨i + 1, _, _, rfl, by omega, ok', S.p2⟩
        · (try simp (maxSteps := 1000000) (disch := first | omega | assumption | exact Nat.le_of_ble_eq_true rfl) only [go_sem, ↓mwp_block, simprocAttr, e44])
          omega
      · (try simp (maxSteps := 1000000) (disch := first | omega | assumption | exact Nat.le_of_ble_eq_true rfl) only [go_sem, ↓mwp_block, simprocAttr, F, e9])
        refine call_intro (RAct_ok y.x ⟨by omega, by omega⟩ S.p2 ok hyn (fun h' s => hya.fr s.fr (by simp)) hyc hyl) ?_
        clear S F
        rintro _ h ⟨rfl, S⟩
        (try simp (maxSteps := 1000000) (disch := first | omega | assumption | exact Nat.le_of_ble_eq_true rfl) only [go_sem, ↓mwp_block, simprocAttr, e44])
        refine hJ _ _ ?_ ?_
        · (try simp (maxSteps := 1000000) (disch := first | omega | assumption | exact Nat.le_of_ble_eq_true rfl) only [go_sem, ↓mwp_block, simprocAttr, e1, e2, e7, e9, e43, e44])
          exact ⟨i + 1, _, _, rfl, by omega, ok', S.p2⟩
        · (try simp (maxSteps := 1000000) (disch := first | omega | assumption | exact Nat.le_of_ble_eq_true rfl) only [go_sem, ↓mwp_block, simprocAttr, e44])
          omega
    · clear hJ
      (try simp (maxSteps := 1000000) (disch := first | omega | assumption | exact Nat.le_of_ble_eq_true rfl) only [go_sem, ↓mwp_block, simprocAttr, e7])
      refine call_intro (CloneD_ok S ok) ?_
      clear S
      rintro _ h ⟨x, rfl, S⟩
      (try simp (maxSteps := 1000000) (disch := first | omega | assumption | exact Nat.le_of_ble_eq_true rfl) only [go_sem, ↓mwp_block, simprocAttr, e9])
      refine call_intro (same_ok S.p2.p1 ok) ?_
      clear S
      rintro _ h ⟨rfl, S⟩
      (try simp (maxSteps := 1000000) (disch := first | omega | assumption | exact Nat.le_of_ble_eq_true rfl) only [go_sem, ↓mwp_block, simprocAttr, e2])
      refine loop_intro (fun ρ h' => ρ 2 = .slice A2 ys.length c2 ∧ ρ 7 = .pointer (some ⟨d, 0, none⟩) ∧ ρ 9 = .pointer (some ⟨w, 0, none⟩) ∧ ρ 12 = .pointer (some ⟨x, 0, none⟩) ∧ ρ 80 = .int .i64 ys.length ∧ ∃ (i : Nat) (D2 : Dk), ρ 81 = .int .i64 i ∧ i ≤ ys.length ∧ D2.ok ∧ St h0 h' (diskA x D2 :: diskA d D :: refA w D :: l)) (fun ρ _ => ys.length - (iv (ρ 81)).toNat) ?_ ?_
      · (try simp (maxSteps := 1000000) (disch := first | omega | assumption | exact Nat.le_of_ble_eq_true rfl) only [go_sem, ↓mwp_block, simprocAttr, e2, e7, e9])
        exact ⟨0, D, rfl, by omega, ok, S.p2.p1⟩
      · clear S
        rintro ρ h J hJ ⟨e2, e7, e9, e12, e80, i, D2, e81, hi, ok2, S⟩
        (try simp (maxSteps := 1000000) (disch := first | omega | assumption | exact Nat.le_of_ble_eq_true rfl) only [go_sem, ↓mwp_block, simprocAttr, e80, e81])
        refine cond_dec (fun hg => ?_) (fun hg => ?_)
        · have hi' : i < ys.length := by omega
          obtain ⟨b, off, rfl, hr⟩ := (hb.fr S.fr (by simp)).at hi'
          have hy := hbok _ (List.getElem_mem hi')
          generalize ys[i] = y at hr hy
          obtain ⟨ok1, hyn, hya, hyc, hyl, hyk⟩ := hy
          have ok' := act_okn ok2 y.x ok1.2.2 y.bs
          simp only [DA.enc] at hr
          (try simp (maxSteps := 1000000) (disch := first | omega | assumption | exact Nat.le_of_ble_eq_true rfl) only [go_sem, ↓mwp_block, simprocAttr, e2, e12, e81, hr])
          refine call_intro (do_ok y.x S ok2 hyn (fun h' s => hya.fr s.fr (by simp)) hyc hyl hyk) ?_
          clear S
          rintro _ h ⟨rfl, S⟩
          (try simp (maxSteps := 1000000) (disch := first | omega | assumption | exact Nat.le_of_ble_eq_true rfl) only [go_sem, ↓mwp_block, simprocAttr, e81])
          refine hJ _ _ ?_ ?_
          · (try simp (maxSteps := 1000000) (disch := first | omega | assumption | exact Nat.le_of_ble_eq_true rfl) only [go_sem, ↓mwp_block, simprocAttr, e2, e7, e9, e12, e80, e81])
            exact ⟨i + 1, _, rfl, by omega, ok', S⟩
          · (try simp (maxSteps := 1000000) (disch := first | omega | assumption | exact Nat.le_of_ble_eq_true rfl) only [go_sem, ↓mwp_block, simprocAttr, e81])
            omega
        · (try simp (maxSteps := 1000000) (disch := first | omega | assumption | exact Nat.le_of_ble_eq_true rfl) only [go_sem, ↓mwp_block, simprocAttr, e7, e9])
          refine call_intro (same_ok S.tl ok) ?_
          rintro _ h ⟨rfl, S⟩
          (try simp (maxSteps := 1000000) (disch := first | omega | assumption | exact Nat.le_of_ble_eq_true rfl) only [go_sem, ↓mwp_block, simprocAttr])
          exact hK _ _ ⟨rfl, S.fr⟩
end Go.Proofs.Ytackopkhelochaa.MX
