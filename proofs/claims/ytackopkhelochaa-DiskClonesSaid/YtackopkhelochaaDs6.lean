/- The law DiskPlays. -/
import Derived.Test.YtackopkhelochaaDs5
namespace Go.Proofs.Ytackopkhelochaa.MX
open Go Go.Proofs
set_option linter.unusedSimpArgs false
set_option linter.unusedVariables false

theorem newD_ok {c : Int} (h0 : 0 ≤ c) (h1 : c ≤ 1048576) : (⟨c, List.replicate 8 none, -1, false⟩ : Dk).ok :=
  ⟨rfl, ⟨h0, h1⟩, by simpa [used, szF] using h0, ⟨by simp, by simp⟩, by simp⟩

set_option maxHeartbeats 2000000 in
theorem DiskPlays_ok (cap : Int) (A : Option Addr) (c : Nat) (xs : List DA) (h0 : Heap) (hcap : I64 cap) (ha : Arr DA.enc 12 h0 A xs) (hc : xs.length ≤ c) (hc2 : c ≤ maxLen) (hok : ∀ x ∈ xs, x.ok h0) :
    CallsH Try.prog 11 [.int .i64 cap, .slice A xs.length c] h0 fun v h' => v = .bool true ∧ Fr h0 h' [] := by
  have S := St.nil h0
  have hm : maxLen = 9223372036854775807 := rfl
  obtain ⟨hcap1, hcap2⟩ := hcap
  (refine enterK c_recouplaw01_DiskPlays (Nat.le_of_ble_eq_true rfl) fun K hK => ?_; (try simp (maxSteps := 1000000) (disch := first | omega | assumption | exact Nat.le_of_ble_eq_true rfl) only [go_sem, ↓mwp_block, simprocAttr, ir_recouplaw01_DiskPlays]))
  refine call_intro (awake01_ok _) ?_
  rintro _ h ⟨rfl, hf⟩
  have S := S.frame hf
  (try simp (maxSteps := 1000000) (disch := first | omega | assumption | exact Nat.le_of_ble_eq_true rfl) only [go_sem, ↓mwp_block, simprocAttr])
  refine call_intro (Few01_ok 60 (ha.fr S.fr (by simp)) (by omega)) ?_
  rintro _ _ ⟨b, rfl, rfl⟩
  cases b
  · (try simp (maxSteps := 1000000) (disch := first | omega | assumption | exact Nat.le_of_ble_eq_true rfl) only [go_sem, ↓mwp_block, simprocAttr])
    refine call_intro (awake01_ok _) ?_
    rintro _ h ⟨rfl, hf⟩
    (try simp (maxSteps := 1000000) (disch := first | omega | assumption | exact Nat.le_of_ble_eq_true rfl) only [go_sem, ↓mwp_block, simprocAttr])
    exact hK _ _ ⟨rfl, (S.frame hf).fr⟩
  (try simp (maxSteps := 1000000) (disch := first | omega | assumption | exact Nat.le_of_ble_eq_true rfl) only [go_sem, ↓mwp_block, simprocAttr])
  refine call_intro (New_ok cap S) ?_
  rintro _ h (⟨hn0, hn1, d, rfl, S⟩ | ⟨hn, rfl, S⟩)
  case inr =>
    by_cases hn0 : cap < 0
    · (try simp (maxSteps := 1000000) (disch := first | omega | assumption | exact Nat.le_of_ble_eq_true rfl) only [go_sem, ↓mwp_block, simprocAttr])
      exact hK _ _ ⟨rfl, S.fr⟩
    · (try simp (maxSteps := 1000000) (disch := first | omega | assumption | exact Nat.le_of_ble_eq_true rfl) only [go_sem, ↓mwp_block, simprocAttr])
      exact hK _ _ ⟨rfl, S.fr⟩
  (try simp (maxSteps := 1000000) (disch := first | omega | assumption | exact Nat.le_of_ble_eq_true rfl) only [go_sem, ↓mwp_block, simprocAttr])
  refine call_intro (RNew_ok cap S) ?_
  rintro _ h ⟨w, rfl, S⟩
  have S := S.p1
  (try simp (maxSteps := 1000000) (disch := first | omega | assumption | exact Nat.le_of_ble_eq_true rfl) only [go_sem, ↓mwp_block, simprocAttr])
  refine loop_intro (fun ρ h' => ρ 1 = .slice A xs.length c ∧ ρ 5 = .pointer (some ⟨d, 0, none⟩) ∧ ρ 7 = .pointer (some ⟨w, 0, none⟩) ∧ ρ 40 = .int .i64 xs.length ∧ ∃ (i : Nat) (D : Dk) (l : List HP), ρ 41 = .int .i64 i ∧ i ≤ xs.length ∧ D.ok ∧ St h0 h' (diskA d D :: refA w D :: l)) (fun ρ _ => xs.length - (iv (ρ 41)).toNat) ?_ ?_
  · (try simp (maxSteps := 1000000) (disch := first | omega | assumption | exact Nat.le_of_ble_eq_true rfl) only [go_sem, ↓mwp_block, simprocAttr])
    exact ⟨0, _, _, rfl, by omega, newD_ok hn0 hn1, S⟩
  · clear S
    rintro ρ h J hJ ⟨e1, e5, e7, e40, i, D, l, e41, hi, ok, S⟩
    (try simp (maxSteps := 1000000) (disch := first | omega | assumption | exact Nat.le_of_ble_eq_true rfl) only [go_sem, ↓mwp_block, simprocAttr, e40, e41])
    refine cond_dec (fun hg => ?_) (fun hg => ?_)
    · have hi' : i < xs.length := by omega
      obtain ⟨b, off, rfl, hr⟩ := (ha.fr S.fr (by simp)).at hi'
      have hy := hok _ (List.getElem_mem hi')
      generalize xs[i] = y at hr hy
      obtain ⟨ok1, hyn, hya, hyc, hyl, hyk⟩ := hy
      have ok' := act_okn ok y.x ok1.2.2 y.bs
      obtain ⟨⟨hk0, hk1⟩, _, _⟩ := ok1
      simp only [DA.enc] at hr
      (try simp (maxSteps := 1000000) (disch := first | omega | assumption | exact Nat.le_of_ble_eq_true rfl) only [go_sem, ↓mwp_block, simprocAttr, e1, e41, hr, DAct.enc])
      (refine st_alloc S ?_; clear S; intro q h S; (try simp only [splice_cons, splice_nil, List.set_cons_zero, List.set_cons_succ, Nat.zero_add, Nat.reduceAdd, List.cons_append, List.nil_append] at S); ((try clear F); have F := S.all; (try simp only [all_cons, all_nil, says_cell, and_true] at F)))
      (try simp (maxSteps := 1000000) (disch := first | omega | assumption | exact Nat.le_of_ble_eq_true rfl) only [go_sem, ↓mwp_block, simprocAttr, F, e5])
      (refine st_store (by first | exact S | exact S.p1 | exact S.p2 | exact S.p3 | exact S.p4 | exact S.p5 | exact S.p6 | exact S.p7 | exact S.p8 | exact S.p9 | exact S.p10 | exact S.p11) (by rfl) (by rfl) (Nat.le_of_ble_eq_true rfl) ?_; clear S; intro h S; (try simp only [splice_cons, splice_nil, List.set_cons_zero, List.set_cons_succ, Nat.zero_add, Nat.reduceAdd, List.cons_append, List.nil_append] at S); ((try clear F); have F := S.all; (try simp only [all_cons, all_nil, says_cell, and_true] at F)))
      (try simp (maxSteps := 1000000) (disch := first | omega | assumption | exact Nat.le_of_ble_eq_true rfl) only [go_sem, ↓mwp_block, simprocAttr, F, e5])
      have hd := do_ok y.x (S := S.p1) ok hyn (fun h' s => hya.fr s.fr (by simp)) hyc hyl hyk
      simp only [DAct.enc] at hd
      refine call_intro hd ?_
      clear S F hd
      rintro _ h ⟨rfl, S⟩
      have S := S.p1
      ((try clear F); have F := S.all; (try simp only [all_cons, all_nil, says_cell, and_true] at F))
      by_cases hk : 5 < y.x.kind
      · have hact : actD D y.x y.bs = (restartD D y.x.ks, 0) := by
          simp only [actD, if_neg (show ¬ y.x.kind = 0 by omega), if_neg (show ¬ y.x.kind = 1 by omega), if_neg (show ¬ y.x.kind = 2 by omega), if_neg (show ¬ y.x.kind = 3 by omega), if_neg (show ¬ y.x.kind = 4 by omega), if_neg (show ¬ y.x.kind = 5 by omega)]
        rw [hact] at S ok' ⊢
        (try simp (maxSteps := 1000000) (disch := first | omega | assumption | exact Nat.le_of_ble_eq_true rfl) only [go_sem, ↓mwp_block, simprocAttr, F, e7])
        refine call_intro (RRestart_ok y.x.ks rfl hyk S.p2 ok) ?_
        clear S F
        rintro _ h S
        (try simp (maxSteps := 1000000) (disch := first | omega | assumption | exact Nat.le_of_ble_eq_true rfl) only [go_sem, ↓mwp_block, simprocAttr, e5, e7])
        refine call_intro (same_ok S.p2 ok') ?_
        clear S
        rintro _ h ⟨rfl, S⟩
        (try simp (maxSteps := 1000000) (disch := first | omega | assumption | exact Nat.le_of_ble_eq_true rfl) only [go_sem, ↓mwp_block, simprocAttr, e41])
        refine hJ _ _ ?_ ?_
        · (try simp (maxSteps := 1000000) (disch := first | omega | assumption | exact Nat.le_of_ble_eq_true rfl) only [go_sem, ↓mwp_block, simprocAttr, e1, e5, e7, e40, e41])
          exact ⟨i + 1, _, _, rfl, by omega, ok', S⟩
        · (try simp (maxSteps := 1000000) (disch := first | omega | assumption | exact Nat.le_of_ble_eq_true rfl) only [go_sem, ↓mwp_block, simprocAttr, e41])
          omega
      · (try simp (maxSteps := 1000000) (disch := first | omega | assumption | exact Nat.le_of_ble_eq_true rfl) only [go_sem, ↓mwp_block, simprocAttr, F, e7])
        refine call_intro (RAct_ok y.x ⟨by omega, by omega⟩ S.p2 ok hyn (fun h' s => hya.fr s.fr (by simp)) hyc hyl) ?_
        clear S F
        rintro _ h ⟨rfl, S⟩
        (try simp (maxSteps := 1000000) (disch := first | omega | assumption | exact Nat.le_of_ble_eq_true rfl) only [go_sem, ↓mwp_block, simprocAttr, e5, e7])
        refine call_intro (same_ok S.p2 ok') ?_
        clear S
        rintro _ h ⟨rfl, S⟩
        (try simp (maxSteps := 1000000) (disch := first | omega | assumption | exact Nat.le_of_ble_eq_true rfl) only [go_sem, ↓mwp_block, simprocAttr, e41])
        refine hJ _ _ ?_ ?_
        · (try simp (maxSteps := 1000000) (disch := first | omega | assumption | exact Nat.le_of_ble_eq_true rfl) only [go_sem, ↓mwp_block, simprocAttr, e1, e5, e7, e40, e41])
          exact ⟨i + 1, _, _, rfl, by omega, ok', S⟩
        · (try simp (maxSteps := 1000000) (disch := first | omega | assumption | exact Nat.le_of_ble_eq_true rfl) only [go_sem, ↓mwp_block, simprocAttr, e41])
          omega
    · (try simp (maxSteps := 1000000) (disch := first | omega | assumption | exact Nat.le_of_ble_eq_true rfl) only [go_sem, ↓mwp_block, simprocAttr])
      exact hK _ _ ⟨rfl, S.fr⟩
end Go.Proofs.Ytackopkhelochaa.MX
