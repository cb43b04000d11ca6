/- Timers, part 8: TimerClones. -/
import Derived.Test.YtnjjdpeglkiifaaTi7
namespace Go.Proofs.Ytnjjdpeglkiifaa.MX
open Go Go.Proofs
set_option linter.unusedSimpArgs false
set_option linter.unusedVariables false
set_option maxHeartbeats 4000000
structure TA where
  kind : Int
  num : Int
  day : Int
def TA.enc (a : TA) : List Value := [.int .u8 a.kind, .int .i64 a.num, .int .i64 a.day]
theorem TA.enc_len (a : TA) : a.enc.length = 3 := rfl
theorem arr1 {α : Type} {enc : α → List Value} {sz : Nat} {h0 : Heap} {A : Option Addr} {xs : List α} (ha : Arr enc sz h0 A xs) {i : Nat} (hi : i < xs.length) :
    ∃ b off, A = some ⟨b, off, none⟩ ∧ ∀ h', (∃ l, St h0 h' l) → rdN h' b (off + i * sz) sz = some (enc xs[i]) := by
  obtain ⟨b, off, hA, hr⟩ := ha i hi
  refine ⟨b, off, hA, fun h' ⟨l, s⟩ => ?_⟩
  obtain ⟨b1, o1, hA1, hr1⟩ := (ha.fr s.fr (fun _ _ _ => by simp)) i hi
  rw [hA] at hA1
  cases hA1
  exact hr1
theorem TimerClones_ok (A : Option Addr) (c : Nat) (l : List Tm) (B : Option Addr) (d : Nat) (s : List TA) (h0 : Heap) (ha : Arr tmE 2 h0 A l) (hb : Arr TA.enc 3 h0 B s) :
    CallsH Try.prog 6 [.slice A l.length c, .slice B s.length d] h0 fun v h' => v = .bool true ∧ Fr h0 h' [] := by
  have S := St.nil h0
  by_cases h1 : l.length ≤ 60
  case neg =>
    (refine enterK c_recouplaw12_TimerClones (Nat.le_of_ble_eq_true rfl) fun K hK => ?_; (try simp (maxSteps := 1000000) (disch := first | omega | assumption | exact Nat.le_of_ble_eq_true rfl) only [go_sem, ↓mwp_block, simprocAttr, ir_recouplaw12_TimerClones]))
    refine call_intro (awake12_ok _) ?_
    rintro _ h ⟨rfl, f1⟩
    (try simp (maxSteps := 1000000) (disch := first | omega | assumption | exact Nat.le_of_ble_eq_true rfl) only [go_sem, ↓mwp_block, simprocAttr])
    refine call_intro (awake12_ok _) ?_
    rintro _ h' ⟨rfl, f2⟩
    (try simp (maxSteps := 1000000) (disch := first | omega | assumption | exact Nat.le_of_ble_eq_true rfl) only [go_sem, ↓mwp_block, simprocAttr])
    exact hK _ _ ⟨rfl, f1.trans f2⟩
  by_cases h2 : s.length ≤ 60
  case neg =>
    (refine enterK c_recouplaw12_TimerClones (Nat.le_of_ble_eq_true rfl) fun K hK => ?_; (try simp (maxSteps := 1000000) (disch := first | omega | assumption | exact Nat.le_of_ble_eq_true rfl) only [go_sem, ↓mwp_block, simprocAttr, ir_recouplaw12_TimerClones]))
    refine call_intro (awake12_ok _) ?_
    rintro _ h ⟨rfl, f1⟩
    (try simp (maxSteps := 1000000) (disch := first | omega | assumption | exact Nat.le_of_ble_eq_true rfl) only [go_sem, ↓mwp_block, simprocAttr])
    refine call_intro (awake12_ok _) ?_
    rintro _ h' ⟨rfl, f2⟩
    (try simp (maxSteps := 1000000) (disch := first | omega | assumption | exact Nat.le_of_ble_eq_true rfl) only [go_sem, ↓mwp_block, simprocAttr])
    exact hK _ _ ⟨rfl, f1.trans f2⟩
  (refine enterK c_recouplaw12_TimerClones (Nat.le_of_ble_eq_true rfl) fun K hK => ?_; (try simp (maxSteps := 1000000) (disch := first | omega | assumption | exact Nat.le_of_ble_eq_true rfl) only [go_sem, ↓mwp_block, simprocAttr, ir_recouplaw12_TimerClones]))
  refine call_intro (awake12_ok _) ?_
  rintro _ h ⟨rfl, f1⟩
  have S := S.frame f1
  (try simp (maxSteps := 1000000) (disch := first | omega | assumption | exact Nat.le_of_ble_eq_true rfl) only [go_sem, ↓mwp_block, simprocAttr])
  (refine st_alloc S ?_; clear S; intro t h S; (try simp only [splice_cons, splice_nil, List.set_cons_zero, List.set_cons_succ, Nat.zero_add, Nat.reduceAdd, List.cons_append, List.nil_append] at S); ((try clear F); have F := S.all; (try simp only [all_cons, all_nil, says_cell, and_true] at F)))
  have S := tim_new S
  clear F
  (try simp (maxSteps := 1000000) (disch := first | omega | assumption | exact Nat.le_of_ble_eq_true rfl) only [go_sem, ↓mwp_block, simprocAttr])
  refine loop_intro (fun ρ h' => ρ 0 = .slice A l.length c ∧ ρ 1 = .slice B s.length d ∧ ρ 5 = .pointer (some ⟨t, 0, none⟩) ∧ ρ 27 = .int .i64 l.length ∧ ∃ i : Nat, ρ 28 = .int .i64 i ∧ i ≤ l.length ∧ St h0 h' [timA t (setsT (l.take i))]) (fun ρ _ => l.length - (iv (ρ 28)).toNat) ?_ ?_
  · (try simp (maxSteps := 1000000) (disch := first | omega | assumption | exact Nat.le_of_ble_eq_true rfl) only [go_sem, ↓mwp_block, simprocAttr])
    exact ⟨0, rfl, by omega, S⟩
  · clear S
    rintro ρ h J hJ ⟨e0, e1, e5, e27, i, e28, hi, S⟩
    (try simp (maxSteps := 1000000) (disch := first | omega | assumption | exact Nat.le_of_ble_eq_true rfl) only [go_sem, ↓mwp_block, simprocAttr, e27, e28])
    refine cond_dec (fun hlt => ?_) (fun hlt => ?_)
    · have hil : i < l.length := by omega
      obtain ⟨b, off, rfl, hr⟩ := arr1 ha hil
      have rx : ∀ j K u, j < 2 → readT (fun h' => St h0 h' [timA t (setsT (l.take i))]) (fun h' => rd1 h' (.pointer (some ⟨b, off + i * 2 + j, none⟩))) K u = bindT ((tmE l[i])[j]?) K ⟨⟩ := fun j K u hj => reads_of S fun h' s => rd1_part (hr h' ⟨_, s⟩) j hj
      have rx0 := fun K u => rx 0 K u (by omega)
      have rx1 := fun K u => rx 1 K u (by omega)
      simp only [Nat.add_zero, tmE, List.getElem?_cons_zero, List.getElem?_cons_succ] at rx0 rx1
      (try simp (maxSteps := 1000000) (disch := first | omega | assumption | exact Nat.le_of_ble_eq_true rfl) only [go_sem, ↓mwp_block, simprocAttr])
      refine draw_st S ?_
      (try simp (maxSteps := 1000000) (disch := first | omega | assumption | exact Nat.le_of_ble_eq_true rfl) only [go_sem, ↓mwp_block, simprocAttr, e0, e5, e28, rx0, rx1])
      refine call_intro (SetT_ok _ _ S (by have := sets_len (l.take i); rw [List.length_take] at this; omega) (sets_good _)) ?_
      clear S
      intro _ h S
      (try simp (maxSteps := 1000000) (disch := first | omega | assumption | exact Nat.le_of_ble_eq_true rfl) only [go_sem, ↓mwp_block, simprocAttr, e28])
      refine hJ _ _ ?_ ?_
      · (try simp (maxSteps := 1000000) (disch := first | omega | assumption | exact Nat.le_of_ble_eq_true rfl) only [go_sem, ↓mwp_block, simprocAttr, e0, e1, e5, e27])
        refine ⟨i + 1, rfl, by omega, ?_⟩
        rw [List.take_succ_eq_append_getElem hil, sets_snoc]
        exact S
      · (try simp (maxSteps := 1000000) (disch := first | omega | assumption | exact Nat.le_of_ble_eq_true rfl) only [go_sem, ↓mwp_block, simprocAttr, e28])
        omega
    · obtain rfl : i = l.length := by omega
      rw [List.take_length] at S
      have hln := sets_len l
      have hgd := sets_good l
      generalize setsT l = L at S hln hgd
      (try simp (maxSteps := 1000000) (disch := first | omega | assumption | exact Nat.le_of_ble_eq_true rfl) only [go_sem, ↓mwp_block, simprocAttr, e5])
      refine call_intro (AllT_ok S (by omega)) ?_
      clear S
      intro v h S
      obtain ⟨A', c', rfl⟩ := S.sl
      (try simp (maxSteps := 1000000) (disch := first | omega | assumption | exact Nat.le_of_ble_eq_true rfl) only [go_sem, ↓mwp_block, simprocAttr, e5])
      refine call_intro (CloneT_ok S.p1 (by omega)) ?_
      clear S
      rintro _ h ⟨u, rfl, S⟩
      (try simp (maxSteps := 1000000) (disch := first | omega | assumption | exact Nat.le_of_ble_eq_true rfl) only [go_sem, ↓mwp_block, simprocAttr, e1])
      refine loop_intro (fun ρ h' => ρ 1 = .slice B s.length d ∧ ρ 5 = .pointer (some ⟨t, 0, none⟩) ∧ ρ 7 = .slice A' L.length c' ∧ ρ 8 = .pointer (some ⟨u, 0, none⟩) ∧ ρ 49 = .int .i64 s.length ∧ ∃ (i : Nat) (M : List Tm), ρ 50 = .int .i64 i ∧ i ≤ s.length ∧ GoodT M ∧ M.length ≤ 60 + i ∧ St h0 h' [timA u M, timA t L, ownA tmE 2 30 (.slice A' L.length c') L]) (fun ρ _ => s.length - (iv (ρ 50)).toNat) ?_ ?_
      · (try simp (maxSteps := 1000000) (disch := first | omega | assumption | exact Nat.le_of_ble_eq_true rfl) only [go_sem, ↓mwp_block, simprocAttr, e1, e5])
        exact ⟨0, L, rfl, by omega, hgd, by omega, S⟩
      · clear S e0 e1 e5 e27 e28
        rintro ρ h J hJ ⟨e1, e5, e7, e8, e49, i, M, e50, hi, hgM, hlM, S⟩
        (try simp (maxSteps := 1000000) (disch := first | omega | assumption | exact Nat.le_of_ble_eq_true rfl) only [go_sem, ↓mwp_block, simprocAttr, e49, e50])
        refine cond_dec (fun hlt => ?_) (fun hlt => ?_)
        · have his : i < s.length := by omega
          obtain ⟨b, off, rfl, hr⟩ := arr1 hb his
          have hr := hr h ⟨_, S⟩
          simp only [TA.enc] at hr
          have hj : ∀ {ρ' : Env} {h' : Heap} (M : List Tm) (q : Nat) (cs : List Value), ρ' 1 = ρ 1 → ρ' 5 = ρ 5 → ρ' 7 = ρ 7 → ρ' 8 = ρ 8 → ρ' 49 = ρ 49 → ρ' 50 = .int .i64 ((i : Int) + 1) → GoodT M → M.length ≤ 60 + (i + 1) → St h0 h' [timA u M, cellA q cs 38, timA t L, ownA tmE 2 30 (.slice A' L.length c') L] → J ρ' h' := by
            intro ρ' h' M q cs q1 q5 q7 q8 q49 q50 hg hl S
            refine hJ _ _ ⟨q1.trans e1, q5.trans e5, q7.trans e7, q8.trans e8, q49.trans e49, i + 1, M, by rw [q50]; rfl, by omega, hg, hl, S.d1⟩ ?_
            rw [q50, e50]
            simp only [iv]
            omega
          (try simp (maxSteps := 1000000) (disch := first | omega | assumption | exact Nat.le_of_ble_eq_true rfl) only [go_sem, ↓mwp_block, simprocAttr, e1, e50, hr])
          (refine st_alloc S ?_; clear S; intro q h S; (try simp only [splice_cons, splice_nil, List.set_cons_zero, List.set_cons_succ, Nat.zero_add, Nat.reduceAdd, List.cons_append, List.nil_append] at S); ((try clear F); have F := S.all; (try simp only [all_cons, all_nil, says_cell, and_true] at F)))
          (try simp (maxSteps := 1000000) (disch := first | omega | assumption | exact Nat.le_of_ble_eq_true rfl) only [go_sem, ↓mwp_block, simprocAttr, F, e8])
          (refine st_store (by first | exact S | exact S.p1 | exact S.p2 | exact S.p3 | exact S.p4 | exact S.p5 | exact S.p6 | exact S.p7 | exact S.p8 | exact S.p9 | exact S.p10 | exact S.p11) (by rfl) (by rfl) (Nat.le_of_ble_eq_true rfl) ?_; clear S; intro h S; (try simp only [splice_cons, splice_nil, List.set_cons_zero, List.set_cons_succ, Nat.zero_add, Nat.reduceAdd, List.cons_append, List.nil_append] at S); ((try clear F); have F := S.all; (try simp only [all_cons, all_nil, says_cell, and_true] at F)))
          (try simp (maxSteps := 1000000) (disch := first | omega | assumption | exact Nat.le_of_ble_eq_true rfl) only [go_sem, ↓mwp_block, simprocAttr, F, e8])
          by_cases hk : s[i].kind < 3
          · (try simp (maxSteps := 1000000) (disch := first | omega | assumption | exact Nat.le_of_ble_eq_true rfl) only [go_sem, ↓mwp_block, simprocAttr, F, e8, hk])
            refine call_intro (SetT_ok _ _ S.p1 (by omega) hgM) ?_
            clear S F
            intro _ h S
            (try simp (maxSteps := 1000000) (disch := first | omega | assumption | exact Nat.le_of_ble_eq_true rfl) only [go_sem, ↓mwp_block, simprocAttr, e50])
            exact hj _ q _ (by (try simp (maxSteps := 1000000) (disch := first | omega | assumption | exact Nat.le_of_ble_eq_true rfl) only [go_sem, ↓mwp_block, simprocAttr])) (by (try simp (maxSteps := 1000000) (disch := first | omega | assumption | exact Nat.le_of_ble_eq_true rfl) only [go_sem, ↓mwp_block, simprocAttr])) (by (try simp (maxSteps := 1000000) (disch := first | omega | assumption | exact Nat.le_of_ble_eq_true rfl) only [go_sem, ↓mwp_block, simprocAttr])) (by (try simp (maxSteps := 1000000) (disch := first | omega | assumption | exact Nat.le_of_ble_eq_true rfl) only [go_sem, ↓mwp_block, simprocAttr])) (by (try simp (maxSteps := 1000000) (disch := first | omega | assumption | exact Nat.le_of_ble_eq_true rfl) only [go_sem, ↓mwp_block, simprocAttr])) (by (try simp (maxSteps := 1000000) (disch := first | omega | assumption | exact Nat.le_of_ble_eq_true rfl) only [go_sem, ↓mwp_block, simprocAttr])) (good_set hgM _ _) (by have := set_len M s[i].num s[i].day; omega) S
          · by_cases hk3 : s[i].kind = 3
            · (try simp (maxSteps := 1000000) (disch := first | omega | assumption | exact Nat.le_of_ble_eq_true rfl) only [go_sem, ↓mwp_block, simprocAttr, F, e8, hk, hk3])
              refine call_intro (StopT_ok _ S.p1 (by omega) hgM) ?_
              clear S F
              rintro _ h ⟨rfl, S⟩
              (try simp (maxSteps := 1000000) (disch := first | omega | assumption | exact Nat.le_of_ble_eq_true rfl) only [go_sem, ↓mwp_block, simprocAttr, e50])
              exact hj _ q _ (by (try simp (maxSteps := 1000000) (disch := first | omega | assumption | exact Nat.le_of_ble_eq_true rfl) only [go_sem, ↓mwp_block, simprocAttr])) (by (try simp (maxSteps := 1000000) (disch := first | omega | assumption | exact Nat.le_of_ble_eq_true rfl) only [go_sem, ↓mwp_block, simprocAttr])) (by (try simp (maxSteps := 1000000) (disch := first | omega | assumption | exact Nat.le_of_ble_eq_true rfl) only [go_sem, ↓mwp_block, simprocAttr])) (by (try simp (maxSteps := 1000000) (disch := first | omega | assumption | exact Nat.le_of_ble_eq_true rfl) only [go_sem, ↓mwp_block, simprocAttr])) (by (try simp (maxSteps := 1000000) (disch := first | omega | assumption | exact Nat.le_of_ble_eq_true rfl) only [go_sem, ↓mwp_block, simprocAttr])) (by (try simp (maxSteps := 1000000) (disch := first | omega | assumption | exact Nat.le_of_ble_eq_true rfl) only [go_sem, ↓mwp_block, simprocAttr])) (good_without hgM _) (by have := without_len M s[i].num; omega) S
            · (try simp (maxSteps := 1000000) (disch := first | omega | assumption | exact Nat.le_of_ble_eq_true rfl) only [go_sem, ↓mwp_block, simprocAttr, F, e8, hk, hk3])
              refine call_intro (DueT_ok _ S.p1 (by omega)) ?_
              clear S F
              intro v h S
              (try simp (maxSteps := 1000000) (disch := first | omega | assumption | exact Nat.le_of_ble_eq_true rfl) only [go_sem, ↓mwp_block, simprocAttr, e50])
              exact hj _ q _ (by (try simp (maxSteps := 1000000) (disch := first | omega | assumption | exact Nat.le_of_ble_eq_true rfl) only [go_sem, ↓mwp_block, simprocAttr])) (by (try simp (maxSteps := 1000000) (disch := first | omega | assumption | exact Nat.le_of_ble_eq_true rfl) only [go_sem, ↓mwp_block, simprocAttr])) (by (try simp (maxSteps := 1000000) (disch := first | omega | assumption | exact Nat.le_of_ble_eq_true rfl) only [go_sem, ↓mwp_block, simprocAttr])) (by (try simp (maxSteps := 1000000) (disch := first | omega | assumption | exact Nat.le_of_ble_eq_true rfl) only [go_sem, ↓mwp_block, simprocAttr])) (by (try simp (maxSteps := 1000000) (disch := first | omega | assumption | exact Nat.le_of_ble_eq_true rfl) only [go_sem, ↓mwp_block, simprocAttr])) (by (try simp (maxSteps := 1000000) (disch := first | omega | assumption | exact Nat.le_of_ble_eq_true rfl) only [go_sem, ↓mwp_block, simprocAttr])) (good_late hgM _) (by have := late_len M s[i].day; omega) S.tl
        · (try simp (maxSteps := 1000000) (disch := first | omega | assumption | exact Nat.le_of_ble_eq_true rfl) only [go_sem, ↓mwp_block, simprocAttr, e5, e7])
          refine call_intro (Same12_ok S.tl (fun h' s => s.arr tmE_len) (by omega) hgd) ?_
          rintro _ h' ⟨rfl, S⟩
          (try simp (maxSteps := 1000000) (disch := first | omega | assumption | exact Nat.le_of_ble_eq_true rfl) only [go_sem, ↓mwp_block, simprocAttr])
          exact hK _ _ ⟨rfl, S.fr⟩
end Go.Proofs.Ytnjjdpeglkiifaa.MX
