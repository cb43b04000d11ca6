/- Timers: TimerOnce. -/
import Derived.Test.YtnjjdpeglkiifaaTk1
namespace Go.Proofs.Ytnjjdpeglkiifaa.MX
open Go Go.Proofs
set_option linter.unusedSimpArgs false
set_option linter.unusedVariables false
set_option maxHeartbeats 8000000
structure D8 where
  n : Int
def D8.enc (x : D8) : List Value := [.int .u8 x.n]
def D8.ok (x : D8) : Prop := 0 ≤ x.n ∧ x.n < 256
theorem d8_of {h : Heap} {d : Nat} {cs : List Value} (hg : Good Try.prog h d 5 cs) : ∃ x : D8, cs = x.enc ∧ x.ok := by
  have hl : leaves Try.prog 2 5 = some [.int .u8] := by kernel_rfl
  obtain ⟨a, _, rfl, w0, rfl⟩ := leaves_of 2 hg hl
  exact ⟨⟨a⟩, rfl, wf_u8 w0⟩
theorem TimerOnce_ok (A : Option Addr) (c : Nat) (l : List Tm) (B : Option Addr) (d : Nat) (s : List D8) (h0 : Heap) (ha : Arr Tm.enc 2 h0 A l) (_ : l.length ≤ c) (_ : c ≤ maxLen) (_ : ∀ x ∈ l, x.ok) (hb : Arr D8.enc 1 h0 B s) (_ : s.length ≤ d) (_ : d ≤ maxLen) (hok : ∀ x ∈ s, x.ok) :
    CallsH Try.prog 3 [.slice A l.length c, .slice B s.length d] h0 fun v h' => v = .bool true ∧ Fr h0 h' [] := by
  have S := St.nil h0
  by_cases h1 : l.length ≤ 60
  case neg =>
    (refine enterK c_recouplaw12_TimerOnce (Nat.le_of_ble_eq_true rfl) fun K hK => ?_; (try simp (maxSteps := 1000000) (disch := first | omega | assumption | exact Nat.le_of_ble_eq_true rfl) only [go_sem, ↓mwp_block, simprocAttr, ir_recouplaw12_TimerOnce]))
    refine call_intro (awake12_ok _) ?_
    rintro _ h ⟨rfl, f1⟩
    (try simp (maxSteps := 1000000) (disch := first | omega | assumption | exact Nat.le_of_ble_eq_true rfl) only [go_sem, ↓mwp_block, simprocAttr])
    refine call_intro (awake12_ok _) ?_
    rintro _ h' ⟨rfl, f2⟩
    (try simp (maxSteps := 1000000) (disch := first | omega | assumption | exact Nat.le_of_ble_eq_true rfl) only [go_sem, ↓mwp_block, simprocAttr])
    exact hK _ _ ⟨rfl, f1.trans f2⟩
  by_cases h2 : s.length ≤ 60
  case neg =>
    (refine enterK c_recouplaw12_TimerOnce (Nat.le_of_ble_eq_true rfl) fun K hK => ?_; (try simp (maxSteps := 1000000) (disch := first | omega | assumption | exact Nat.le_of_ble_eq_true rfl) only [go_sem, ↓mwp_block, simprocAttr, ir_recouplaw12_TimerOnce]))
    refine call_intro (awake12_ok _) ?_
    rintro _ h ⟨rfl, f1⟩
    (try simp (maxSteps := 1000000) (disch := first | omega | assumption | exact Nat.le_of_ble_eq_true rfl) only [go_sem, ↓mwp_block, simprocAttr])
    refine call_intro (awake12_ok _) ?_
    rintro _ h' ⟨rfl, f2⟩
    (try simp (maxSteps := 1000000) (disch := first | omega | assumption | exact Nat.le_of_ble_eq_true rfl) only [go_sem, ↓mwp_block, simprocAttr])
    exact hK _ _ ⟨rfl, f1.trans f2⟩
  (refine enterK c_recouplaw12_TimerOnce (Nat.le_of_ble_eq_true rfl) fun K hK => ?_; (try simp (maxSteps := 1000000) (disch := first | omega | assumption | exact Nat.le_of_ble_eq_true rfl) only [go_sem, ↓mwp_block, simprocAttr, ir_recouplaw12_TimerOnce]))
  refine call_intro (awake12_ok _) ?_
  rintro _ h ⟨rfl, f1⟩
  have S := S.frame f1
  (try simp (maxSteps := 1000000) (disch := first | omega | assumption | exact Nat.le_of_ble_eq_true rfl) only [go_sem, ↓mwp_block, simprocAttr])
  (refine st_alloc S ?_; clear S; intro t h S; (try simp only [splice_cons, splice_nil, List.set_cons_zero, List.set_cons_succ, Nat.zero_add, Nat.reduceAdd, List.cons_append, List.nil_append] at S); ((try clear F); have F := S.all; (try simp only [all_cons, all_nil, says_cell, and_true] at F)))
  have S := tim_new S
  clear F
  (try simp (maxSteps := 1000000) (disch := first | omega | assumption | exact Nat.le_of_ble_eq_true rfl) only [go_sem, ↓mwp_block, simprocAttr])
  refine loop_intro (fun ρ h' => ρ 0 = .slice A l.length c ∧ ρ 1 = .slice B s.length d ∧ ρ 5 = .pointer (some ⟨t, 0, none⟩) ∧ ρ 36 = .int .i64 l.length ∧ ∃ i : Nat, ρ 37 = .int .i64 i ∧ i ≤ l.length ∧ St h0 h' [timA t (setsT (l.take i))]) (fun ρ _ => l.length - (iv (ρ 37)).toNat) ?_ ?_
  · (try simp (maxSteps := 1000000) (disch := first | omega | assumption | exact Nat.le_of_ble_eq_true rfl) only [go_sem, ↓mwp_block, simprocAttr])
    exact ⟨0, rfl, by omega, S⟩
  clear S
  rintro ρ h J hJ ⟨e0, e1, e5, e36, i, e37, hi, S⟩
  (try simp (maxSteps := 1000000) (disch := first | omega | assumption | exact Nat.le_of_ble_eq_true rfl) only [go_sem, ↓mwp_block, simprocAttr, e36, e37])
  refine cond_dec (fun hlt => ?_) (fun hlt => ?_)
  · have hil : i < l.length := by omega
    obtain ⟨b, off, rfl, hr⟩ := arr1 ha hil
    have rx : ∀ j K u, j < 2 → readT (fun h' => St h0 h' [timA t (setsT (l.take i))]) (fun h' => rd1 h' (.pointer (some ⟨b, off + i * 2 + j, none⟩))) K u = bindT ((tmE l[i])[j]?) K ⟨⟩ := fun j K u hj => reads_of S fun h' s => rd1_part (hr h' ⟨_, s⟩) j hj
    have rx0 := fun K u => rx 0 K u (by omega)
    have rx1 := fun K u => rx 1 K u (by omega)
    simp only [Nat.add_zero, tmE, List.getElem?_cons_zero, List.getElem?_cons_succ] at rx0 rx1
    (try simp (maxSteps := 1000000) (disch := first | omega | assumption | exact Nat.le_of_ble_eq_true rfl) only [go_sem, ↓mwp_block, simprocAttr])
    refine draw_st S ?_
    (try simp (maxSteps := 1000000) (disch := first | omega | assumption | exact Nat.le_of_ble_eq_true rfl) only [go_sem, ↓mwp_block, simprocAttr, e0, e5, e37, rx0, rx1])
    refine call_intro (SetT_ok _ _ S (by have := sets_len (l.take i); rw [List.length_take] at this; omega) (sets_good _)) ?_
    clear S
    intro _ h S
    (try simp (maxSteps := 1000000) (disch := first | omega | assumption | exact Nat.le_of_ble_eq_true rfl) only [go_sem, ↓mwp_block, simprocAttr, e37])
    refine hJ _ _ ?_ ?_
    · (try simp (maxSteps := 1000000) (disch := first | omega | assumption | exact Nat.le_of_ble_eq_true rfl) only [go_sem, ↓mwp_block, simprocAttr, e0, e1, e5, e36])
      refine ⟨i + 1, rfl, by omega, ?_⟩
      rw [List.take_succ_eq_append_getElem hil, sets_snoc]
      exact S
    · (try simp (maxSteps := 1000000) (disch := first | omega | assumption | exact Nat.le_of_ble_eq_true rfl) only [go_sem, ↓mwp_block, simprocAttr, e37])
      omega
  obtain rfl : i = l.length := by omega
  rw [List.take_length] at S
  have hln := sets_len l
  have hgd := sets_good l
  have S := S.nilS (enc := iEnc) (sz := 1) (T := 3)
  (try simp (maxSteps := 1000000) (disch := first | omega | assumption | exact Nat.le_of_ble_eq_true rfl) only [go_sem, ↓mwp_block, simprocAttr, e1])
  clear hJ
  refine loop_intro (fun ρ' h' => ρ' 0 = .slice A l.length c ∧ ρ' 1 = .slice B s.length d ∧ ρ' 5 = .pointer (some ⟨t, 0, none⟩) ∧ ρ' 54 = .int .i64 s.length ∧ ∃ (i : Nat) (now : Int) (P M : List Tm) (Av : Option Addr) (cv : Nat), ρ' 55 = .int .i64 i ∧ i ≤ s.length ∧ ρ' 7 = .int .i64 now ∧ 0 ≤ now ∧ now ≤ 256 * i ∧ setsT l = P ++ M ∧ (0 < i → P = dueT (setsT l) now ∧ M = lateT (setsT l) now) ∧ (i = 0 → P = []) ∧ ρ' 8 = .slice Av (P.map Tm.num).length cv ∧ St h0 h' [ownA iEnc 1 3 (.slice Av (P.map Tm.num).length cv) (P.map Tm.num), timA t M]) (fun ρ' _ => s.length - (iv (ρ' 55)).toNat) ?_ ?_
  · (try simp (maxSteps := 1000000) (disch := first | omega | assumption | exact Nat.le_of_ble_eq_true rfl) only [go_sem, ↓mwp_block, simprocAttr, e0, e1, e5])
    exact ⟨0, 0, [], setsT l, none, 0, rfl, by omega, rfl, by omega, by omega, rfl, fun h => by omega, fun _ => rfl, rfl, S⟩
  clear S e0 e1 e5 e36 e37
  rintro ρ h J hJ ⟨e0, e1, e5, e54, i, now, P, M, Av, cv, e55, hi, e7, hnow, hnow2, hPM, hP1, hP0, e8, S⟩
  (try simp (maxSteps := 1000000) (disch := first | omega | assumption | exact Nat.le_of_ble_eq_true rfl) only [go_sem, ↓mwp_block, simprocAttr, e54, e55])
  have hMl : M.length ≤ 60 := by
    have := congrArg List.length hPM
    rw [List.length_append] at this
    omega
  refine cond_dec (fun hlt => ?_) (fun hlt => ?_)
  · have his : i < s.length := by omega
    obtain ⟨b, off, rfl, hr⟩ := arr1 hb his
    have hr := rd1_part (hr h ⟨_, S⟩) 0 (by omega)
    simp only [D8.enc, List.getElem?_cons_zero, Nat.add_zero] at hr
    have hdv := hok s[i] (List.getElem_mem his)
    have hconv : IntKind.i64.wrap s[i].n = s[i].n := wrap_i64 (by have := hdv.1; omega) (by have := hdv.2; omega)
    have hadd : IntKind.i64.wrap (now + s[i].n) = now + s[i].n := wrap_i64 (by have := hdv.1; omega) (by have := hdv.2; omega)
    (try simp (maxSteps := 1000000) (disch := first | omega | assumption | exact Nat.le_of_ble_eq_true rfl) only [go_sem, ↓mwp_block, simprocAttr, e1, e55, e7, e5, hr, hconv, hadd])
    refine call_intro (DueT_ok _ S.p1 (by omega)) ?_
    clear S hr
    intro v h S
    obtain ⟨Ad, cd, rfl⟩ := S.sl
    generalize hnw : now + s[i].n = now2 at S
    have hn2 : 0 ≤ now2 ∧ now2 ≤ 256 * ((i : Int) + 1) := by have := hdv.1; have := hdv.2; omega
    have hPD : dueT (setsT l) now2 = P ++ dueT M now2 ∧ lateT M now2 = lateT (setsT l) now2 := by
      by_cases hi0 : i = 0
      · have hP := hP0 hi0
        subst hP
        rw [List.nil_append] at hPM
        rw [hPM]
        exact ⟨rfl, rfl⟩
      · obtain ⟨q1, q2⟩ := hP1 (by omega)
        have := due_more (L := setsT l) (a := now) (b := now2) (by have := hdv.1; omega)
        rw [← q1, ← q2] at this
        exact ⟨this.1, this.2.symm⟩
    have hnum : ((P ++ dueT M now2)).Pairwise (fun a b => a.num ≠ b.num) := by
      rw [← hPD.1]
      exact hgd.2.sublist (List.takeWhile_sublist _)
    have hPM2 : setsT l = (P ++ dueT M now2) ++ lateT M now2 := by rw [hPD.2, ← hPD.1, due_app]
    have hPl : (P ++ dueT M now2).length ≤ 60 := by
      have := congrArg List.length hPM2
      rw [List.length_append] at this
      omega
    generalize hD : dueT M now2 = D at S hPD hnum hPM2 hPl
    generalize hM2 : lateT M now2 = M2 at S hPD hPM2
    (try simp (maxSteps := 1000000) (disch := first | omega | assumption | exact Nat.le_of_ble_eq_true rfl) only [go_sem, ↓mwp_block, simprocAttr, hnw])
    refine loop_intro (fun ρ' h' => ρ' 0 = .slice A l.length c ∧ ρ' 1 = .slice (some ⟨b, off, none⟩) s.length d ∧ ρ' 5 = .pointer (some ⟨t, 0, none⟩) ∧ ρ' 54 = .int .i64 s.length ∧ ρ' 55 = .int .i64 i ∧ ρ' 7 = .int .i64 now2 ∧ ρ' 10 = .slice Ad (D.map Tm.num).length cd ∧ ρ' 69 = .int .i64 (D.map Tm.num).length ∧ ∃ (k : Nat) (Av : Option Addr) (cv : Nat), ρ' 70 = .int .i64 k ∧ k ≤ (D.map Tm.num).length ∧ ρ' 8 = .slice Av ((P ++ D.take k).map Tm.num).length cv ∧ St h0 h' [ownA iEnc 1 3 (.slice Av ((P ++ D.take k).map Tm.num).length cv) ((P ++ D.take k).map Tm.num), ownA iEnc 1 3 (.slice Ad (D.map Tm.num).length cd) (D.map Tm.num), timA t M2]) (fun ρ' _ => (D.map Tm.num).length - (iv (ρ' 70)).toNat) ?_ ?_
    · (try simp (maxSteps := 1000000) (disch := first | omega | assumption | exact Nat.le_of_ble_eq_true rfl) only [go_sem, ↓mwp_block, simprocAttr, e0, e1, e5, e8, e54, e55])
      refine ⟨0, Av, cv, rfl, by omega, ?_, ?_⟩
      · simp
      · simpa using S.p2
    · clear S
      rintro ρ' h J' hJ' ⟨q0, q1, q5, q54, q55, q7, q10, q69, k, Au, cu, q70, hk, q8, S⟩
      (try simp (maxSteps := 1000000) (disch := first | omega | assumption | exact Nat.le_of_ble_eq_true rfl) only [go_sem, ↓mwp_block, simprocAttr, q69, q70])
      refine cond_dec (fun hkl => ?_) (fun hkl => ?_)
      · have hkD : k < (D.map Tm.num).length := by omega
        have hkD' : k < D.length := by simpa using hkD
        have hk60 : k < 60 := by rw [List.length_append] at hPl; omega
        obtain ⟨b2, o2, rfl, hr2⟩ := S.p1.arr iEnc_len k hkD
        have hr2 := rd1_part hr2 0 (by omega)
        simp only [iEnc, List.getElem?_cons_zero, Nat.add_zero] at hr2
        have hul : ((P ++ D.take k).map Tm.num).length ≤ 60 := by simp only [List.length_map, List.length_append, List.length_take] at hPl ⊢; omega
        (try simp (maxSteps := 1000000) (disch := first | omega | assumption | exact Nat.le_of_ble_eq_true rfl) only [go_sem, ↓mwp_block, simprocAttr, q8])
        refine loop_intro (fun ρ'' h'' => h'' = h ∧ ρ'' 0 = ρ' 0 ∧ ρ'' 1 = ρ' 1 ∧ ρ'' 5 = ρ' 5 ∧ ρ'' 54 = ρ' 54 ∧ ρ'' 55 = ρ' 55 ∧ ρ'' 7 = ρ' 7 ∧ ρ'' 10 = ρ' 10 ∧ ρ'' 69 = ρ' 69 ∧ ρ'' 70 = ρ' 70 ∧ ρ'' 8 = ρ' 8 ∧ ρ'' 11 = .int .i64 k ∧ ρ'' 74 = .int .i64 ((P ++ D.take k).map Tm.num).length ∧ ∃ j : Nat, ρ'' 75 = .int .i64 j ∧ j ≤ ((P ++ D.take k).map Tm.num).length) (fun ρ'' _ => ((P ++ D.take k).map Tm.num).length - (iv (ρ'' 75)).toNat) ?_ ?_
        · (try simp (maxSteps := 1000000) (disch := first | omega | assumption | exact Nat.le_of_ble_eq_true rfl) only [go_sem, ↓mwp_block, simprocAttr, q70])
          exact ⟨0, rfl, by omega⟩
        · rintro ρ2 h2 J2 hJ2 ⟨e2, w0, w1, w5, w54, w55, w7, w10, w69, w70, w8, w11, w74, j, w75, hj⟩
          subst e2
          (try simp (maxSteps := 1000000) (disch := first | omega | assumption | exact Nat.le_of_ble_eq_true rfl) only [go_sem, ↓mwp_block, simprocAttr, w74, w75])
          refine cond_dec (fun hjl => ?_) (fun hjl => ?_)
          · have hjl' : j < ((P ++ D.take k).map Tm.num).length := by omega
            obtain ⟨b3, o3, rfl, hr3⟩ := S.arr iEnc_len j hjl'
            have hr3 := rd1_part hr3 0 (by omega)
            simp only [iEnc, List.getElem?_cons_zero, Nat.add_zero] at hr3
            have hne : ((P ++ D.take k).map Tm.num)[j] ≠ (D.map Tm.num)[k] := by
              rw [List.getElem_map, List.getElem_map]
              have hjl2 : j < P.length + k := by simp [List.length_take] at hjl'; omega
              have hq := List.pairwise_iff_getElem.1 hnum j (P.length + k) (by rw [List.length_append]; omega) (by rw [List.length_append]; omega) hjl2
              have e1 : (P ++ D)[P.length + k]'(by rw [List.length_append]; omega) = D[k] := by rw [List.getElem_append_right (by omega)]; simp
              have e2 : (P ++ D.take k)[j]'(by simpa using hjl') = (P ++ D)[j]'(by rw [List.length_append]; omega) := by
                have : P ++ D.take k = (P ++ D).take (P.length + k) := by rw [List.take_append, List.take_of_length_le (i := P.length + k) (l := P) (by omega), Nat.add_sub_cancel_left]
                simp only [this, List.getElem_take]
              rw [e1] at hq
              rw [e2]
              exact hq
            (try simp (maxSteps := 1000000) (disch := first | omega | assumption | exact Nat.le_of_ble_eq_true rfl) only [go_sem, ↓mwp_block, simprocAttr])
            refine draw_eq ?_
            (try simp (maxSteps := 1000000) (disch := first | omega | assumption | exact Nat.le_of_ble_eq_true rfl) only [go_sem, ↓mwp_block, simprocAttr, w8, q8, w75, w10, q10, w11, hr3, hr2, hne])
            refine hJ2 _ _ ?_ ?_
            · (try simp (maxSteps := 1000000) (disch := first | omega | assumption | exact Nat.le_of_ble_eq_true rfl) only [go_sem, ↓mwp_block, simprocAttr, w0, w1, w5, w54, w55, w7, w10, w69, w70, w8, w11, w74])
              exact ⟨j + 1, rfl, by omega⟩
            · (try simp (maxSteps := 1000000) (disch := first | omega | assumption | exact Nat.le_of_ble_eq_true rfl) only [go_sem, ↓mwp_block, simprocAttr, w75])
              omega
          · (try simp (maxSteps := 1000000) (disch := first | omega | assumption | exact Nat.le_of_ble_eq_true rfl) only [go_sem, ↓mwp_block, simprocAttr, w8, q8, w10, q10, w11, hr2])
            (refine st_alloc S ?_; clear S; intro g h S; (try simp only [splice_cons, splice_nil, List.set_cons_zero, List.set_cons_succ, Nat.zero_add, Nat.reduceAdd, List.cons_append, List.nil_append] at S); ((try clear F); have F := S.all; (try simp only [all_cons, all_nil, says_cell, and_true] at F)))
            (try simp (maxSteps := 1000000) (disch := first | omega | assumption | exact Nat.le_of_ble_eq_true rfl) only [go_sem, ↓mwp_block, simprocAttr])
            refine st_append1 (bytes := 8) (x := (D.map Tm.num)[k]) iEnc_len (by omega) iEnc_plain rfl rfl S (by simp only [List.length_map, List.length_append, List.length_take] at hPl ⊢; omega) (by simp only [List.length_map, List.length_append, List.length_take] at hPl ⊢; omega) ?_
            clear S F hr2
            intro v h S
            obtain ⟨Az, cz, rfl⟩ := S.sl
            have e : (P ++ D.take k).map Tm.num ++ [(D.map Tm.num)[k]] = (P ++ D.take (k + 1)).map Tm.num := by
              rw [List.take_succ_eq_append_getElem hkD', ← List.append_assoc, List.map_append (l₁ := P ++ D.take k)]
              simp
            rw [e] at S ⊢
            (try simp (maxSteps := 1000000) (disch := first | omega | assumption | exact Nat.le_of_ble_eq_true rfl) only [go_sem, ↓mwp_block, simprocAttr, w70, q70])
            refine hJ' _ _ ?_ ?_
            · (try simp (maxSteps := 1000000) (disch := first | omega | assumption | exact Nat.le_of_ble_eq_true rfl) only [go_sem, ↓mwp_block, simprocAttr, w0, w1, w5, w54, w55, w7, w10, w69, q0, q1, q5, q54, q55, q7, q10, q69])
              exact ⟨k + 1, Az, cz, rfl, by omega, rfl, S⟩
            · (try simp (maxSteps := 1000000) (disch := first | omega | assumption | exact Nat.le_of_ble_eq_true rfl) only [go_sem, ↓mwp_block, simprocAttr, q70])
              omega
      · have hkD : k = D.length := by simp at hk hkl; omega
        subst hkD
        rw [List.take_length] at q8 S
        (try simp (maxSteps := 1000000) (disch := first | omega | assumption | exact Nat.le_of_ble_eq_true rfl) only [go_sem, ↓mwp_block, simprocAttr, q55])
        refine hJ _ _ ?_ ?_
        · (try simp (maxSteps := 1000000) (disch := first | omega | assumption | exact Nat.le_of_ble_eq_true rfl) only [go_sem, ↓mwp_block, simprocAttr, q0, q1, q5, q54, q7, q8])
          refine ⟨i + 1, now2, P ++ D, M2, Au, cu, rfl, by omega, rfl, hn2.1, by omega, hPM2, fun _ => ⟨hPD.1.symm, hPD.2⟩, fun h => by omega, rfl, S.d1⟩
        · (try simp (maxSteps := 1000000) (disch := first | omega | assumption | exact Nat.le_of_ble_eq_true rfl) only [go_sem, ↓mwp_block, simprocAttr, e55])
          omega
  obtain rfl : i = s.length := by omega
  have hPl : (P.map Tm.num).length ≤ 60 := by
    have := congrArg List.length hPM
    rw [List.length_append] at this
    rw [List.length_map]
    omega
  (try simp (maxSteps := 1000000) (disch := first | omega | assumption | exact Nat.le_of_ble_eq_true rfl) only [go_sem, ↓mwp_block, simprocAttr, e0])
  clear hJ
  have law := fun (x : Tm) (hx : x ∈ l) => once_law (any := decide (0 < s.length)) hPM (now := now) (fun h => (hP1 (by simpa using h)).1) (fun h => hP0 (by simpa using h)) hx
  refine loop_intro (fun ρ' h' => ρ' 0 = .slice A l.length c ∧ ρ' 1 = .slice B s.length d ∧ ρ' 5 = .pointer (some ⟨t, 0, none⟩) ∧ ρ' 7 = .int .i64 now ∧ ρ' 8 = .slice Av (P.map Tm.num).length cv ∧ ρ' 98 = .int .i64 l.length ∧ (∃ i : Nat, ρ' 99 = .int .i64 i ∧ i ≤ l.length) ∧ St h0 h' [ownA iEnc 1 3 (.slice Av (P.map Tm.num).length cv) (P.map Tm.num), timA t M]) (fun ρ' _ => l.length - (iv (ρ' 99)).toNat) ?_ ?_
  · (try simp (maxSteps := 1000000) (disch := first | omega | assumption | exact Nat.le_of_ble_eq_true rfl) only [go_sem, ↓mwp_block, simprocAttr, e0, e1, e5, e7, e8])
    exact ⟨⟨0, rfl, by omega⟩, S⟩
  clear S e0 e1 e5 e7 e8 e54 e55
  rintro ρ h J hJ ⟨e0, e1, e5, e7, e8, e98, ⟨i, e99, hi⟩, S⟩
  (try simp (maxSteps := 1000000) (disch := first | omega | assumption | exact Nat.le_of_ble_eq_true rfl) only [go_sem, ↓mwp_block, simprocAttr, e98, e99])
  refine cond_dec (fun hlt => ?_) (fun hlt => ?_)
  case refine_2 =>
    (try simp (maxSteps := 1000000) (disch := first | omega | assumption | exact Nat.le_of_ble_eq_true rfl) only [go_sem, ↓mwp_block, simprocAttr])
    exact hK _ _ ⟨rfl, S.fr⟩
  have hil : i < l.length := by omega
  obtain ⟨b, off, rfl, hra⟩ := arr1 ha hil
  have hri := hra h ⟨_, S⟩
  have ri0 := rd1_part hri 0 (by omega)
  have ri1 := rd1_part hri 1 (by omega)
  simp only [tmE, Nat.add_zero, List.getElem?_cons_zero, List.getElem?_cons_succ] at ri0 ri1
  (try simp (maxSteps := 1000000) (disch := first | omega | assumption | exact Nat.le_of_ble_eq_true rfl) only [go_sem, ↓mwp_block, simprocAttr, e0, e99, ri0])
  refine loop_intro (fun ρ' h' => h' = h ∧ ρ' 0 = ρ 0 ∧ ρ' 1 = ρ 1 ∧ ρ' 5 = ρ 5 ∧ ρ' 7 = ρ 7 ∧ ρ' 8 = ρ 8 ∧ ρ' 98 = ρ 98 ∧ ρ' 99 = ρ 99 ∧ ρ' 13 = .int .i64 i ∧ ρ' 108 = .int .i64 l.length ∧ ∃ k : Nat, ρ' 109 = .int .i64 k ∧ k ≤ l.length ∧ ρ' 14 = .int .i64 (lastF (l.take k) l[i].num l[i].day)) (fun ρ' _ => l.length - (iv (ρ' 109)).toNat) ?_ ?_
  · (try simp (maxSteps := 1000000) (disch := first | omega | assumption | exact Nat.le_of_ble_eq_true rfl) only [go_sem, ↓mwp_block, simprocAttr, e0, e99])
    exact ⟨0, rfl, by omega, rfl⟩
  rintro ρ2 h2 J2 hJ2 ⟨e2, w0, w1, w5, w7, w8, w98, w99, w13, w108, k, w109, hk, w14⟩
  subst e2
  (try simp (maxSteps := 1000000) (disch := first | omega | assumption | exact Nat.le_of_ble_eq_true rfl) only [go_sem, ↓mwp_block, simprocAttr, w108, w109])
  refine cond_dec (fun hkl => ?_) (fun hkl => ?_)
  · have hkl' : k < l.length := by omega
    obtain ⟨b3, o3, hA, hrk⟩ := arr1 ha hkl'
    cases hA
    have hrk := hrk h2 ⟨_, S⟩
    have rk0 := rd1_part hrk 0 (by omega)
    have rk1 := rd1_part hrk 1 (by omega)
    simp only [tmE, Nat.add_zero, List.getElem?_cons_zero, List.getElem?_cons_succ] at rk0 rk1
    by_cases hn : l[k].num = l[i].num
    · (try simp (maxSteps := 1000000) (disch := first | omega | assumption | exact Nat.le_of_ble_eq_true rfl) only [go_sem, ↓mwp_block, simprocAttr])
      refine draw_eq ?_
      (try simp (maxSteps := 1000000) (disch := first | omega | assumption | exact Nat.le_of_ble_eq_true rfl) only [go_sem, ↓mwp_block, simprocAttr, w0, e0, w109, w13, rk1, ri1, hn, rk0])
      refine hJ2 _ _ ?_ ?_
      · (try simp (maxSteps := 1000000) (disch := first | omega | assumption | exact Nat.le_of_ble_eq_true rfl) only [go_sem, ↓mwp_block, simprocAttr, w0, w1, w5, w7, w8, w98, w99, w13, w108])
        refine ⟨k + 1, rfl, by omega, ?_⟩
        rw [List.take_succ_eq_append_getElem hkl', lastF_snoc, if_pos hn]
      · (try simp (maxSteps := 1000000) (disch := first | omega | assumption | exact Nat.le_of_ble_eq_true rfl) only [go_sem, ↓mwp_block, simprocAttr, w109])
        omega
    · (try simp (maxSteps := 1000000) (disch := first | omega | assumption | exact Nat.le_of_ble_eq_true rfl) only [go_sem, ↓mwp_block, simprocAttr])
      refine draw_eq ?_
      (try simp (maxSteps := 1000000) (disch := first | omega | assumption | exact Nat.le_of_ble_eq_true rfl) only [go_sem, ↓mwp_block, simprocAttr, w0, e0, w109, w13, rk1, ri1, hn])
      refine hJ2 _ _ ?_ ?_
      · (try simp (maxSteps := 1000000) (disch := first | omega | assumption | exact Nat.le_of_ble_eq_true rfl) only [go_sem, ↓mwp_block, simprocAttr, w0, w1, w5, w7, w8, w98, w99, w13, w108])
        refine ⟨k + 1, rfl, by omega, ?_⟩
        rw [List.take_succ_eq_append_getElem hkl', lastF_snoc, if_neg hn]
        exact w14
      · (try simp (maxSteps := 1000000) (disch := first | omega | assumption | exact Nat.le_of_ble_eq_true rfl) only [go_sem, ↓mwp_block, simprocAttr, w109])
        omega
  obtain rfl : k = l.length := by omega
  rw [List.take_length, lastF_eq] at w14
  (try simp (maxSteps := 1000000) (disch := first | omega | assumption | exact Nat.le_of_ble_eq_true rfl) only [go_sem, ↓mwp_block, simprocAttr, w8, e8])
  clear hJ2
  refine loop_intro (fun ρ' h' => h' = h2 ∧ ρ' 0 = ρ 0 ∧ ρ' 1 = ρ 1 ∧ ρ' 5 = ρ 5 ∧ ρ' 7 = ρ 7 ∧ ρ' 8 = ρ 8 ∧ ρ' 98 = ρ 98 ∧ ρ' 99 = ρ 99 ∧ ρ' 13 = .int .i64 i ∧ ρ' 14 = ρ2 14 ∧ ρ' 130 = .int .i64 (P.map Tm.num).length ∧ ∃ k : Nat, ρ' 131 = .int .i64 k ∧ k ≤ (P.map Tm.num).length ∧ ρ' 16 = .bool (dcd (l[i].num ∈ (P.map Tm.num).take k))) (fun ρ' _ => (P.map Tm.num).length - (iv (ρ' 131)).toNat) ?_ ?_
  · (try simp (maxSteps := 1000000) (disch := first | omega | assumption | exact Nat.le_of_ble_eq_true rfl) only [go_sem, ↓mwp_block, simprocAttr, w0, w1, w5, w7, w8, w98, w99, w13, e8])
    exact ⟨0, rfl, by omega, by rw [dcd_false (by simp)]⟩
  clear w0 w1 w5 w7 w8 w98 w99 w13 w108 w109
  rintro ρ3 h3 J3 hJ3 ⟨e2, w0, w1, w5, w7, w8, w98, w99, w13, v14, w130, k, w131, hk, w16⟩
  subst e2
  (try simp (maxSteps := 1000000) (disch := first | omega | assumption | exact Nat.le_of_ble_eq_true rfl) only [go_sem, ↓mwp_block, simprocAttr, w130, w131])
  refine cond_dec (fun hkl => ?_) (fun hkl => ?_)
  · have hkl' : k < (P.map Tm.num).length := by omega
    obtain ⟨b3, o3, rfl, hr3⟩ := S.arr iEnc_len k hkl'
    have hr3 := rd1_part hr3 0 (by omega)
    simp only [iEnc, List.getElem?_cons_zero, Nat.add_zero] at hr3
    have hmem : l[i].num ∈ (P.map Tm.num).take (k + 1) ↔ (l[i].num ∈ (P.map Tm.num).take k ∨ (P.map Tm.num)[k] = l[i].num) := by
      rw [List.take_succ_eq_append_getElem hkl', List.mem_append, List.mem_singleton]
      constructor
      · rintro (h | h)
        · exact .inl h
        · exact .inr h.symm
      · rintro (h | h)
        · exact .inl h
        · exact .inr h.symm
    by_cases hin : l[i].num ∈ (P.map Tm.num).take k
    · rw [dcd_true hin] at w16
      (try simp (maxSteps := 1000000) (disch := first | omega | assumption | exact Nat.le_of_ble_eq_true rfl) only [go_sem, ↓mwp_block, simprocAttr])
      refine draw_eq ?_
      (try simp (maxSteps := 1000000) (disch := first | omega | assumption | exact Nat.le_of_ble_eq_true rfl) only [go_sem, ↓mwp_block, simprocAttr, w16, w131])
      refine hJ3 _ _ ?_ ?_
      · (try simp (maxSteps := 1000000) (disch := first | omega | assumption | exact Nat.le_of_ble_eq_true rfl) only [go_sem, ↓mwp_block, simprocAttr, w0, w1, w5, w7, w8, w98, w99, w13, w130, v14, w131])
        exact ⟨k + 1, rfl, by omega, by rw [dcd_true (hmem.2 (.inl hin))]⟩
      · (try simp (maxSteps := 1000000) (disch := first | omega | assumption | exact Nat.le_of_ble_eq_true rfl) only [go_sem, ↓mwp_block, simprocAttr, w131])
        omega
    · rw [dcd_false hin] at w16
      (try simp (maxSteps := 1000000) (disch := first | omega | assumption | exact Nat.le_of_ble_eq_true rfl) only [go_sem, ↓mwp_block, simprocAttr])
      refine draw_eq ?_
      (try simp (maxSteps := 1000000) (disch := first | omega | assumption | exact Nat.le_of_ble_eq_true rfl) only [go_sem, ↓mwp_block, simprocAttr, w16, w8, e8, w131, hr3, w0, e0, w13, ri1])
      refine hJ3 _ _ ?_ ?_
      · (try simp (maxSteps := 1000000) (disch := first | omega | assumption | exact Nat.le_of_ble_eq_true rfl) only [go_sem, ↓mwp_block, simprocAttr, w0, w1, w5, w7, w8, w98, w99, w13, w130, v14, w131, e0, e8])
        refine ⟨k + 1, rfl, by omega, congrArg Value.bool (congrArg dcd (propext ⟨fun h => hmem.2 (.inr h), fun h => (hmem.1 h).resolve_left hin⟩))⟩
      · (try simp (maxSteps := 1000000) (disch := first | omega | assumption | exact Nat.le_of_ble_eq_true rfl) only [go_sem, ↓mwp_block, simprocAttr, w131])
        omega
  obtain rfl : k = (P.map Tm.num).length := by omega
  rw [List.take_length] at w16
  (try simp (maxSteps := 1000000) (disch := first | omega | assumption | exact Nat.le_of_ble_eq_true rfl) only [go_sem, ↓mwp_block, simprocAttr, w5, e5, w0, e0, w13, ri1])
  clear hJ3
  refine call_intro (DayT_ok _ S.p1 (by omega)) ?_
  clear S hri ri0 ri1
  rintro _ h ⟨rfl, S⟩
  have S := S.p1
  obtain ⟨hl1, hl2⟩ := law l[i] (List.getElem_mem hil)
  have hfin : ∀ {ρ' : Env}, ρ' 0 = ρ3 0 → ρ' 1 = ρ3 1 → ρ' 5 = ρ3 5 → ρ' 7 = ρ3 7 → ρ' 8 = ρ3 8 → ρ' 98 = ρ3 98 → ρ' 99 = .int .i64 ((i : Int) + 1) → J ρ' h := by
    intro ρ' p0 p1 p5 p7 p8 p98 p99
    refine hJ _ _ ⟨by rw [p0, w0, e0], by rw [p1, w1, e1], by rw [p5, w5, e5], by rw [p7, w7, e7], by rw [p8, w8, e8], by rw [p98, w98, e98], ⟨i + 1, by rw [p99]; rfl, by omega⟩, S⟩ ?_
    rw [p99, e99]
    simp only [iv]
    omega
  generalize (lastO l l[i].num).getD l[i].day = last at hl1 w14
  by_cases hin : l[i].num ∈ P.map Tm.num
  · obtain ⟨hany, hle⟩ := hl1.1 hin
    have hs : (0 : Int) < s.length := by have : 0 < s.length := by simpa using hany
                                         omega
    have hsm : (M.find? (isNum l[i].num)).isSome = false := by
      cases e : (M.find? (isNum l[i].num)).isSome with
      | false => rfl
      | true => exact absurd hin (hl2.1 e)
    rw [dcd_true hin] at w16
    rw [hsm]
    (try simp (maxSteps := 1000000) (disch := first | omega | assumption | exact Nat.le_of_ble_eq_true rfl) only [go_sem, ↓mwp_block, simprocAttr, w16, w1, e1, v14, w14, w7, e7, hs, hle, beq_self_eq_true, Bool.not_true, Bool.not_false, Bool.true_beq, Bool.false_beq, w99, e99])
    exact hfin (by (try simp (maxSteps := 1000000) (disch := first | omega | assumption | exact Nat.le_of_ble_eq_true rfl) only [go_sem, ↓mwp_block, simprocAttr])) (by (try simp (maxSteps := 1000000) (disch := first | omega | assumption | exact Nat.le_of_ble_eq_true rfl) only [go_sem, ↓mwp_block, simprocAttr])) (by (try simp (maxSteps := 1000000) (disch := first | omega | assumption | exact Nat.le_of_ble_eq_true rfl) only [go_sem, ↓mwp_block, simprocAttr])) (by (try simp (maxSteps := 1000000) (disch := first | omega | assumption | exact Nat.le_of_ble_eq_true rfl) only [go_sem, ↓mwp_block, simprocAttr])) (by (try simp (maxSteps := 1000000) (disch := first | omega | assumption | exact Nat.le_of_ble_eq_true rfl) only [go_sem, ↓mwp_block, simprocAttr])) (by (try simp (maxSteps := 1000000) (disch := first | omega | assumption | exact Nat.le_of_ble_eq_true rfl) only [go_sem, ↓mwp_block, simprocAttr])) (by (try simp (maxSteps := 1000000) (disch := first | omega | assumption | exact Nat.le_of_ble_eq_true rfl) only [go_sem, ↓mwp_block, simprocAttr]))
  · have hsm : (M.find? (isNum l[i].num)).isSome = true := hl2.2 hin
    rw [dcd_false hin] at w16
    rw [hsm]
    by_cases hs : (0 : Int) < s.length
    · have hle : ¬ last ≤ now := fun h => hin (hl1.2 ⟨by simp; omega, h⟩)
      (try simp (maxSteps := 1000000) (disch := first | omega | assumption | exact Nat.le_of_ble_eq_true rfl) only [go_sem, ↓mwp_block, simprocAttr, w16, w1, e1, v14, w14, w7, e7, hs, hle, beq_self_eq_true, Bool.not_true, Bool.not_false, Bool.true_beq, Bool.false_beq, w99, e99])
      exact hfin (by (try simp (maxSteps := 1000000) (disch := first | omega | assumption | exact Nat.le_of_ble_eq_true rfl) only [go_sem, ↓mwp_block, simprocAttr])) (by (try simp (maxSteps := 1000000) (disch := first | omega | assumption | exact Nat.le_of_ble_eq_true rfl) only [go_sem, ↓mwp_block, simprocAttr])) (by (try simp (maxSteps := 1000000) (disch := first | omega | assumption | exact Nat.le_of_ble_eq_true rfl) only [go_sem, ↓mwp_block, simprocAttr])) (by (try simp (maxSteps := 1000000) (disch := first | omega | assumption | exact Nat.le_of_ble_eq_true rfl) only [go_sem, ↓mwp_block, simprocAttr])) (by (try simp (maxSteps := 1000000) (disch := first | omega | assumption | exact Nat.le_of_ble_eq_true rfl) only [go_sem, ↓mwp_block, simprocAttr])) (by (try simp (maxSteps := 1000000) (disch := first | omega | assumption | exact Nat.le_of_ble_eq_true rfl) only [go_sem, ↓mwp_block, simprocAttr])) (by (try simp (maxSteps := 1000000) (disch := first | omega | assumption | exact Nat.le_of_ble_eq_true rfl) only [go_sem, ↓mwp_block, simprocAttr]))
    · (try simp (maxSteps := 1000000) (disch := first | omega | assumption | exact Nat.le_of_ble_eq_true rfl) only [go_sem, ↓mwp_block, simprocAttr, w16, w1, e1, v14, w14, w7, e7, hs, beq_self_eq_true, Bool.not_true, Bool.not_false, Bool.true_beq, Bool.false_beq, w99, e99])
      exact hfin (by (try simp (maxSteps := 1000000) (disch := first | omega | assumption | exact Nat.le_of_ble_eq_true rfl) only [go_sem, ↓mwp_block, simprocAttr])) (by (try simp (maxSteps := 1000000) (disch := first | omega | assumption | exact Nat.le_of_ble_eq_true rfl) only [go_sem, ↓mwp_block, simprocAttr])) (by (try simp (maxSteps := 1000000) (disch := first | omega | assumption | exact Nat.le_of_ble_eq_true rfl) only [go_sem, ↓mwp_block, simprocAttr])) (by (try simp (maxSteps := 1000000) (disch := first | omega | assumption | exact Nat.le_of_ble_eq_true rfl) only [go_sem, ↓mwp_block, simprocAttr])) (by (try simp (maxSteps := 1000000) (disch := first | omega | assumption | exact Nat.le_of_ble_eq_true rfl) only [go_sem, ↓mwp_block, simprocAttr])) (by (try simp (maxSteps := 1000000) (disch := first | omega | assumption | exact Nat.le_of_ble_eq_true rfl) only [go_sem, ↓mwp_block, simprocAttr])) (by (try simp (maxSteps := 1000000) (disch := first | omega | assumption | exact Nat.le_of_ble_eq_true rfl) only [go_sem, ↓mwp_block, simprocAttr]))
end Go.Proofs.Ytnjjdpeglkiifaa.MX
