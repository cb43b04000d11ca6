/- The library's sort, part 5: the merge. -/
import Derived.Test.YtnjjdpeglkiifaaSp2
import Derived.Test.YtnjjdpeglkiifaaSp7
namespace Go.Proofs.Ytnjjdpeglkiifaa.MX
open Go Go.Proofs
set_option linter.unusedSimpArgs false
set_option linter.unusedVariables false
set_option maxHeartbeats 8000000
theorem cond_cut {P : Program} {b : Bool} {x y : MCode} {T : Env → Heap → Prop} {Q : MExit → Env → Heap → Prop} {ρ : Env} {h : Heap} {s : Tag (mwp P x (qseq T Q) ρ h)} {t : Tag (mwp P y (qseq T Q) ρ h)} (I : Env → Heap → Prop)
    (hX : b = true → ∀ J : Env → Heap → Prop, (∀ ρ h, I ρ h → J ρ h) → mwp P x (qseq J Q) ρ h) (hY : b = false → ∀ J : Env → Heap → Prop, (∀ ρ h, I ρ h → J ρ h) → mwp P y (qseq J Q) ρ h) (hT : ∀ ρ h, I ρ h → T ρ h) :
    condT (.bool b) (mwp P x (qseq T Q) ρ h) (mwp P y (qseq T Q) ρ h) s t := by
  cases b
  · simp only [condT, condW, Bool.false_eq_true, if_false]; exact hY rfl T hT
  · simp only [condT, condW, if_true]; exact hX rfl T hT
theorem seq_cut {P : Program} {a b : MCode} {Q : MExit → Env → Heap → Prop} {ρ : Env} {h : Heap} (I : Env → Heap → Prop) (hw : ∀ J : Env → Heap → Prop, (∀ ρ h, I ρ h → J ρ h) → mwp P a (qseq J Q) ρ h) (hT : ∀ ρ h, I ρ h → mwp P b Q ρ h) : mwp P (.seq a b) Q ρ h := hw _ hT
/-- The two halves, one behind the other: sorted if each is, and the search's ends are right. -/
theorem halves_sorted {Kf : Int → Nat} {X Y : List Int} (hXs : X.Pairwise (Rk Kf)) (hYs : Y.Pairwise (Rk Kf)) (hXY : ∀ x ∈ X, ∀ y ∈ Y, x < y) {s k : Nat}
    (hA : ∀ (h1 : 0 < s) (h2 : s ≤ X.length) (h3 : k < Y.length), Kf Y[k] ≤ Kf (X[s - 1]'(by omega))) (hB : ∀ (h1 : s < X.length) (h2 : 0 < k) (h3 : k ≤ Y.length), Kf X[s] < Kf (Y[k - 1]'(by omega))) (hsX : s ≤ X.length) (hkY : k ≤ Y.length) {Z1 Z2 : List Int}
    (p1 : Z1.Perm (X.take s ++ Y.take k)) (p2 : Z2.Perm (X.drop s ++ Y.drop k)) (s1 : Z1.Pairwise (Rk Kf)) (s2 : Z2.Pairwise (Rk Kf)) : (Z1 ++ Z2).Perm (X ++ Y) ∧ (Z1 ++ Z2).Pairwise (Rk Kf) := by
  constructor
  · have e : X ++ Y = X.take s ++ (X.drop s ++ (Y.take k ++ Y.drop k)) := by rw [← List.append_assoc, List.take_append_drop, List.take_append_drop]
    rw [e]
    refine (p1.append p2).trans ?_
    rw [List.append_assoc]
    refine List.Perm.append_left _ ?_
    rw [← List.append_assoc, ← List.append_assoc]
    exact List.Perm.append_right _ List.perm_append_comm
  · rw [List.pairwise_append]
    refine ⟨s1, s2, fun u hu v hv => ?_⟩
    rcases List.mem_append.1 (p1.mem_iff.1 hu) with hu | hu
    · obtain ⟨i, hi, his, rfl⟩ := mem_takeI hu
      rcases List.mem_append.1 (p2.mem_iff.1 hv) with hv | hv
      · obtain ⟨j, hj, hjs, rfl⟩ := mem_dropI hv
        exact List.pairwise_iff_getElem.1 hXs i j hi hj (by omega)
      · obtain ⟨j, hj, hjs, rfl⟩ := mem_dropI hv
        have h1 := hA (by omega) hsX (by omega)
        have h2 := Kmono (Kf := Kf) hXs (i := i) (j := s - 1) (by omega) (by omega)
        have h3 := Kmono (Kf := Kf) hYs (i := k) (j := j) hj hjs
        have h4 := hXY _ (List.getElem_mem hi) _ (List.getElem_mem hj)
        unfold Rk
        omega
    · obtain ⟨i, hi, his, rfl⟩ := mem_takeI hu
      rcases List.mem_append.1 (p2.mem_iff.1 hv) with hv | hv
      · obtain ⟨j, hj, hjs, rfl⟩ := mem_dropI hv
        have h1 := hB (by omega) (by omega) hkY
        have h2 := Kmono (Kf := Kf) hYs (i := i) (j := k - 1) (by omega) (by omega)
        have h3 := Kmono (Kf := Kf) hXs (i := s) (j := j) hj hjs
        exact .inl (by omega)
      · obtain ⟨j, hj, hjs, rfl⟩ := mem_dropI hv
        exact List.pairwise_iff_getElem.1 hYs i j hi hj (by omega)
section
variable {h0 h : Heap} {l : List HP} {Kf : Int → Nat} {dom : Int → Prop} {fv : Value} {A : Option Addr} {n c : Nat}
theorem merge_step (hcmp : CmpS fv Kf dom h0 A n c l) (hs : n < 1000000) (X Y : List Int) (hX2 : 2 ≤ X.length) (hY2 : 2 ≤ Y.length) (ih : ∀ X' Y' : List Int, X'.length + Y'.length < X.length + Y.length → MergeS fv Kf dom h0 A n c l X' Y') : MergeS fv Kf dom h0 A n c l X Y := by
  intro L R h a m b hn ha hm hb hX hY hXs hYs hXY hdX hdY S
  have hnl : n = L.length + (X.length + (Y.length + R.length)) := by rw [hn]; simp only [List.length_append]
  have hdW : ∀ i, i < X.length + Y.length → dom ((X ++ Y).getD i 0) := by
    intro i hi
    rw [List.getD_eq_getElem?_getD, List.getElem?_eq_getElem (by rw [List.length_append]; exact hi), Option.getD_some]
    rcases List.mem_append.1 (List.getElem_mem (l := X ++ Y) (by rw [List.length_append]; exact hi)) with h | h
    · exact hdX _ h
    · exact hdY _ h
  have hWX : ∀ i (hi : i < X.length), (X ++ Y).getD i 0 = X[i] := fun i hi => by rw [List.getD_eq_getElem?_getD, List.getElem?_append_left hi, List.getElem?_eq_getElem hi]; rfl
  have hWY : ∀ i (hi : i < Y.length), (X ++ Y).getD (X.length + i) 0 = Y[i] := fun i hi => by rw [List.getD_eq_getElem?_getD, List.getElem?_append_right (by omega), Nat.add_sub_cancel_left, List.getElem?_eq_getElem hi]; rfl
  have hDW : ∀ i, i < X.length + Y.length → (L ++ (X ++ (Y ++ R)))[a + i]? = some ((X ++ Y).getD i 0) := by
    intro i hi
    rw [List.getElem?_append_right (by omega), show a + i - L.length = i by omega, ← List.append_assoc, List.getElem?_append_left (by rw [List.length_append]; exact hi), List.getD_eq_getElem?_getD, List.getElem?_eq_getElem (by rw [List.length_append]; exact hi), Option.getD_some]
  obtain ⟨M, hM⟩ : ∃ M, (X.length + Y.length) / 2 = M := ⟨_, rfl⟩
  have w0 := subI (a := m) (b := a) (c := X.length) (by omega) (by omega)
  have w1 := subI (a := b) (b := m) (c := Y.length) (by omega) (by omega)
  have hX2' : ¬ (X.length : Int) = 1 := by omega
  have hY2' : ¬ (Y.length : Int) = 1 := by omega
  have wm := mid64 (i := a) (j := b) (by omega)
  rw [show (a + b) / 2 = a + M by omega] at wm
  have wn := addI (a := a + M) (b := m) (c := a + (M + m)) (by omega) (by omega)
  refine enterK c_slices_symMergeCmpFunc_int (Nat.le_of_ble_eq_true rfl) fun K hK => ?_
  (try simp (maxSteps := 1000000) (disch := first | omega | assumption | exact Nat.le_of_ble_eq_true rfl) only [go_sem, ↓mwp_block, simprocAttr, ir_slices_symMergeCmpFunc_int, w0, w1, hX2', hY2', wm, wn])
  refine cond_cut (fun ρ' h' => h' = h ∧ ρ' 0 = .slice A n c ∧ ρ' 1 = .int .i64 a ∧ ρ' 2 = .int .i64 m ∧ ρ' 3 = .int .i64 b ∧ ρ' 4 = fv ∧ ρ' 18 = .int .i64 ((a + M : Nat) : Int) ∧ ρ' 19 = .int .i64 ((a + (M + m) : Nat) : Int) ∧
    ∃ u0 r0 : Nat, ρ' 20 = .int .i64 ((a + u0 : Nat) : Int) ∧ ρ' 21 = .int .i64 ((a + r0 : Nat) : Int) ∧ u0 ≤ r0 ∧ r0 ≤ X.length ∧ r0 ≤ M ∧ M ≤ Y.length + u0 ∧ (u0 = 0 ∨ M = Y.length + u0) ∧ (r0 = X.length ∨ r0 = M)) ?_ ?_ ?_
  · intro hb1 J hJ
    have hgt : ((a + M : Nat) : Int) < m := of_dcd_true hb1
    have w2 := subI (a := a + (M + m)) (b := b) (c := a + (M - Y.length)) (by omega) (by omega)
    (try simp (maxSteps := 1000000) (disch := first | omega | assumption | exact Nat.le_of_ble_eq_true rfl) only [go_sem, ↓mwp_block, simprocAttr, w2])
    refine hJ _ _ ?_
    (try simp (maxSteps := 1000000) (disch := first | omega | assumption | exact Nat.le_of_ble_eq_true rfl) only [go_sem, ↓mwp_block, simprocAttr])
    exact ⟨M - Y.length, M, rfl, rfl, by omega, by omega, by omega, by omega, by omega, by omega⟩
  · intro hb1 J hJ
    have hgt : ¬ ((a + M : Nat) : Int) < m := of_dcd_false hb1
    (try simp (maxSteps := 1000000) (disch := first | omega | assumption | exact Nat.le_of_ble_eq_true rfl) only [go_sem, ↓mwp_block, simprocAttr])
    refine hJ _ _ ?_
    (try simp (maxSteps := 1000000) (disch := first | omega | assumption | exact Nat.le_of_ble_eq_true rfl) only [go_sem, ↓mwp_block, simprocAttr])
    exact ⟨0, X.length, rfl, congrArg (Value.int .i64) (by omega), by omega, by omega, by omega, by omega, by omega, by omega⟩
  clear w0 w1 wm wn
  rintro ρ h1 ⟨e, e0, e1, e2, e3, e4, e18, e19, u0, r0, e20, e21, hur, hrX, hrM, hMu, hu0, hr0⟩
  subst e
  have w1 : IntKind.i64.wrap (((a + (M + m) : Nat) : Int) - 1) = ((a + (M + m) - 1 : Nat) : Int) := subI (a := a + (M + m)) (b := 1) (c := a + (M + m) - 1) (by omega) (by omega)
  (try simp (maxSteps := 1000000) (disch := first | omega | assumption | exact Nat.le_of_ble_eq_true rfl) only [go_sem, ↓mwp_block, simprocAttr, e19, w1])
  refine loop_join (fun ρ' h' => ρ' 0 = .slice A n c ∧ ρ' 1 = .int .i64 a ∧ ρ' 2 = .int .i64 m ∧ ρ' 3 = .int .i64 b ∧ ρ' 4 = fv ∧ ρ' 18 = .int .i64 ((a + M : Nat) : Int) ∧ ρ' 19 = .int .i64 ((a + (M + m) : Nat) : Int) ∧
    (∃ s : Nat, ρ' 20 = .int .i64 ((a + s : Nat) : Int) ∧ u0 ≤ s ∧ s ≤ r0 ∧ (s = u0 ∨ (0 < s ∧ ¬ Kf ((X ++ Y).getD (s - 1) 0) < Kf ((X ++ Y).getD (M + X.length - s) 0))) ∧ (s = r0 ∨ Kf ((X ++ Y).getD s 0) < Kf ((X ++ Y).getD (M + X.length - 1 - s) 0))) ∧
    St h0 h' (ownA zEnc 1 3 (.slice A n c) (L ++ (X ++ (Y ++ R))) :: l)) ?_ ?_
  · intro J0 hJ0
    refine loop_intro (fun ρ' h' => ρ' 0 = .slice A n c ∧ ρ' 1 = .int .i64 a ∧ ρ' 2 = .int .i64 m ∧ ρ' 3 = .int .i64 b ∧ ρ' 4 = fv ∧ ρ' 18 = .int .i64 ((a + M : Nat) : Int) ∧ ρ' 19 = .int .i64 ((a + (M + m) : Nat) : Int) ∧ ρ' 22 = .int .i64 ((a + (M + m) - 1 : Nat) : Int) ∧
      ∃ u w : Nat, ρ' 20 = .int .i64 ((a + u : Nat) : Int) ∧ ρ' 21 = .int .i64 ((a + w : Nat) : Int) ∧ u0 ≤ u ∧ u ≤ w ∧ w ≤ r0 ∧ (u = u0 ∨ (0 < u ∧ ¬ Kf ((X ++ Y).getD (u - 1) 0) < Kf ((X ++ Y).getD (M + X.length - u) 0))) ∧ (w = r0 ∨ Kf ((X ++ Y).getD w 0) < Kf ((X ++ Y).getD (M + X.length - 1 - w) 0)) ∧
      St h0 h' (ownA zEnc 1 3 (.slice A n c) (L ++ (X ++ (Y ++ R))) :: l)) (fun ρ' _ => (iv (ρ' 21)).toNat - (iv (ρ' 20)).toNat) ?_ ?_
    · (try simp (maxSteps := 1000000) (disch := first | omega | assumption | exact Nat.le_of_ble_eq_true rfl) only [go_sem, ↓mwp_block, simprocAttr, e0, e1, e2, e3, e4, e18, e19, e20, e21])
      exact ⟨u0, r0, rfl, rfl, by omega, by omega, by omega, .inl rfl, .inl rfl, S⟩
    · clear S e0 e1 e2 e3 e4 e18 e19 e20 e21
      rintro ρ1 h2 J hJ ⟨e0, e1, e2, e3, e4, e18, e19, e22, u, w, e20, e21, hu, huw, hwr, hpu, hpw, S⟩
      (try simp (maxSteps := 1000000) (disch := first | omega | assumption | exact Nat.le_of_ble_eq_true rfl) only [go_sem, ↓mwp_block, simprocAttr, e20, e21])
      refine cond_dec (fun hlt => ?_) (fun hlt => ?_)
      · have hw := mid64 (i := a + u) (j := a + w) (by omega)
        obtain ⟨e, he⟩ : ∃ e, (a + u + (a + w)) / 2 = a + e := ⟨(a + u + (a + w)) / 2 - a, by omega⟩
        rw [he] at hw
        have hue : u ≤ e ∧ e < w := by omega
        have w2 := subI (a := a + (M + m) - 1) (b := a + e) (c := a + (M + X.length - 1 - e)) (by omega) (by omega)
        have g1 := hDW (M + X.length - 1 - e) (by omega)
        have g2 := hDW e (by omega)
        obtain ⟨bk, rfl⟩ := S.ownAt (by simp only [List.length_append]; omega)
        have rx : ∀ K u, readT (fun h' => St h0 h' (ownA zEnc 1 3 (.slice (some ⟨bk, 0, none⟩) n c) (L ++ (X ++ (Y ++ R))) :: l)) (fun h' => rd1 h' (.pointer (some ⟨bk, (a + (M + X.length - 1 - e)) * 1, none⟩))) K u = bindT (some (.int .i64 ((X ++ Y).getD (M + X.length - 1 - e) 0))) K ⟨⟩ := fun K u => reads_of S fun h' s => own_rd s g1
        have ry : ∀ K u, readT (fun h' => St h0 h' (ownA zEnc 1 3 (.slice (some ⟨bk, 0, none⟩) n c) (L ++ (X ++ (Y ++ R))) :: l)) (fun h' => rd1 h' (.pointer (some ⟨bk, (a + e) * 1, none⟩))) K u = bindT (some (.int .i64 ((X ++ Y).getD e 0))) K ⟨⟩ := fun K u => reads_of S fun h' s => own_rd s g2
        (try simp (maxSteps := 1000000) (disch := first | omega | assumption | exact Nat.le_of_ble_eq_true rfl) only [go_sem, ↓mwp_block, simprocAttr, e20, e21, hw])
        refine draw_st S ?_
        (try simp (maxSteps := 1000000) (disch := first | omega | assumption | exact Nat.le_of_ble_eq_true rfl) only [go_sem, ↓mwp_block, simprocAttr, e0, e4, e22, w2, rx, ry])
        refine hcmp _ _ (hdW _ (by omega)) (hdW _ (by omega)) S fun v h'' hv S => ?_
        by_cases hc : v < 0
        · have hd := dcd_true hc
          (try simp (maxSteps := 1000000) (disch := first | omega | assumption | exact Nat.le_of_ble_eq_true rfl) only [go_sem, ↓mwp_block, simprocAttr, hd, Bool.not_true])
          refine hJ _ _ ?_ ?_
          · (try simp (maxSteps := 1000000) (disch := first | omega | assumption | exact Nat.le_of_ble_eq_true rfl) only [go_sem, ↓mwp_block, simprocAttr, e0, e1, e2, e3, e4, e18, e19, e20, e22])
            exact ⟨u, e, rfl, rfl, hu, by omega, by omega, hpu, .inr (hv.1 hc), S⟩
          · (try simp (maxSteps := 1000000) (disch := first | omega | assumption | exact Nat.le_of_ble_eq_true rfl) only [go_sem, ↓mwp_block, simprocAttr, e20, e21])
            omega
        · have hd := dcd_false hc
          have w3 : IntKind.i64.wrap (((a + e : Nat) : Int) + 1) = ((a + (e + 1) : Nat) : Int) := addI (a := a + e) (b := 1) (by omega) (by omega)
          (try simp (maxSteps := 1000000) (disch := first | omega | assumption | exact Nat.le_of_ble_eq_true rfl) only [go_sem, ↓mwp_block, simprocAttr, hd, Bool.not_false, w3])
          refine hJ _ _ ?_ ?_
          · (try simp (maxSteps := 1000000) (disch := first | omega | assumption | exact Nat.le_of_ble_eq_true rfl) only [go_sem, ↓mwp_block, simprocAttr, e0, e1, e2, e3, e4, e18, e19, e21, e22])
            exact ⟨e + 1, w, rfl, rfl, by omega, by omega, hwr, .inr ⟨by omega, by rw [Nat.add_sub_cancel, show M + X.length - (e + 1) = M + X.length - 1 - e by omega]; exact fun hx => hc (hv.2 hx)⟩, hpw, S⟩
          · (try simp (maxSteps := 1000000) (disch := first | omega | assumption | exact Nat.le_of_ble_eq_true rfl) only [go_sem, ↓mwp_block, simprocAttr, e20, e21])
            omega
      · obtain rfl : u = w := by omega
        (try simp (maxSteps := 1000000) (disch := first | omega | assumption | exact Nat.le_of_ble_eq_true rfl) only [go_sem, ↓mwp_block, simprocAttr])
        refine hJ0 _ _ ⟨e0, e1, e2, e3, e4, e18, e19, ⟨u, e20, hu, hwr, hpu, hpw⟩, S⟩ <;> (try simp (maxSteps := 1000000) (disch := first | omega | assumption | exact Nat.le_of_ble_eq_true rfl) only [go_sem, ↓mwp_block, simprocAttr])
  clear S e0 e1 e2 e3 e4 e18 e19 e20 e21 w1 h1
  rintro ρ h1 ⟨e0, e1, e2, e3, e4, e18, e19, ⟨s, e20, hus, hsr, hP1, hP2⟩, S⟩
  have hsX : s ≤ X.length := by omega
  have hsM : s ≤ M := by omega
  have hkY : M - s ≤ Y.length := by omega
  have hA : ∀ (h1 : 0 < s) (h2 : s ≤ X.length) (h3 : M - s < Y.length), Kf Y[M - s] ≤ Kf (X[s - 1]'(by omega)) := by
    intro q1 q2 q3
    rcases hP1 with hP1 | hP1
    · omega
    · have h4 := hP1.2
      rw [hWX (s - 1) (by omega), show M + X.length - s = X.length + (M - s) by omega, hWY _ q3] at h4
      omega
  have hB : ∀ (h1 : s < X.length) (h2 : 0 < M - s) (h3 : M - s ≤ Y.length), Kf X[s] < Kf (Y[M - s - 1]'(by omega)) := by
    intro q1 q2 q3
    rcases hP2 with hP2 | hP2
    · omega
    · rw [hWX s q1, show M + X.length - 1 - s = X.length + (M - s - 1) by omega, hWY _ (by omega)] at hP2
      exact hP2
  have hX1l : (X.take s).length = s := by rw [List.length_take]; omega
  have hX2l : (X.drop s).length = X.length - s := List.length_drop
  have hY1l : (Y.take (M - s)).length = M - s := by rw [List.length_take]; omega
  have hY2l : (Y.drop (M - s)).length = Y.length - (M - s) := List.length_drop
  have hXe : X = X.take s ++ X.drop s := (List.take_append_drop _ _).symm
  have hYe : Y = Y.take (M - s) ++ Y.drop (M - s) := (List.take_append_drop _ _).symm
  have fin := fun {Z1 Z2 : List Int} => halves_sorted (Z1 := Z1) (Z2 := Z2) hXs hYs hXY hA hB hsX hkY
  have wE := subI (a := a + (M + m)) (b := a + s) (c := a + (M + X.length - s)) (by omega) (by omega)
  refine seq_cut (fun ρ' h' => ρ' 2 = .int .i64 m ∧ ρ' 0 = .slice A n c ∧ ρ' 1 = .int .i64 a ∧ ρ' 3 = .int .i64 b ∧ ρ' 4 = fv ∧ ρ' 18 = .int .i64 ((a + M : Nat) : Int) ∧ ρ' 20 = .int .i64 ((a + s : Nat) : Int) ∧ ρ' 24 = .int .i64 ((a + (M + X.length - s) : Nat) : Int) ∧ St h0 h' (ownA zEnc 1 3 (.slice A n c) (L ++ (X ++ (Y ++ R))) :: l)) ?_ ?_
  · intro J hJ
    (try simp (maxSteps := 1000000) (disch := first | omega | assumption | exact Nat.le_of_ble_eq_true rfl) only [go_sem, ↓mwp_block, simprocAttr, e19, e20, wE])
    refine hJ _ _ ?_
    (try simp (maxSteps := 1000000) (disch := first | omega | assumption | exact Nat.le_of_ble_eq_true rfl) only [go_sem, ↓mwp_block, simprocAttr, e0, e1, e2, e3, e4, e18, e20])
    exact S
  clear S e0 e1 e2 e3 e4 e18 e19 e20 hP1 hP2
  rintro ρ h1 ⟨e2, e0, e1, e3, e4, e18, e20, e24, S⟩
  refine seq_cut (fun ρ' h' => ρ' 0 = .slice A n c ∧ ρ' 1 = .int .i64 a ∧ ρ' 3 = .int .i64 b ∧ ρ' 4 = fv ∧ ρ' 18 = .int .i64 ((a + M : Nat) : Int) ∧ ρ' 20 = .int .i64 ((a + s : Nat) : Int) ∧ ρ' 24 = .int .i64 ((a + (M + X.length - s) : Nat) : Int) ∧ St h0 h' (ownA zEnc 1 3 (.slice A n c) (L ++ (X.take s ++ (Y.take (M - s) ++ (X.drop s ++ (Y.drop (M - s) ++ R))))) :: l)) ?_ ?_
  · intro J hJ
    by_cases c1 : ((a + s : Nat) : Int) < m
    · by_cases c2 : (m : Int) < ((a + (M + X.length - s) : Nat) : Int)
      · (try simp (maxSteps := 1000000) (disch := first | omega | assumption | exact Nat.le_of_ble_eq_true rfl) only [go_sem, ↓mwp_block, simprocAttr, e20, e2, e24, c1, c2, e0, e4])
        have S1 : St h0 h1 (ownA zEnc 1 3 (.slice A n c) ((L ++ X.take s) ++ (X.drop s ++ (Y.take (M - s) ++ (Y.drop (M - s) ++ R)))) :: l) := by
          have e : (L ++ X.take s) ++ (X.drop s ++ (Y.take (M - s) ++ (Y.drop (M - s) ++ R))) = L ++ (X ++ (Y ++ R)) := by
            rw [← List.append_assoc (Y.take _), List.take_append_drop, List.append_assoc L, ← List.append_assoc (X.take s), List.take_append_drop]
          rw [e]
          exact S
        refine call_intro (rotate_ok (L ++ X.take s) (X.drop s) (Y.take (M - s)) (Y.drop (M - s) ++ R) (by simp only [List.length_append, hX1l, hX2l, hY1l, hY2l]; omega) (by rw [List.length_append, hX1l]; omega) (by rw [List.length_append, hX1l, hX2l]; omega) (by rw [hY1l]; omega) (by omega) (by omega) hs S1) ?_
        clear S S1
        intro _ h S
        (try simp (maxSteps := 1000000) (disch := first | omega | assumption | exact Nat.le_of_ble_eq_true rfl) only [go_sem, ↓mwp_block, simprocAttr])
        refine hJ _ _ ?_
        (try simp (maxSteps := 1000000) (disch := first | omega | assumption | exact Nat.le_of_ble_eq_true rfl) only [go_sem, ↓mwp_block, simprocAttr, e0, e1, e3, e4, e18, e20, e24])
        simpa only [List.append_assoc] using S
      · have hk0 : M - s = 0 := by omega
        (try simp (maxSteps := 1000000) (disch := first | omega | assumption | exact Nat.le_of_ble_eq_true rfl) only [go_sem, ↓mwp_block, simprocAttr, e20, e2, e24, c1, c2])
        refine hJ _ _ ?_
        (try simp (maxSteps := 1000000) (disch := first | omega | assumption | exact Nat.le_of_ble_eq_true rfl) only [go_sem, ↓mwp_block, simprocAttr, e0, e1, e3, e4, e18, e20, e24])
        rw [hk0, List.take_zero, List.drop_zero, List.nil_append, ← List.append_assoc (X.take s), List.take_append_drop]
        exact S
    · have hs0 : s = X.length := by omega
      (try simp (maxSteps := 1000000) (disch := first | omega | assumption | exact Nat.le_of_ble_eq_true rfl) only [go_sem, ↓mwp_block, simprocAttr, e20, e2, e24, c1])
      refine hJ _ _ ?_
      (try simp (maxSteps := 1000000) (disch := first | omega | assumption | exact Nat.le_of_ble_eq_true rfl) only [go_sem, ↓mwp_block, simprocAttr, e0, e1, e3, e4, e18, e20, e24])
      rw [hs0, List.take_length, List.drop_length, List.nil_append, ← List.append_assoc (Y.take _), List.take_append_drop]
      exact S
  clear S e2 e0 e1 e3 e4 e18 e20 e24
  rintro ρ h1 ⟨e0, e1, e3, e4, e18, e20, e24, S⟩
  refine seq_cut (fun ρ' h' => ρ' 0 = .slice A n c ∧ ρ' 1 = .int .i64 a ∧ ρ' 3 = .int .i64 b ∧ ρ' 4 = fv ∧ ρ' 18 = .int .i64 ((a + M : Nat) : Int) ∧ ρ' 20 = .int .i64 ((a + s : Nat) : Int) ∧ ρ' 24 = .int .i64 ((a + (M + X.length - s) : Nat) : Int) ∧ ∃ Z1 : List Int, Z1.Perm (X.take s ++ Y.take (M - s)) ∧ Z1.Pairwise (Rk Kf) ∧ St h0 h' (ownA zEnc 1 3 (.slice A n c) (L ++ (Z1 ++ (X.drop s ++ (Y.drop (M - s) ++ R)))) :: l)) ?_ ?_
  · intro J hJ
    by_cases c1 : (a : Int) < ((a + s : Nat) : Int)
    · by_cases c2 : ((a + s : Nat) : Int) < ((a + M : Nat) : Int)
      · (try simp (maxSteps := 1000000) (disch := first | omega | assumption | exact Nat.le_of_ble_eq_true rfl) only [go_sem, ↓mwp_block, simprocAttr, e20, e1, e18, c1, c2, e0, e4])
        refine call_intro (ih (X.take s) (Y.take (M - s)) (by omega) L (X.drop s ++ (Y.drop (M - s) ++ R)) (by simp only [List.length_append, hX1l, hX2l, hY1l, hY2l]; omega) ha (by rw [hX1l]; omega) (by rw [hX1l, hY1l]; omega) (by omega) (by omega) (hXs.sublist (List.take_sublist _ _)) (hYs.sublist (List.take_sublist _ _)) (fun x hx y hy => hXY x (List.mem_of_mem_take hx) y (List.mem_of_mem_take hy)) (fun x hx => hdX x (List.mem_of_mem_take hx)) (fun y hy => hdY y (List.mem_of_mem_take hy)) S) ?_
        clear S
        rintro _ h ⟨Z1, hz1, hz2, S⟩
        (try simp (maxSteps := 1000000) (disch := first | omega | assumption | exact Nat.le_of_ble_eq_true rfl) only [go_sem, ↓mwp_block, simprocAttr])
        refine hJ _ _ ?_
        (try simp (maxSteps := 1000000) (disch := first | omega | assumption | exact Nat.le_of_ble_eq_true rfl) only [go_sem, ↓mwp_block, simprocAttr, e0, e1, e3, e4, e18, e20, e24])
        exact ⟨Z1, hz1, hz2, S⟩
      · have hk0 : M - s = 0 := by omega
        (try simp (maxSteps := 1000000) (disch := first | omega | assumption | exact Nat.le_of_ble_eq_true rfl) only [go_sem, ↓mwp_block, simprocAttr, e20, e1, e18, c1, c2])
        refine hJ _ _ ?_
        (try simp (maxSteps := 1000000) (disch := first | omega | assumption | exact Nat.le_of_ble_eq_true rfl) only [go_sem, ↓mwp_block, simprocAttr, e0, e1, e3, e4, e18, e20, e24])
        refine ⟨X.take s, ?_, hXs.sublist (List.take_sublist _ _), ?_⟩
        · rw [hk0, List.take_zero, List.append_nil]
        · rw [hk0, List.take_zero, List.nil_append] at S
          rw [hk0]
          exact S
    · have hs0 : s = 0 := by omega
      (try simp (maxSteps := 1000000) (disch := first | omega | assumption | exact Nat.le_of_ble_eq_true rfl) only [go_sem, ↓mwp_block, simprocAttr, e20, e1, e18, c1])
      refine hJ _ _ ?_
      (try simp (maxSteps := 1000000) (disch := first | omega | assumption | exact Nat.le_of_ble_eq_true rfl) only [go_sem, ↓mwp_block, simprocAttr, e0, e1, e3, e4, e18, e20, e24])
      refine ⟨Y.take (M - s), ?_, hYs.sublist (List.take_sublist _ _), ?_⟩
      · rw [hs0, List.take_zero, List.nil_append]
      · have e : X.take s = [] := by rw [hs0, List.take_zero]
        rw [e, List.nil_append] at S
        exact S
  clear S e0 e1 e3 e4 e18 e20 e24
  rintro ρ h1 ⟨e0, e1, e3, e4, e18, e20, e24, Z1, hz1, hz2, S⟩
  have hZ1l : Z1.length = M := by rw [hz1.length_eq, List.length_append, hX1l, hY1l]; omega
  have hfin : ∀ {Z2 : List Int} {h' : Heap} {v : Value}, Z2.Perm (X.drop s ++ Y.drop (M - s)) → Z2.Pairwise (Rk Kf) → St h0 h' (ownA zEnc 1 3 (.slice A n c) ((L ++ Z1) ++ (Z2 ++ R)) :: l) → K v h' := by
    intro Z2 h' v p2 s2 S
    obtain ⟨f1, f2⟩ := fin hz1 p2 hz2 s2
    exact hK _ _ ⟨Z1 ++ Z2, f1, f2, by simpa only [List.append_assoc] using S⟩
  have S1 : St h0 h1 (ownA zEnc 1 3 (.slice A n c) ((L ++ Z1) ++ (X.drop s ++ (Y.drop (M - s) ++ R))) :: l) := by simpa only [List.append_assoc] using S
  by_cases c1 : ((a + M : Nat) : Int) < ((a + (M + X.length - s) : Nat) : Int)
  · by_cases c2 : ((a + (M + X.length - s) : Nat) : Int) < b
    · (try simp (maxSteps := 1000000) (disch := first | omega | assumption | exact Nat.le_of_ble_eq_true rfl) only [go_sem, ↓mwp_block, simprocAttr, e18, e24, e3, c1, c2, e0, e4])
      refine call_intro (ih (X.drop s) (Y.drop (M - s)) (by omega) (L ++ Z1) R (by simp only [List.length_append, hX2l, hY2l, hZ1l]; omega) (by rw [List.length_append, hZ1l]; omega) (by rw [List.length_append, hZ1l, hX2l]; omega) (by rw [List.length_append, hZ1l, hX2l, hY2l]; omega) (by omega) (by omega) (hXs.sublist (List.drop_sublist _ _)) (hYs.sublist (List.drop_sublist _ _)) (fun x hx y hy => hXY x (List.mem_of_mem_drop hx) y (List.mem_of_mem_drop hy)) (fun x hx => hdX x (List.mem_of_mem_drop hx)) (fun y hy => hdY y (List.mem_of_mem_drop hy)) S1) ?_
      clear S S1
      rintro _ h ⟨Z2, hz3, hz4, S⟩
      (try simp (maxSteps := 1000000) (disch := first | omega | assumption | exact Nat.le_of_ble_eq_true rfl) only [go_sem, ↓mwp_block, simprocAttr])
      exact hfin hz3 hz4 S
    · have hy0 : Y.drop (M - s) = [] := List.drop_eq_nil_of_le (by omega)
      (try simp (maxSteps := 1000000) (disch := first | omega | assumption | exact Nat.le_of_ble_eq_true rfl) only [go_sem, ↓mwp_block, simprocAttr, e18, e24, e3, c1, c2])
      refine hfin (Z2 := X.drop s) ?_ (hXs.sublist (List.drop_sublist _ _)) ?_
      · rw [hy0, List.append_nil]
      · rw [hy0, List.nil_append] at S1
        exact S1
  · have hx0 : X.drop s = [] := List.drop_eq_nil_of_le (by omega)
    (try simp (maxSteps := 1000000) (disch := first | omega | assumption | exact Nat.le_of_ble_eq_true rfl) only [go_sem, ↓mwp_block, simprocAttr, e18, e24, e3, c1])
    refine hfin (Z2 := Y.drop (M - s)) ?_ (hYs.sublist (List.drop_sublist _ _)) ?_
    · rw [hx0, List.nil_append]
    · rw [hx0, List.nil_append] at S1
      exact S1
theorem merge_all (hcmp : CmpS fv Kf dom h0 A n c l) (hs : n < 1000000) : ∀ (N : Nat) (X Y : List Int), X.length + Y.length = N → MergeS fv Kf dom h0 A n c l X Y := by
  intro N
  induction N using Nat.strongRecOn with
  | ind N ih =>
    intro X Y hN
    match X, Y with
    | [x], Y => exact merge_one hcmp hs x Y
    | [], Y => intro L R h a m b _ _ _ _ hX; simp at hX
    | x :: x' :: X, [] => intro L R h a m b _ _ _ _ _ hY; simp at hY
    | x :: x' :: X, [y] => exact merge_last hcmp hs _ y (by simp)
    | x :: x' :: X, y :: y' :: Y => exact merge_step hcmp hs _ _ (by simp) (by simp) fun X' Y' hl => ih _ (by rw [← hN]; exact hl) X' Y' rfl
end
end Go.Proofs.Ytnjjdpeglkiifaa.MX
