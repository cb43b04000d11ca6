/- Texts in one file: Sp7. -/
import Derived.Test.YtblalmgahfbalaaGreatK12

/- The library's sort, part 4: one put into many. -/
namespace Go.Proofs.YtblalmgahfbalaaGreat.MX
open Go Go.Proofs
set_option linter.unusedSimpArgs false
set_option linter.unusedVariables false
set_option maxHeartbeats 4000000
theorem Kmono {Kf : Int → Nat} {Y : List Int} (hs : Y.Pairwise (Rk Kf)) {i j : Nat} (hj : j < Y.length) (hij : i ≤ j) : Kf Y[j] ≤ Kf (Y[i]'(by omega)) := by
  by_cases e : i = j
  · subst e; exact Nat.le_refl _
  · have := List.pairwise_iff_getElem.1 hs i j (by omega) hj (by omega)
    unfold Rk at this
    omega
theorem mid64 {i j : Nat} (h : i + j < 9223372036854775808) : IntKind.i64.wrap (((i : Int) + j).fdiv (2 ^ min 1 64)) = (((i + j) / 2 : Nat) : Int) := by
  rw [show (2 : Int) ^ min 1 64 = 2 from rfl, Int.fdiv_eq_ediv_of_nonneg _ (by omega), show ((i : Int) + j) / 2 = (((i + j) / 2 : Nat) : Int) by omega]
  exact i64N (by omega)
/-- One put ahead of what has less left, or as much and stands behind it. -/
theorem put_sorted {Kf : Int → Nat} {Y : List Int} {x : Int} {p : Nat} (hs : Y.Pairwise (Rk Kf)) (h1 : ∀ y ∈ Y.take p, Rk Kf y x) (h2 : ∀ y ∈ Y.drop p, Rk Kf x y) : (Y.take p ++ x :: Y.drop p).Pairwise (Rk Kf) := by
  have h := hs
  rw [← List.take_append_drop p Y, List.pairwise_append] at h
  rw [List.pairwise_append, List.pairwise_cons]
  refine ⟨h.1, ⟨h2, h.2.1⟩, fun y hy z hz => ?_⟩
  rcases List.mem_cons.1 hz with rfl | hz
  · exact h1 y hy
  · exact h.2.2 y hy z hz
theorem mem_takeI {Y : List Int} {p : Nat} {y : Int} (h : y ∈ Y.take p) : ∃ i, ∃ hi : i < Y.length, i < p ∧ y = Y[i] := by
  obtain ⟨i, hi, rfl⟩ := List.mem_iff_getElem.1 h
  rw [List.length_take] at hi
  exact ⟨i, by omega, by omega, by rw [List.getElem_take]⟩
theorem mem_dropI {Y : List Int} {p : Nat} {y : Int} (h : y ∈ Y.drop p) : ∃ i, ∃ hi : i < Y.length, p ≤ i ∧ y = Y[i] := by
  obtain ⟨i, hi, rfl⟩ := List.mem_iff_getElem.1 h
  rw [List.length_drop] at hi
  exact ⟨p + i, by omega, by omega, by rw [List.getElem_drop]⟩
section
variable {h0 h : Heap} {l : List HP} {Kf : Int → Nat} {dom : Int → Prop} {fv : Value} {A : Option Addr} {n c : Nat}
/-- What the merge is to do. -/
def MergeS (fv : Value) (Kf : Int → Nat) (dom : Int → Prop) (h0 : Heap) (A : Option Addr) (n c : Nat) (l : List HP) (X Y : List Int) : Prop :=
  ∀ (L R : List Int) {h : Heap} {a m b : Nat}, n = (L ++ (X ++ (Y ++ R))).length → a = L.length → m = L.length + X.length → b = L.length + X.length + Y.length → 0 < X.length → 0 < Y.length → X.Pairwise (Rk Kf) → Y.Pairwise (Rk Kf) →
    (∀ x ∈ X, ∀ y ∈ Y, x < y) → (∀ x ∈ X, dom x) → (∀ y ∈ Y, dom y) → St h0 h (ownA zEnc 1 3 (.slice A n c) (L ++ (X ++ (Y ++ R))) :: l) →
    CallsH Tryz.prog 98 [.slice A n c, .int .i64 a, .int .i64 m, .int .i64 b, fv] h fun v h' => ∃ Z, Z.Perm (X ++ Y) ∧ Z.Pairwise (Rk Kf) ∧ St h0 h' (ownA zEnc 1 3 (.slice A n c) (L ++ (Z ++ R)) :: l)
theorem merge_one (hcmp : CmpS fv Kf dom h0 A n c l) (hs : n < 1000000) (x : Int) (Y : List Int) : MergeS fv Kf dom h0 A n c l [x] Y := by
  intro L R h a m b hn ha hm hb hX hY hXs hYs hXY hdX hdY S
  have hnl : n = L.length + (1 + (Y.length + R.length)) := by rw [hn]; simp only [List.length_append, List.length_cons, List.length_nil]
  simp only [List.length_cons, List.length_nil] at hm hb
  have hdx : dom x := hdX x (by simp)
  have hxY : ∀ y ∈ Y, x < y := hXY x (by simp)
  have S1 : St h0 h (ownA zEnc 1 3 (.slice A n c) (L ++ (x :: (Y ++ R))) :: l) := S
  clear S hX hXs hXY hdX hn
  have w1 := subI (a := m) (b := a) (c := 1) (by omega) (by omega)
  have cw : ((1 : Nat) : Int) = 1 := rfl
  rw [cw] at w1
  refine enterK c_slices_symMergeCmpFunc_int (Nat.le_of_ble_eq_true rfl) fun K hK => ?_
  (try simp (maxSteps := 1000000) (disch := first | omega | assumption | exact Nat.le_of_ble_eq_true rfl) only [go_sem, ↓mwp_block, simprocAttr, ir_slices_symMergeCmpFunc_int, w1])
  refine loop_intro (fun ρ h' => ρ 0 = .slice A n c ∧ ρ 1 = .int .i64 a ∧ ρ 4 = fv ∧ ∃ p q : Nat, ρ 10 = .int .i64 ((m + p : Nat) : Int) ∧ ρ 11 = .int .i64 ((m + q : Nat) : Int) ∧ p ≤ q ∧ q ≤ Y.length ∧ (∀ i (hi : i < Y.length), i + 1 = p → Kf x < Kf Y[i]) ∧ (∀ (hq : q < Y.length), ¬ Kf x < Kf Y[q]) ∧ St h0 h' (ownA zEnc 1 3 (.slice A n c) (L ++ (x :: (Y ++ R))) :: l)) (fun ρ _ => (iv (ρ 11)).toNat - (iv (ρ 10)).toNat) ?_ ?_
  · (try simp (maxSteps := 1000000) (disch := first | omega | assumption | exact Nat.le_of_ble_eq_true rfl) only [go_sem, ↓mwp_block, simprocAttr])
    exact ⟨0, Y.length, rfl, congrArg (Value.int .i64) (by omega), by omega, by omega, fun i hi h => by omega, fun h => by omega, S1⟩
  clear S1 w1
  rintro ρ h J hJ ⟨e0, e1, e4, p, q, e10, e11, hpq, hqY, hp, hq, S⟩
  (try simp (maxSteps := 1000000) (disch := first | omega | assumption | exact Nat.le_of_ble_eq_true rfl) only [go_sem, ↓mwp_block, simprocAttr, e10, e11])
  refine cond_dec (fun hlt => ?_) (fun hlt => ?_)
  · have hw := mid64 (i := m + p) (j := m + q) (by omega)
    obtain ⟨e, he⟩ : ∃ e, (m + p + (m + q)) / 2 = m + e := ⟨(m + p + (m + q)) / 2 - m, by omega⟩
    rw [he] at hw
    have hep : p ≤ e ∧ e < q := by omega
    have heY : e < Y.length := by omega
    have g1 : (L ++ (x :: (Y ++ R)))[m + e]? = some Y[e] := by
      rw [List.getElem?_append_right (by omega), show m + e - L.length = e + 1 by omega, List.getElem?_cons_succ, List.getElem?_append_left heY, List.getElem?_eq_getElem heY]
    have g2 : (L ++ (x :: (Y ++ R)))[a]? = some x := by
      rw [List.getElem?_append_right (by omega), show a - L.length = 0 by omega]; rfl
    obtain ⟨bk, rfl⟩ := S.ownAt (by simp only [List.length_append, List.length_cons]; omega)
    have rx : ∀ K u, readT (fun h' => St h0 h' (ownA zEnc 1 3 (.slice (some ⟨bk, 0, none⟩) n c) (L ++ (x :: (Y ++ R))) :: l)) (fun h' => rd1 h' (.pointer (some ⟨bk, (m + e) * 1, none⟩))) K u = bindT (some (.int .i64 Y[e])) K ⟨⟩ := fun K u => reads_of S fun h' s => own_rd s g1
    have ry : ∀ K u, readT (fun h' => St h0 h' (ownA zEnc 1 3 (.slice (some ⟨bk, 0, none⟩) n c) (L ++ (x :: (Y ++ R))) :: l)) (fun h' => rd1 h' (.pointer (some ⟨bk, a * 1, none⟩))) K u = bindT (some (.int .i64 x)) K ⟨⟩ := fun K u => reads_of S fun h' s => own_rd s g2
    (try simp (maxSteps := 1000000) (disch := first | omega | assumption | exact Nat.le_of_ble_eq_true rfl) only [go_sem, ↓mwp_block, simprocAttr, e10, e11, hw])
    refine draw_st S ?_
    (try simp (maxSteps := 1000000) (disch := first | omega | assumption | exact Nat.le_of_ble_eq_true rfl) only [go_sem, ↓mwp_block, simprocAttr, e0, e1, e4, rx, ry])
    refine hcmp Y[e] x (hdY _ (List.getElem_mem heY)) hdx S fun v h'' hv S => ?_
    (try simp (maxSteps := 1000000) (disch := first | omega | assumption | exact Nat.le_of_ble_eq_true rfl) only [go_sem, ↓mwp_block, simprocAttr])
    refine cond_dec (fun hc => ?_) (fun hc => ?_)
    · have w2 : IntKind.i64.wrap (((m + e : Nat) : Int) + 1) = ((m + (e + 1) : Nat) : Int) := addI (a := m + e) (b := 1) (by omega) (by omega)
      (try simp (maxSteps := 1000000) (disch := first | omega | assumption | exact Nat.le_of_ble_eq_true rfl) only [go_sem, ↓mwp_block, simprocAttr, w2])
      refine hJ _ _ ?_ ?_
      · (try simp (maxSteps := 1000000) (disch := first | omega | assumption | exact Nat.le_of_ble_eq_true rfl) only [go_sem, ↓mwp_block, simprocAttr, e0, e1, e4, e11])
        exact ⟨e + 1, q, rfl, rfl, by omega, hqY, fun i hi h => by obtain rfl : i = e := by omega
                                                                   exact hv.1 hc, hq, S⟩
      · (try simp (maxSteps := 1000000) (disch := first | omega | assumption | exact Nat.le_of_ble_eq_true rfl) only [go_sem, ↓mwp_block, simprocAttr, e10, e11])
        omega
    · (try simp (maxSteps := 1000000) (disch := first | omega | assumption | exact Nat.le_of_ble_eq_true rfl) only [go_sem, ↓mwp_block, simprocAttr])
      refine hJ _ _ ?_ ?_
      · (try simp (maxSteps := 1000000) (disch := first | omega | assumption | exact Nat.le_of_ble_eq_true rfl) only [go_sem, ↓mwp_block, simprocAttr, e0, e1, e4, e10])
        exact ⟨p, e, rfl, rfl, by omega, by omega, hp, fun h hx => hc (hv.2 hx), S⟩
      · (try simp (maxSteps := 1000000) (disch := first | omega | assumption | exact Nat.le_of_ble_eq_true rfl) only [go_sem, ↓mwp_block, simprocAttr, e10, e11])
        omega
  · obtain rfl : p = q := by omega
    have w2 : IntKind.i64.wrap (((m + p : Nat) : Int) - 1) = ((a + p : Nat) : Int) := subI (a := m + p) (b := 1) (c := a + p) (by omega) (by omega)
    (try simp (maxSteps := 1000000) (disch := first | omega | assumption | exact Nat.le_of_ble_eq_true rfl) only [go_sem, ↓mwp_block, simprocAttr, e1, e10])
    refine loop_intro (fun ρ' h' => ρ' 0 = .slice A n c ∧ ρ' 10 = .int .i64 ((m + p : Nat) : Int) ∧ ∃ s : Nat, ρ' 13 = .int .i64 ((a + s : Nat) : Int) ∧ s ≤ p ∧ St h0 h' (ownA zEnc 1 3 (.slice A n c) (L ++ (Y.take s ++ (x :: (Y.drop s ++ R)))) :: l)) (fun ρ' _ => p - ((iv (ρ' 13)).toNat - a)) ?_ ?_
    · (try simp (maxSteps := 1000000) (disch := first | omega | assumption | exact Nat.le_of_ble_eq_true rfl) only [go_sem, ↓mwp_block, simprocAttr, e0, e10])
      exact ⟨0, rfl, by omega, S⟩
    · clear S e0 e1 e4 e10 e11 hJ
      rintro ρ1 h1 J1 hJ1 ⟨e0, e10, s, e13, hsp, S⟩
      (try simp (maxSteps := 1000000) (disch := first | omega | assumption | exact Nat.le_of_ble_eq_true rfl) only [go_sem, ↓mwp_block, simprocAttr, e13, e10, w2])
      refine cond_dec (fun hlt => ?_) (fun hlt => ?_)
      · have hsY : s < Y.length := by omega
        have hD : L ++ (Y.take s ++ (x :: (Y.drop s ++ R))) = (L ++ Y.take s) ++ x :: ([] ++ Y[s] :: (Y.drop (s + 1) ++ R)) := by
          rw [List.drop_eq_getElem_cons hsY]
          simp only [List.append_assoc, List.cons_append, List.nil_append]
        have hD2 : (L ++ Y.take s) ++ Y[s] :: ([] ++ x :: (Y.drop (s + 1) ++ R)) = L ++ (Y.take (s + 1) ++ (x :: (Y.drop (s + 1) ++ R))) := by
          rw [List.take_succ_eq_append_getElem hsY]
          simp only [List.append_assoc, List.cons_append, List.nil_append]
        obtain ⟨g1, g2, g3, _⟩ := swap_list (L ++ Y.take s) [] (Y.drop (s + 1) ++ R) x Y[s]
        have hl1 : (L ++ Y.take s).length = a + s := by rw [List.length_append, List.length_take]; omega
        have hl2 : (L ++ Y.take s).length + 1 + ([] : List Int).length = a + s + 1 := by rw [hl1, List.length_nil]
        have hDl : (L ++ (Y.take s ++ (x :: (Y.drop s ++ R)))).length = a + s + 1 + 1 + ((Y.length - (s + 1)) + R.length) := by simp only [List.length_append, List.length_cons, List.length_take, List.length_drop]; omega
        rw [← hD, hl1] at g1
        rw [← hD, hl2] at g2
        rw [← hD, hl2, hl1, hD2] at g3
        obtain ⟨bk, rfl⟩ := S.ownAt (by rw [hDl]; omega)
        have r1 := own_rd S g1
        have r2 := own_rd S g2
        have w3 : IntKind.i64.wrap (((a + s : Nat) : Int) + 1) = ((a + s + 1 : Nat) : Int) := addI (a := a + s) (b := 1) (by omega) (by omega)
        (try simp (maxSteps := 1000000) (disch := first | omega | assumption | exact Nat.le_of_ble_eq_true rfl) only [go_sem, ↓mwp_block, simprocAttr])
        refine draw_eq ?_
        (try simp (maxSteps := 1000000) (disch := first | omega | assumption | exact Nat.le_of_ble_eq_true rfl) only [go_sem, ↓mwp_block, simprocAttr, e0, e13, w3, r1, r2])
        refine st_setOwn (i := a + s) (x := Y[s]) zEnc_len S (by rw [hDl]; omega) rfl rfl rfl rfl ?_
        clear S r1 r2
        intro h S
        (try simp (maxSteps := 1000000) (disch := first | omega | assumption | exact Nat.le_of_ble_eq_true rfl) only [go_sem, ↓mwp_block, simprocAttr])
        refine st_setOwn (i := a + s + 1) (x := x) zEnc_len S (by rw [List.length_set, hDl]; omega) rfl rfl rfl rfl ?_
        clear S
        intro h S
        rw [g3] at S
        (try simp (maxSteps := 1000000) (disch := first | omega | assumption | exact Nat.le_of_ble_eq_true rfl) only [go_sem, ↓mwp_block, simprocAttr, e13, w3])
        refine hJ1 _ _ ?_ ?_
        · (try simp (maxSteps := 1000000) (disch := first | omega | assumption | exact Nat.le_of_ble_eq_true rfl) only [go_sem, ↓mwp_block, simprocAttr, e0, e10])
          exact ⟨s + 1, rfl, by omega, S⟩
        · (try simp (maxSteps := 1000000) (disch := first | omega | assumption | exact Nat.le_of_ble_eq_true rfl) only [go_sem, ↓mwp_block, simprocAttr, e13])
          omega
      · obtain rfl : s = p := by omega
        (try simp (maxSteps := 1000000) (disch := first | omega | assumption | exact Nat.le_of_ble_eq_true rfl) only [go_sem, ↓mwp_block, simprocAttr])
        refine hK _ _ ⟨Y.take s ++ x :: Y.drop s, ?_, put_sorted hYs (fun y hy => ?_) (fun y hy => ?_), ?_⟩
        · have := List.perm_middle (a := x) (l₁ := Y.take s) (l₂ := Y.drop s)
          rwa [List.take_append_drop] at this
        · obtain ⟨i, hi, his, rfl⟩ := mem_takeI hy
          have h1 := hp (s - 1) (by omega) (by omega)
          have h2 := Kmono (Kf := Kf) hYs (i := i) (j := s - 1) (by omega) (by omega)
          exact .inl (by omega)
        · obtain ⟨i, hi, his, rfl⟩ := mem_dropI hy
          have h1 := hq (by omega)
          have h2 := Kmono (Kf := Kf) hYs (i := s) (j := i) hi his
          have h3 := hxY _ (List.getElem_mem hi)
          unfold Rk
          omega
        · simpa only [List.append_assoc, List.cons_append] using S
theorem merge_last (hcmp : CmpS fv Kf dom h0 A n c l) (hs : n < 1000000) (X : List Int) (y : Int) (hX2 : X.length ≠ 1) : MergeS fv Kf dom h0 A n c l X [y] := by
  intro L R h a m b hn ha hm hb hX hY hXs hYs hXY hdX hdY S
  have hnl : n = L.length + (X.length + (1 + R.length)) := by rw [hn]; simp only [List.length_append, List.length_cons, List.length_nil]
  simp only [List.length_cons, List.length_nil] at hb
  have hdy : dom y := hdY y (by simp)
  have hxY : ∀ x ∈ X, x < y := fun x hx => hXY x hx y (by simp)
  have S1 : St h0 h (ownA zEnc 1 3 (.slice A n c) (L ++ (X ++ (y :: R))) :: l) := S
  clear S hY hYs hXY hdY hn
  have w0 := subI (a := m) (b := a) (c := X.length) (by omega) (by omega)
  have w1 := subI (a := b) (b := m) (c := 1) (by omega) (by omega)
  have cw : ((1 : Nat) : Int) = 1 := rfl
  rw [cw] at w1
  have hX2' : ¬ (X.length : Int) = 1 := by omega
  refine enterK c_slices_symMergeCmpFunc_int (Nat.le_of_ble_eq_true rfl) fun K hK => ?_
  (try simp (maxSteps := 1000000) (disch := first | omega | assumption | exact Nat.le_of_ble_eq_true rfl) only [go_sem, ↓mwp_block, simprocAttr, ir_slices_symMergeCmpFunc_int, w0, w1, hX2'])
  refine loop_intro (fun ρ h' => ρ 0 = .slice A n c ∧ ρ 2 = .int .i64 m ∧ ρ 4 = fv ∧ ∃ p q : Nat, ρ 14 = .int .i64 ((a + p : Nat) : Int) ∧ ρ 15 = .int .i64 ((a + q : Nat) : Int) ∧ p ≤ q ∧ q ≤ X.length ∧ (∀ i (hi : i < X.length), i + 1 = p → ¬ Kf X[i] < Kf y) ∧ (∀ (hq : q < X.length), Kf X[q] < Kf y) ∧ St h0 h' (ownA zEnc 1 3 (.slice A n c) (L ++ (X ++ (y :: R))) :: l)) (fun ρ _ => (iv (ρ 15)).toNat - (iv (ρ 14)).toNat) ?_ ?_
  · (try simp (maxSteps := 1000000) (disch := first | omega | assumption | exact Nat.le_of_ble_eq_true rfl) only [go_sem, ↓mwp_block, simprocAttr])
    exact ⟨0, X.length, rfl, congrArg (Value.int .i64) (by omega), by omega, by omega, fun i hi h => by omega, fun h => by omega, S1⟩
  clear S1 w0 w1
  rintro ρ h J hJ ⟨e0, e2, e4, p, q, e14, e15, hpq, hqX, hp, hq, S⟩
  (try simp (maxSteps := 1000000) (disch := first | omega | assumption | exact Nat.le_of_ble_eq_true rfl) only [go_sem, ↓mwp_block, simprocAttr, e14, e15])
  refine cond_dec (fun hlt => ?_) (fun hlt => ?_)
  · have hw := mid64 (i := a + p) (j := a + q) (by omega)
    obtain ⟨e, he⟩ : ∃ e, (a + p + (a + q)) / 2 = a + e := ⟨(a + p + (a + q)) / 2 - a, by omega⟩
    rw [he] at hw
    have hep : p ≤ e ∧ e < q := by omega
    have heX : e < X.length := by omega
    have g1 : (L ++ (X ++ (y :: R)))[a + e]? = some X[e] := by
      rw [List.getElem?_append_right (by omega), show a + e - L.length = e by omega, List.getElem?_append_left heX, List.getElem?_eq_getElem heX]
    have g2 : (L ++ (X ++ (y :: R)))[m]? = some y := by
      rw [List.getElem?_append_right (by omega), show m - L.length = X.length by omega, List.getElem?_append_right (by omega), Nat.sub_self]; rfl
    obtain ⟨bk, rfl⟩ := S.ownAt (by simp only [List.length_append, List.length_cons]; omega)
    have rx : ∀ K u, readT (fun h' => St h0 h' (ownA zEnc 1 3 (.slice (some ⟨bk, 0, none⟩) n c) (L ++ (X ++ (y :: R))) :: l)) (fun h' => rd1 h' (.pointer (some ⟨bk, (a + e) * 1, none⟩))) K u = bindT (some (.int .i64 X[e])) K ⟨⟩ := fun K u => reads_of S fun h' s => own_rd s g1
    have ry : ∀ K u, readT (fun h' => St h0 h' (ownA zEnc 1 3 (.slice (some ⟨bk, 0, none⟩) n c) (L ++ (X ++ (y :: R))) :: l)) (fun h' => rd1 h' (.pointer (some ⟨bk, m * 1, none⟩))) K u = bindT (some (.int .i64 y)) K ⟨⟩ := fun K u => reads_of S fun h' s => own_rd s g2
    (try simp (maxSteps := 1000000) (disch := first | omega | assumption | exact Nat.le_of_ble_eq_true rfl) only [go_sem, ↓mwp_block, simprocAttr, e14, e15, hw])
    refine draw_st S ?_
    (try simp (maxSteps := 1000000) (disch := first | omega | assumption | exact Nat.le_of_ble_eq_true rfl) only [go_sem, ↓mwp_block, simprocAttr, e0, e2, e4, rx, ry])
    refine hcmp y X[e] hdy (hdX _ (List.getElem_mem heX)) S fun v h'' hv S => ?_
    by_cases hc : v < 0
    · have hd := dcd_true hc
      (try simp (maxSteps := 1000000) (disch := first | omega | assumption | exact Nat.le_of_ble_eq_true rfl) only [go_sem, ↓mwp_block, simprocAttr, hd, Bool.not_true])
      refine hJ _ _ ?_ ?_
      · (try simp (maxSteps := 1000000) (disch := first | omega | assumption | exact Nat.le_of_ble_eq_true rfl) only [go_sem, ↓mwp_block, simprocAttr, e0, e2, e4, e14])
        exact ⟨p, e, rfl, rfl, by omega, by omega, hp, fun h => hv.1 hc, S⟩
      · (try simp (maxSteps := 1000000) (disch := first | omega | assumption | exact Nat.le_of_ble_eq_true rfl) only [go_sem, ↓mwp_block, simprocAttr, e14, e15])
        omega
    · have hd := dcd_false hc
      have w2 : IntKind.i64.wrap (((a + e : Nat) : Int) + 1) = ((a + (e + 1) : Nat) : Int) := addI (a := a + e) (b := 1) (by omega) (by omega)
      (try simp (maxSteps := 1000000) (disch := first | omega | assumption | exact Nat.le_of_ble_eq_true rfl) only [go_sem, ↓mwp_block, simprocAttr, hd, Bool.not_false, w2])
      refine hJ _ _ ?_ ?_
      · (try simp (maxSteps := 1000000) (disch := first | omega | assumption | exact Nat.le_of_ble_eq_true rfl) only [go_sem, ↓mwp_block, simprocAttr, e0, e2, e4, e15])
        exact ⟨e + 1, q, rfl, rfl, by omega, hqX, fun i hi h hx => by obtain rfl : i = e := by omega
                                                                      exact hc (hv.2 hx), hq, S⟩
      · (try simp (maxSteps := 1000000) (disch := first | omega | assumption | exact Nat.le_of_ble_eq_true rfl) only [go_sem, ↓mwp_block, simprocAttr, e14, e15])
        omega
  · obtain rfl : p = q := by omega
    (try simp (maxSteps := 1000000) (disch := first | omega | assumption | exact Nat.le_of_ble_eq_true rfl) only [go_sem, ↓mwp_block, simprocAttr, e2, e14])
    refine loop_intro (fun ρ' h' => ρ' 0 = .slice A n c ∧ ρ' 14 = .int .i64 ((a + p : Nat) : Int) ∧ ∃ s : Nat, ρ' 17 = .int .i64 ((a + s : Nat) : Int) ∧ p ≤ s ∧ s ≤ X.length ∧ St h0 h' (ownA zEnc 1 3 (.slice A n c) (L ++ (X.take s ++ (y :: (X.drop s ++ R)))) :: l)) (fun ρ' _ => (iv (ρ' 17)).toNat) ?_ ?_
    · (try simp (maxSteps := 1000000) (disch := first | omega | assumption | exact Nat.le_of_ble_eq_true rfl) only [go_sem, ↓mwp_block, simprocAttr, e0, e14])
      refine ⟨X.length, congrArg (Value.int .i64) (by omega), by omega, by omega, ?_⟩
      rw [List.take_length, List.drop_length]
      exact S
    · clear S e0 e2 e4 e14 e15 hJ
      rintro ρ1 h1 J1 hJ1 ⟨e0, e14, s, e17, hps, hsX, S⟩
      (try simp (maxSteps := 1000000) (disch := first | omega | assumption | exact Nat.le_of_ble_eq_true rfl) only [go_sem, ↓mwp_block, simprocAttr, e17, e14])
      refine cond_dec (fun hlt => ?_) (fun hlt => ?_)
      · obtain ⟨s, rfl⟩ : ∃ t, s = t + 1 := ⟨s - 1, by omega⟩
        have htl : s < X.length := by omega
        have hD : L ++ (X.take (s + 1) ++ (y :: (X.drop (s + 1) ++ R))) = (L ++ X.take s) ++ X[s] :: ([] ++ y :: (X.drop (s + 1) ++ R)) := by
          rw [List.take_succ_eq_append_getElem htl]
          simp only [List.append_assoc, List.cons_append, List.nil_append]
        have hD2 : (L ++ X.take s) ++ y :: ([] ++ X[s] :: (X.drop (s + 1) ++ R)) = L ++ (X.take s ++ (y :: (X.drop s ++ R))) := by
          rw [List.drop_eq_getElem_cons htl]
          simp only [List.append_assoc, List.cons_append, List.nil_append]
        obtain ⟨g1, g2, _, g4⟩ := swap_list (L ++ X.take s) [] (X.drop (s + 1) ++ R) X[s] y
        have hl1 : (L ++ X.take s).length = a + s := by rw [List.length_append, List.length_take]; omega
        have hl2 : (L ++ X.take s).length + 1 + ([] : List Int).length = a + (s + 1) := by rw [hl1, List.length_nil]; omega
        have hDl : (L ++ (X.take (s + 1) ++ (y :: (X.drop (s + 1) ++ R)))).length = a + (s + 1) + 1 + ((X.length - (s + 1)) + R.length) := by simp only [List.length_append, List.length_cons, List.length_take, List.length_drop]; omega
        rw [← hD, hl1] at g1
        rw [← hD, hl2] at g2
        rw [← hD, hl2, hl1, hD2] at g4
        obtain ⟨bk, rfl⟩ := S.ownAt (by rw [hDl]; omega)
        have r1 := own_rd S g1
        have r2 := own_rd S g2
        have w3 : IntKind.i64.wrap (((a + (s + 1) : Nat) : Int) - 1) = ((a + s : Nat) : Int) := subI (a := a + (s + 1)) (b := 1) (c := a + s) (by omega) (by omega)
        (try simp (maxSteps := 1000000) (disch := first | omega | assumption | exact Nat.le_of_ble_eq_true rfl) only [go_sem, ↓mwp_block, simprocAttr])
        refine draw_eq ?_
        (try simp (maxSteps := 1000000) (disch := first | omega | assumption | exact Nat.le_of_ble_eq_true rfl) only [go_sem, ↓mwp_block, simprocAttr, e0, e17, w3, r1, r2])
        refine st_setOwn (i := a + (s + 1)) (x := X[s]) zEnc_len S (by rw [hDl]; omega) rfl rfl rfl rfl ?_
        clear S r1 r2
        intro h S
        (try simp (maxSteps := 1000000) (disch := first | omega | assumption | exact Nat.le_of_ble_eq_true rfl) only [go_sem, ↓mwp_block, simprocAttr])
        refine st_setOwn (i := a + s) (x := y) zEnc_len S (by rw [List.length_set, hDl]; omega) rfl rfl rfl rfl ?_
        clear S
        intro h S
        rw [g4] at S
        (try simp (maxSteps := 1000000) (disch := first | omega | assumption | exact Nat.le_of_ble_eq_true rfl) only [go_sem, ↓mwp_block, simprocAttr, e17, w3])
        refine hJ1 _ _ ?_ ?_
        · (try simp (maxSteps := 1000000) (disch := first | omega | assumption | exact Nat.le_of_ble_eq_true rfl) only [go_sem, ↓mwp_block, simprocAttr, e0, e14])
          exact ⟨s, rfl, by omega, by omega, S⟩
        · (try simp (maxSteps := 1000000) (disch := first | omega | assumption | exact Nat.le_of_ble_eq_true rfl) only [go_sem, ↓mwp_block, simprocAttr, e17])
          omega
      · obtain rfl : s = p := by omega
        (try simp (maxSteps := 1000000) (disch := first | omega | assumption | exact Nat.le_of_ble_eq_true rfl) only [go_sem, ↓mwp_block, simprocAttr])
        refine hK _ _ ⟨X.take s ++ y :: X.drop s, ?_, put_sorted hXs (fun x hx => ?_) (fun x hx => ?_), ?_⟩
        · have := List.perm_middle (a := y) (l₁ := X.take s) (l₂ := X.drop s)
          rw [List.take_append_drop] at this
          exact this.trans (List.perm_append_comm (l₁ := [y]))
        · obtain ⟨i, hi, his, rfl⟩ := mem_takeI hx
          have h1 := hp (s - 1) (by omega) (by omega)
          have h2 := Kmono (Kf := Kf) hXs (i := i) (j := s - 1) (by omega) (by omega)
          have h3 := hxY _ (List.getElem_mem hi)
          unfold Rk
          omega
        · obtain ⟨i, hi, his, rfl⟩ := mem_dropI hx
          have h1 := hq (by omega)
          have h2 := Kmono (Kf := Kf) hXs (i := s) (j := i) hi his
          exact .inl (by omega)
        · simpa only [List.append_assoc, List.cons_append] using S
end
end Go.Proofs.YtblalmgahfbalaaGreat.MX
