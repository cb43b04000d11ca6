/- Texts in one file: Sp5, Sp6. -/
import Derived.Test.YtblalmgahfbalaaGreatK11

/- The library's sort, part 2: a rotation. -/
namespace Go.Proofs.YtblalmgahfbalaaGreat.MX
open Go Go.Proofs
set_option linter.unusedSimpArgs false
set_option linter.unusedVariables false
set_option maxHeartbeats 4000000
section
variable {h0 h : Heap} {l : List HP}
theorem rotate_ok {A : Option Addr} {c : Nat} {fv : Value} (L X Y R : List Int) {n a m b : Nat} (hn : n = (L ++ (X ++ (Y ++ R))).length) (ha : a = L.length) (hm : m = L.length + X.length) (hb : b = m + Y.length) (hX : 0 < X.length) (hY : 0 < Y.length) (hs : n < 1000000)
    (S : St h0 h (ownA zEnc 1 3 (.slice A n c) (L ++ (X ++ (Y ++ R))) :: l)) :
    CallsH Tryz.prog 99 [.slice A n c, .int .i64 a, .int .i64 m, .int .i64 b, fv] h fun v h' => St h0 h' (ownA zEnc 1 3 (.slice A n c) (L ++ (Y ++ (X ++ R))) :: l) := by
  have hnl : n = L.length + (X.length + (Y.length + R.length)) := by rw [hn]; simp only [List.length_append]
  have w1 := subI (a := m) (b := a) (c := X.length) (by omega) (by omega)
  have w2 := subI (a := b) (b := m) (c := Y.length) (by omega) (by omega)
  refine enterK c_slices_rotateCmpFunc_int (Nat.le_of_ble_eq_true rfl) fun K hK => ?_
  (try simp (maxSteps := 1000000) (disch := first | omega | assumption | exact Nat.le_of_ble_eq_true rfl) only [go_sem, ↓mwp_block, simprocAttr, ir_slices_rotateCmpFunc_int, w1, w2])
  refine loop_intro (fun ρ h' => ρ 0 = .slice A n c ∧ ρ 2 = .int .i64 m ∧ ρ 4 = fv ∧ ∃ L' P Q R' : List Int, ρ 10 = .int .i64 P.length ∧ ρ 11 = .int .i64 Q.length ∧ 0 < P.length ∧ 0 < Q.length ∧ m = L'.length + P.length ∧ n = (L' ++ (P ++ (Q ++ R'))).length ∧ L' ++ (Q ++ (P ++ R')) = L ++ (Y ++ (X ++ R)) ∧ St h0 h' (ownA zEnc 1 3 (.slice A n c) (L' ++ (P ++ (Q ++ R'))) :: l)) (fun ρ _ => (iv (ρ 10)).toNat + (iv (ρ 11)).toNat) ?_ ?_
  · (try simp (maxSteps := 1000000) (disch := first | omega | assumption | exact Nat.le_of_ble_eq_true rfl) only [go_sem, ↓mwp_block, simprocAttr])
    exact ⟨L, X, Y, R, rfl, rfl, hX, hY, hm, hn, rfl, S⟩
  · clear S w1 w2
    rintro ρ h J hJ ⟨e0, e2, e4, L', P, Q, R', e10, e11, hP, hQ, hm', hn', ht, S⟩
    have hnl' : n = L'.length + (P.length + (Q.length + R'.length)) := by rw [hn']; simp only [List.length_append]
    have w1 := subI (a := m) (b := P.length) (c := L'.length) (by omega) (by omega)
    by_cases heq : (P.length : Int) = Q.length
    case neg =>
      (try simp (maxSteps := 1000000) (disch := first | omega | assumption | exact Nat.le_of_ble_eq_true rfl) only [go_sem, ↓mwp_block, simprocAttr, e10, e11, heq])
      by_cases hgt : (Q.length : Int) < P.length
      · have w2 := subI (a := P.length) (b := Q.length) (c := P.length - Q.length) (by omega) (by omega)
        have hsp : P = P.take Q.length ++ P.drop Q.length := (List.take_append_drop _ _).symm
        have hl1 : (P.take Q.length).length = Q.length := by rw [List.length_take]; omega
        have hl2 : (P.drop Q.length).length = P.length - Q.length := List.length_drop
        (try simp (maxSteps := 1000000) (disch := first | omega | assumption | exact Nat.le_of_ble_eq_true rfl) only [go_sem, ↓mwp_block, simprocAttr, e0, e2, e4, e10, e11, hgt, w1])
        rw [← hl2] at w2
        generalize P.take Q.length = P1 at hsp hl1
        generalize P.drop Q.length = P2 at hsp hl2 w2
        subst hsp
        rw [List.append_assoc] at S
        refine call_intro (swapRange_ok L' P1 P2 Q R' hl1 (by rw [hn', List.append_assoc]) rfl (by rw [hm', List.length_append]; omega) hs hl1.symm S) ?_
        clear S
        intro _ h S
        (try simp (maxSteps := 1000000) (disch := first | omega | assumption | exact Nat.le_of_ble_eq_true rfl) only [go_sem, ↓mwp_block, simprocAttr, e10, e11, w2])
        refine hJ _ _ ?_ ?_
        · (try simp (maxSteps := 1000000) (disch := first | omega | assumption | exact Nat.le_of_ble_eq_true rfl) only [go_sem, ↓mwp_block, simprocAttr, e0, e2, e4])
          refine ⟨L' ++ Q, P2, P1, R', rfl, by rw [hl1, e11], by simp only [List.length_append] at *; omega, by omega, by simp only [List.length_append] at *; omega, by simp only [List.length_append] at *; omega, ?_, ?_⟩
          · rw [← ht]; simp only [List.append_assoc]
          · rw [List.append_assoc]; exact S
        · (try simp (maxSteps := 1000000) (disch := first | omega | assumption | exact Nat.le_of_ble_eq_true rfl) only [go_sem, ↓mwp_block, simprocAttr, e10, e11])
          simp only [List.length_append] at *
          omega
      · have hlt : P.length < Q.length := by omega
        have w2 := subI (a := Q.length) (b := P.length) (c := Q.length - P.length) (by omega) (by omega)
        have w3 := addI (a := m) (b := Q.length) rfl (by omega)
        have w4 := subI (a := m + Q.length) (b := P.length) (c := m + (Q.length - P.length)) (by omega) (by omega)
        have hsp : Q = Q.take (Q.length - P.length) ++ Q.drop (Q.length - P.length) := (List.take_append_drop _ _).symm
        have hl1 : (Q.take (Q.length - P.length)).length = Q.length - P.length := by rw [List.length_take]; omega
        have hl2 : (Q.drop (Q.length - P.length)).length = P.length := by rw [List.length_drop]; omega
        (try simp (maxSteps := 1000000) (disch := first | omega | assumption | exact Nat.le_of_ble_eq_true rfl) only [go_sem, ↓mwp_block, simprocAttr, e0, e2, e4, e10, e11, hgt, w1, w3, w4])
        rw [← hl1] at w2
        generalize hQ1 : Q.take (Q.length - P.length) = Q1 at hsp hl1 w2
        generalize hQ2 : Q.drop (Q.length - P.length) = Q2 at hsp hl2
        have hbl : m + (Q.length - P.length) = L'.length + P.length + Q1.length := by omega
        rw [hbl]
        have S2 := S
        rw [hsp, List.append_assoc] at S2
        refine call_intro (swapRange_ok L' P Q1 Q2 R' hl2.symm (by rw [hn', hsp, List.append_assoc]) rfl rfl hs rfl S2) ?_
        clear S S2
        intro _ h S
        (try simp (maxSteps := 1000000) (disch := first | omega | assumption | exact Nat.le_of_ble_eq_true rfl) only [go_sem, ↓mwp_block, simprocAttr, e10, e11, w2])
        refine hJ _ _ ?_ ?_
        · (try simp (maxSteps := 1000000) (disch := first | omega | assumption | exact Nat.le_of_ble_eq_true rfl) only [go_sem, ↓mwp_block, simprocAttr, e0, e2, e4, e10])
          refine ⟨L', Q2, Q1, P ++ R', by rw [hl2], rfl, by omega, by omega, by omega, by simp only [List.length_append] at *; omega, ?_, S⟩
          rw [← ht, hsp]; simp only [List.append_assoc]
        · (try simp (maxSteps := 1000000) (disch := first | omega | assumption | exact Nat.le_of_ble_eq_true rfl) only [go_sem, ↓mwp_block, simprocAttr, e10, e11])
          omega
    case pos =>
      have heq' : P.length = Q.length := by omega
      have hd := dcd_true heq
      (try simp (maxSteps := 1000000) (disch := first | omega | assumption | exact Nat.le_of_ble_eq_true rfl) only [go_sem, ↓mwp_block, simprocAttr, e0, e2, e4, e10, e11, hd, w1, Bool.not_true])
      have S0 : St h0 h (ownA zEnc 1 3 (.slice A n c) (L' ++ (P ++ ([] ++ (Q ++ R')))) :: l) := S
      have hc := swapRange_ok (fv := fv) L' P [] Q R' heq' hn' rfl (show m = L'.length + P.length + 0 from hm') hs rfl S0
      refine call_intro hc ?_
      clear S
      intro _ h S
      (try simp (maxSteps := 1000000) (disch := first | omega | assumption | exact Nat.le_of_ble_eq_true rfl) only [go_sem, ↓mwp_block, simprocAttr])
      rw [List.nil_append, ht] at S
      exact hK _ _ S
end
end Go.Proofs.YtblalmgahfbalaaGreat.MX

/- The library's sort, part 3: the order, and the sort by insertion. -/
namespace Go.Proofs.YtblalmgahfbalaaGreat.MX
open Go Go.Proofs
set_option linter.unusedSimpArgs false
set_option linter.unusedVariables false
set_option maxHeartbeats 4000000
/-- Ahead: more is left, or as much and an earlier number. -/
def Rk (Kf : Int → Nat) (x y : Int) : Prop := Kf y < Kf x ∨ (Kf x = Kf y ∧ x < y)
theorem Rk.trans {Kf : Int → Nat} {x y z : Int} (h1 : Rk Kf x y) (h2 : Rk Kf y z) : Rk Kf x z := by
  unfold Rk at *
  omega
def CmpS (fv : Value) (Kf : Int → Nat) (dom : Int → Prop) (h0 : Heap) (A : Option Addr) (n c : Nat) (l : List HP) : Prop :=
  ∀ {h' : Heap} {D : List Int} {K : Value → Heap → Prop} {s : Tag h'} {t : Tag K} (a b : Int), dom a → dom b → St h0 h' (ownA zEnc 1 3 (.slice A n c) D :: l) →
    (∀ (v : Int) (h'' : Heap), (v < 0 ↔ Kf b < Kf a) → St h0 h'' (ownA zEnc 1 3 (.slice A n c) D :: l) → K (.int .i64 v) h'') → callvT Tryz.prog fv [.int .i64 a, .int .i64 b] h' K s t
section
variable {h0 h : Heap} {l : List HP} {Kf : Int → Nat} {dom : Int → Prop} {fv : Value} {A : Option Addr} {n c : Nat}
theorem insSort_ok (hcmp : CmpS fv Kf dom h0 A n c l) (L M R : List Int) {a b : Nat} (hn : n = (L ++ (M ++ R)).length) (ha : a = L.length) (hb : b = L.length + M.length) (hs : n < 1000000) (hM : M.Pairwise (· < ·)) (hd : ∀ x ∈ M, dom x)
    (S : St h0 h (ownA zEnc 1 3 (.slice A n c) (L ++ (M ++ R)) :: l)) :
    CallsH Tryz.prog 97 [.slice A n c, .int .i64 a, .int .i64 b, fv] h fun v h' => ∃ M', M'.Perm M ∧ M'.Pairwise (Rk Kf) ∧ St h0 h' (ownA zEnc 1 3 (.slice A n c) (L ++ (M' ++ R)) :: l) := by
  have hnl : n = L.length + (M.length + R.length) := by rw [hn]; simp only [List.length_append]
  have w1 : IntKind.i64.wrap ((a : Int) + 1) = ((a + 1 : Nat) : Int) := addI (a := a) (b := 1) rfl (by omega)
  refine enterK c_slices_insertionSortCmpFunc_int (Nat.le_of_ble_eq_true rfl) fun K hK => ?_
  (try simp (maxSteps := 1000000) (disch := first | omega | assumption | exact Nat.le_of_ble_eq_true rfl) only [go_sem, ↓mwp_block, simprocAttr, ir_slices_insertionSortCmpFunc_int, w1])
  refine loop_intro (fun ρ h' => ρ 0 = .slice A n c ∧ ρ 1 = .int .i64 a ∧ ρ 2 = .int .i64 b ∧ ρ 3 = fv ∧ ∃ (k : Nat) (Ms : List Int), ρ 8 = .int .i64 ((a + k : Nat) : Int) ∧ 1 ≤ k ∧ k ≤ M.length + 1 ∧ Ms.Perm (M.take k) ∧ Ms.Pairwise (Rk Kf) ∧ St h0 h' (ownA zEnc 1 3 (.slice A n c) (L ++ (Ms ++ (M.drop k ++ R))) :: l)) (fun ρ _ => b - (iv (ρ 8)).toNat) ?_ ?_
  · (try simp (maxSteps := 1000000) (disch := first | omega | assumption | exact Nat.le_of_ble_eq_true rfl) only [go_sem, ↓mwp_block, simprocAttr])
    refine ⟨1, M.take 1, rfl, by omega, by omega, .refl _, ?_, ?_⟩
    · cases M with
      | nil => simp
      | cons x M => simp
    · rw [← List.append_assoc (M.take 1), List.take_append_drop]
      exact S
  · clear S
    rintro ρ h J hJ ⟨e0, e1, e2, e3, k, Ms, e8, hk1, hk2, hp, hso, S⟩
    (try simp (maxSteps := 1000000) (disch := first | omega | assumption | exact Nat.le_of_ble_eq_true rfl) only [go_sem, ↓mwp_block, simprocAttr, e8, e2])
    refine cond_dec (fun hlt => ?_) (fun hlt => ?_)
    · have hkM : k < M.length := by omega
      have hMsl : Ms.length = k := by rw [hp.length_eq, List.length_take]; omega
      have hxd : dom M[k] := hd _ (List.getElem_mem hkM)
      have hmem : ∀ y ∈ Ms, dom y ∧ y < M[k] := by
        intro y hy
        have hy' := hp.mem_iff.1 hy
        obtain ⟨j, hj, rfl⟩ := List.mem_iff_getElem.1 hy'
        rw [List.length_take] at hj
        rw [List.getElem_take]
        exact ⟨hd _ (List.getElem_mem _), List.pairwise_iff_getElem.1 hM j k (by omega) hkM (by omega)⟩
      rw [List.drop_eq_getElem_cons hkM] at S
      generalize hx : M[k] = x at S hxd hmem
      generalize hMd : M.drop (k + 1) = Mu at S
      (try simp (maxSteps := 1000000) (disch := first | omega | assumption | exact Nat.le_of_ble_eq_true rfl) only [go_sem, ↓mwp_block, simprocAttr, e8])
      refine loop_intro (fun ρ' h' => ρ' 0 = ρ 0 ∧ ρ' 1 = ρ 1 ∧ ρ' 2 = ρ 2 ∧ ρ' 3 = ρ 3 ∧ ρ' 8 = ρ 8 ∧ ∃ t : Nat, ρ' 9 = .int .i64 ((a + t : Nat) : Int) ∧ t ≤ Ms.length ∧ (∀ y ∈ Ms.drop t, Rk Kf x y) ∧ St h0 h' (ownA zEnc 1 3 (.slice A n c) (L ++ (Ms.take t ++ (x :: (Ms.drop t ++ (Mu ++ R))))) :: l)) (fun ρ' _ => (iv (ρ' 9)).toNat) ?_ ?_
      · (try simp (maxSteps := 1000000) (disch := first | omega | assumption | exact Nat.le_of_ble_eq_true rfl) only [go_sem, ↓mwp_block, simprocAttr, e8])
        refine ⟨k, rfl, by omega, ?_, ?_⟩
        · rw [List.drop_eq_nil_of_le (by omega)]; simp
        · rw [List.drop_eq_nil_of_le (by omega), List.take_of_length_le (by omega)]
          simpa using S
      · clear S
        rintro ρ1 h1 J1 hJ1 ⟨q0, q1, q2, q3, q8, t, q9, ht, hdr, S⟩
        have hrest : ∀ {ρ' : Env} {h' : Heap}, ρ' 0 = ρ 0 → ρ' 1 = ρ 1 → ρ' 2 = ρ 2 → ρ' 3 = ρ 3 → ρ' 8 = .int .i64 ((a + (k + 1) : Nat) : Int) → (∀ y ∈ Ms.take t, Rk Kf y x) → St h0 h' (ownA zEnc 1 3 (.slice A n c) (L ++ (Ms.take t ++ (x :: (Ms.drop t ++ (Mu ++ R))))) :: l) → J ρ' h' := by
          intro ρ' h' p0 p1 p2 p3 p8 htk S
          refine hJ _ _ ⟨p0.trans e0, p1.trans e1, p2.trans e2, p3.trans e3, k + 1, Ms.take t ++ x :: Ms.drop t, p8, by omega, by omega, ?_, ?_, ?_⟩ ?_
          · have h1 : (Ms.take t ++ x :: Ms.drop t).Perm (x :: Ms) := by
              have := List.perm_middle (a := x) (l₁ := Ms.take t) (l₂ := Ms.drop t)
              rwa [List.take_append_drop] at this
            rw [List.take_succ_eq_append_getElem hkM, hx]
            exact h1.trans ((List.Perm.cons x hp).trans (List.perm_append_comm (l₁ := [x])))
          · have h1 := hso
            rw [← List.take_append_drop t Ms, List.pairwise_append] at h1
            rw [List.pairwise_append, List.pairwise_cons]
            refine ⟨h1.1, ⟨hdr, h1.2.1⟩, fun y hy z hz => ?_⟩
            rcases List.mem_cons.1 hz with rfl | hz
            · exact htk y hy
            · exact h1.2.2 y hy z hz
          · rw [hMd]
            simpa only [List.append_assoc, List.cons_append] using S
          · rw [p8, e8]
            simp only [iv]
            omega
        (try simp (maxSteps := 1000000) (disch := first | omega | assumption | exact Nat.le_of_ble_eq_true rfl) only [go_sem, ↓mwp_block, simprocAttr])
        refine cut_st S (fun ρ' h' => ρ' 0 = ρ 0 ∧ ρ' 1 = ρ 1 ∧ ρ' 2 = ρ 2 ∧ ρ' 3 = ρ 3 ∧ ρ' 8 = ρ 8 ∧ ρ' 9 = .int .i64 ((a + t : Nat) : Int) ∧ ρ' 34 = .bool (dcd (∃ y, (Ms.take t)[t - 1]? = some y ∧ 0 < t ∧ Kf y < Kf x)) ∧ St h0 h' (ownA zEnc 1 3 (.slice A n c) (L ++ (Ms.take t ++ (x :: (Ms.drop t ++ (Mu ++ R))))) :: l)) ?_ ?_
        · intro J2 hJ2
          by_cases ht0 : t = 0
          · subst ht0
            have c1 : ¬ ((a : Int) < ((a + 0 : Nat) : Int)) := by omega
            (try simp (maxSteps := 1000000) (disch := first | omega | assumption | exact Nat.le_of_ble_eq_true rfl) only [go_sem, ↓mwp_block, simprocAttr, q9, q1, e1, c1])
            refine hJ2 _ _ ?_
            (try simp (maxSteps := 1000000) (disch := first | omega | assumption | exact Nat.le_of_ble_eq_true rfl) only [go_sem, ↓mwp_block, simprocAttr, q0, q1, q2, q3, q8])
            exact ⟨by simpa using q9, by rw [dcd_false]; rintro ⟨y, _, h, _⟩; omega, S⟩
          · obtain ⟨t', rfl⟩ : ∃ t', t = t' + 1 := ⟨t - 1, by omega⟩
            have htl : t' < Ms.length := by omega
            have hD : L ++ (Ms.take (t' + 1) ++ (x :: (Ms.drop (t' + 1) ++ (Mu ++ R)))) = (L ++ Ms.take t') ++ Ms[t'] :: ([] ++ x :: (Ms.drop (t' + 1) ++ (Mu ++ R))) := by
              rw [List.take_succ_eq_append_getElem htl]
              simp only [List.append_assoc, List.cons_append, List.nil_append]
            obtain ⟨g1, g2, _, _⟩ := swap_list (L ++ Ms.take t') [] (Ms.drop (t' + 1) ++ (Mu ++ R)) Ms[t'] x
            have hl1 : (L ++ Ms.take t').length = a + t' := by rw [List.length_append, List.length_take]; omega
            have hl2 : (L ++ Ms.take t').length + 1 + ([] : List Int).length = a + (t' + 1) := by rw [hl1, List.length_nil]; omega
            rw [← hD, hl1] at g1
            rw [← hD, hl2] at g2
            obtain ⟨bk, rfl⟩ := S.ownAt (by simp only [List.length_append, List.length_cons]; omega)
            have rx : ∀ K u, readT (fun h' => St h0 h' (ownA zEnc 1 3 (.slice (some ⟨bk, 0, none⟩) n c) (L ++ (Ms.take (t' + 1) ++ (x :: (Ms.drop (t' + 1) ++ (Mu ++ R))))) :: l)) (fun h' => rd1 h' (.pointer (some ⟨bk, (a + t') * 1, none⟩))) K u = bindT (some (.int .i64 Ms[t'])) K ⟨⟩ := fun K u => reads_of S fun h' s => own_rd s g1
            have ry : ∀ K u, readT (fun h' => St h0 h' (ownA zEnc 1 3 (.slice (some ⟨bk, 0, none⟩) n c) (L ++ (Ms.take (t' + 1) ++ (x :: (Ms.drop (t' + 1) ++ (Mu ++ R))))) :: l)) (fun h' => rd1 h' (.pointer (some ⟨bk, (a + (t' + 1)) * 1, none⟩))) K u = bindT (some (.int .i64 x)) K ⟨⟩ := fun K u => reads_of S fun h' s => own_rd s g2
            have w2 : IntKind.i64.wrap (((a + (t' + 1) : Nat) : Int) - 1) = ((a + t' : Nat) : Int) := subI (a := a + (t' + 1)) (b := 1) (c := a + t') (by omega) (by omega)
            have c1 : (a : Int) < ((a + (t' + 1) : Nat) : Int) := by omega
            (try simp (maxSteps := 1000000) (disch := first | omega | assumption | exact Nat.le_of_ble_eq_true rfl) only [go_sem, ↓mwp_block, simprocAttr, q9, q1, e1, q0, e0, q3, e3, c1, w2, rx, ry])
            have hget : (Ms.take (t' + 1))[t' + 1 - 1]? = some Ms[t'] := by rw [Nat.add_sub_cancel, List.getElem?_take_of_lt (by omega), List.getElem?_eq_getElem htl]
            refine hcmp x Ms[t'] hxd (hmem _ (List.getElem_mem htl)).1 S fun v h'' hv S => ?_
            (try simp (maxSteps := 1000000) (disch := first | omega | assumption | exact Nat.le_of_ble_eq_true rfl) only [go_sem, ↓mwp_block, simprocAttr])
            refine hJ2 _ _ ?_
            (try simp (maxSteps := 1000000) (disch := first | omega | assumption | exact Nat.le_of_ble_eq_true rfl) only [go_sem, ↓mwp_block, simprocAttr, q0, q1, q2, q3, q8])
            rw [Nat.add_sub_cancel] at hget
            exact ⟨q9, congrArg Value.bool (congrArg dcd (propext ⟨fun h => ⟨_, hget, by omega, hv.1 h⟩, fun ⟨y, hy, _, h⟩ => hv.2 (by rw [hget] at hy; cases hy; exact h)⟩)), S⟩
        · clear S q0 q1 q2 q3 q8
          have o9 := q9
          clear q9
          rintro ρ2 h2 ⟨q0, q1, q2, q3, q8, q9, q34, S⟩
          (try simp (maxSteps := 1000000) (disch := first | omega | assumption | exact Nat.le_of_ble_eq_true rfl) only [go_sem, ↓mwp_block, simprocAttr, q34])
          refine cond_dec (fun had => ?_) (fun had => ?_)
          · obtain ⟨y, hy, ht0, hlt⟩ := had
            obtain ⟨t', rfl⟩ : ∃ t', t = t' + 1 := ⟨t - 1, by omega⟩
            have htl : t' < Ms.length := by omega
            have hget : (Ms.take (t' + 1))[t' + 1 - 1]? = some Ms[t'] := by rw [Nat.add_sub_cancel, List.getElem?_take_of_lt (by omega), List.getElem?_eq_getElem htl]
            rw [hget] at hy
            cases hy
            have hD : L ++ (Ms.take (t' + 1) ++ (x :: (Ms.drop (t' + 1) ++ (Mu ++ R)))) = (L ++ Ms.take t') ++ Ms[t'] :: ([] ++ x :: (Ms.drop (t' + 1) ++ (Mu ++ R))) := by
              rw [List.take_succ_eq_append_getElem htl]
              simp only [List.append_assoc, List.cons_append, List.nil_append]
            have hD2 : (L ++ Ms.take t') ++ x :: ([] ++ Ms[t'] :: (Ms.drop (t' + 1) ++ (Mu ++ R))) = L ++ (Ms.take t' ++ (x :: (Ms.drop t' ++ (Mu ++ R)))) := by
              rw [List.drop_eq_getElem_cons htl]
              simp only [List.append_assoc, List.cons_append, List.nil_append]
            obtain ⟨g1, g2, _, g4⟩ := swap_list (L ++ Ms.take t') [] (Ms.drop (t' + 1) ++ (Mu ++ R)) Ms[t'] x
            have hl1 : (L ++ Ms.take t').length = a + t' := by rw [List.length_append, List.length_take]; omega
            have hl2 : (L ++ Ms.take t').length + 1 + ([] : List Int).length = a + (t' + 1) := by rw [hl1, List.length_nil]; omega
            have hDl : (L ++ (Ms.take (t' + 1) ++ (x :: (Ms.drop (t' + 1) ++ (Mu ++ R))))).length = a + (t' + 1) + 1 + ((Ms.length - (t' + 1)) + (Mu.length + R.length)) := by simp only [List.length_append, List.length_cons, List.length_take, List.length_drop]; omega
            rw [← hD, hl1] at g1
            rw [← hD, hl2] at g2
            rw [← hD, hl2, hl1, hD2] at g4
            obtain ⟨bk, rfl⟩ := S.ownAt (by rw [hDl]; omega)
            have r1 := own_rd S g1
            have r2 := own_rd S g2
            have w2 : IntKind.i64.wrap (((a + (t' + 1) : Nat) : Int) - 1) = ((a + t' : Nat) : Int) := subI (a := a + (t' + 1)) (b := 1) (c := a + t') (by omega) (by omega)
            (try simp (maxSteps := 1000000) (disch := first | omega | assumption | exact Nat.le_of_ble_eq_true rfl) only [go_sem, ↓mwp_block, simprocAttr])
            refine draw_eq ?_
            (try simp (maxSteps := 1000000) (disch := first | omega | assumption | exact Nat.le_of_ble_eq_true rfl) only [go_sem, ↓mwp_block, simprocAttr, q0, e0, q9, w2, r1, r2])
            refine st_setOwn (i := a + (t' + 1)) (x := Ms[t']) zEnc_len S (by rw [hDl]; omega) rfl rfl rfl rfl ?_
            clear S r1 r2
            intro h S
            (try simp (maxSteps := 1000000) (disch := first | omega | assumption | exact Nat.le_of_ble_eq_true rfl) only [go_sem, ↓mwp_block, simprocAttr])
            refine st_setOwn (i := a + t') (x := x) zEnc_len S (by rw [List.length_set, hDl]; omega) rfl rfl rfl rfl ?_
            clear S
            intro h S
            rw [g4] at S
            (try simp (maxSteps := 1000000) (disch := first | omega | assumption | exact Nat.le_of_ble_eq_true rfl) only [go_sem, ↓mwp_block, simprocAttr, q9, w2])
            refine hJ1 _ _ ?_ ?_
            · (try simp (maxSteps := 1000000) (disch := first | omega | assumption | exact Nat.le_of_ble_eq_true rfl) only [go_sem, ↓mwp_block, simprocAttr, q0, q1, q2, q3, q8])
              refine ⟨t', rfl, by omega, fun y hy => ?_, S⟩
              rw [List.drop_eq_getElem_cons htl] at hy
              rcases List.mem_cons.1 hy with rfl | hy
              · exact .inl hlt
              · exact hdr y hy
            · (try simp (maxSteps := 1000000) (disch := first | omega | assumption | exact Nat.le_of_ble_eq_true rfl) only [go_sem, ↓mwp_block, simprocAttr, o9])
              omega
          · have w8 : IntKind.i64.wrap (((a + k : Nat) : Int) + 1) = ((a + (k + 1) : Nat) : Int) := addI (a := a + k) (b := 1) (by omega) (by omega)
            (try simp (maxSteps := 1000000) (disch := first | omega | assumption | exact Nat.le_of_ble_eq_true rfl) only [go_sem, ↓mwp_block, simprocAttr, q8, e8, w8])
            refine hrest (by (try simp (maxSteps := 1000000) (disch := first | omega | assumption | exact Nat.le_of_ble_eq_true rfl) only [go_sem, ↓mwp_block, simprocAttr, q0])) (by (try simp (maxSteps := 1000000) (disch := first | omega | assumption | exact Nat.le_of_ble_eq_true rfl) only [go_sem, ↓mwp_block, simprocAttr, q1])) (by (try simp (maxSteps := 1000000) (disch := first | omega | assumption | exact Nat.le_of_ble_eq_true rfl) only [go_sem, ↓mwp_block, simprocAttr, q2])) (by (try simp (maxSteps := 1000000) (disch := first | omega | assumption | exact Nat.le_of_ble_eq_true rfl) only [go_sem, ↓mwp_block, simprocAttr, q3])) (by (try simp (maxSteps := 1000000) (disch := first | omega | assumption | exact Nat.le_of_ble_eq_true rfl) only [go_sem, ↓mwp_block, simprocAttr])) ?_ S
            intro y hy
            have ht0 : 0 < t := by
              apply Nat.pos_of_ne_zero
              intro h0
              subst h0
              simp at hy
            have htl : t - 1 < Ms.length := by omega
            have hget : (Ms.take t)[t - 1]? = some Ms[t - 1] := by rw [List.getElem?_take_of_lt (by omega), List.getElem?_eq_getElem htl]
            have hn' : ¬ Kf Ms[t - 1] < Kf x := fun h => had ⟨_, hget, ht0, h⟩
            have hlast : Rk Kf Ms[t - 1] x := by
              have := (hmem _ (List.getElem_mem htl)).2
              unfold Rk
              omega
            obtain ⟨j, hj, rfl⟩ := List.mem_iff_getElem.1 hy
            rw [List.length_take] at hj
            rw [List.getElem_take]
            by_cases e : j = t - 1
            · subst e; exact hlast
            · exact (List.pairwise_iff_getElem.1 hso j (t - 1) (by omega) htl (by omega)).trans hlast
    · (try simp (maxSteps := 1000000) (disch := first | omega | assumption | exact Nat.le_of_ble_eq_true rfl) only [go_sem, ↓mwp_block, simprocAttr])
      refine hK _ _ ⟨Ms, ?_, hso, ?_⟩
      · rw [List.take_of_length_le (by omega)] at hp
        exact hp
      · rw [List.drop_eq_nil_of_le (by omega), List.nil_append] at S
        exact S
end
end Go.Proofs.YtblalmgahfbalaaGreat.MX
