/- The library's sort, part 6: blocks, and the whole. -/
import Derived.Test.YtnjjdpeglkiifaaSp8
namespace Go.Proofs.Ytnjjdpeglkiifaa.MX
open Go Go.Proofs
set_option linter.unusedSimpArgs false
set_option linter.unusedVariables false
set_option maxHeartbeats 8000000
/-- Sorted block by block: all are full but the last one. -/
inductive SBl (Kf : Int → Nat) (B : Nat) : List Int → List Int → Prop
  | last {Z W : List Int} : Z.Perm W → Z.Pairwise (Rk Kf) → W.length ≤ B → SBl Kf B Z W
  | cons {Z W D xs : List Int} : Z.Perm W → Z.Pairwise (Rk Kf) → W.length = B → SBl Kf B D xs → SBl Kf B (Z ++ D) (W ++ xs)
/-- All of them full. -/
inductive FBl (Kf : Int → Nat) (B : Nat) : List Int → List Int → Prop
  | nil : FBl Kf B [] []
  | snoc {Z W D xs : List Int} : FBl Kf B D xs → Z.Perm W → Z.Pairwise (Rk Kf) → W.length = B → FBl Kf B (D ++ Z) (xs ++ W)
section
variable {Kf : Int → Nat} {B : Nat} {D xs : List Int}
theorem FBl.app (hf : FBl Kf B D xs) : ∀ {D' xs' : List Int}, SBl Kf B D' xs' → SBl Kf B (D ++ D') (xs ++ xs') := by
  induction hf with
  | nil => intro D' xs' h; exact h
  | snoc hf hp hs hl ih =>
    intro D' xs' h
    rw [List.append_assoc, List.append_assoc]
    exact ih (.cons hp hs hl h)
theorem FBl.len (hf : FBl Kf B D xs) : D.length = xs.length := by
  induction hf with
  | nil => rfl
  | snoc hf hp hs hl ih => rw [List.length_append, List.length_append, ih, hp.length_eq]
theorem SBl.len (hf : SBl Kf B D xs) : D.length = xs.length := by
  induction hf with
  | last hp hs hl => exact hp.length_eq
  | cons hp hs hl h ih => rw [List.length_append, List.length_append, ih, hp.length_eq]
theorem SBl.one (hf : SBl Kf B D xs) (hl : xs.length ≤ B) : D.Perm xs ∧ D.Pairwise (Rk Kf) := by
  cases hf with
  | last hp hs _ => exact ⟨hp, hs⟩
  | @cons Z W D' xs' hp hs hW h =>
    rw [List.length_append] at hl
    have h0 : xs' = [] := List.eq_nil_of_length_eq_zero (by omega)
    have h1 : D' = [] := List.eq_nil_of_length_eq_zero (by rw [h.len, h0]; rfl)
    rw [h0, h1, List.append_nil, List.append_nil]
    exact ⟨hp, hs⟩
theorem SBl.first (hf : SBl Kf B D xs) (hl : B < xs.length) : ∃ Z W D' xs', D = Z ++ D' ∧ xs = W ++ xs' ∧ Z.Perm W ∧ Z.Pairwise (Rk Kf) ∧ W.length = B ∧ SBl Kf B D' xs' := by
  cases hf with
  | last hp hs h => omega
  | cons hp hs hW h => exact ⟨_, _, _, _, rfl, rfl, hp, hs, hW, h⟩
theorem SBl.two (hf : SBl Kf B D xs) (hB : 0 < B) (hl : 2 * B ≤ xs.length) : ∃ Z1 W1 Z2 W2 D' xs', D = Z1 ++ (Z2 ++ D') ∧ xs = W1 ++ (W2 ++ xs') ∧ Z1.Perm W1 ∧ Z1.Pairwise (Rk Kf) ∧ W1.length = B ∧ Z2.Perm W2 ∧ Z2.Pairwise (Rk Kf) ∧ W2.length = B ∧ SBl Kf B D' xs' := by
  obtain ⟨Z1, W1, D1, x1, rfl, rfl, p1, s1, l1, h1⟩ := hf.first (by omega)
  rw [List.length_append] at hl
  by_cases e : x1.length = B
  · obtain ⟨p2, s2⟩ := h1.one (by omega)
    exact ⟨Z1, W1, D1, x1, [], [], by simp, by simp, p1, s1, l1, p2, s2, e, .last (.refl _) .nil (by simp)⟩
  · obtain ⟨Z2, W2, D2, x2, rfl, rfl, p2, s2, l2, h2⟩ := h1.first (by omega)
    exact ⟨Z1, W1, Z2, W2, D2, x2, rfl, rfl, p1, s1, l1, p2, s2, l2, h2⟩
end
section
variable {h0 h : Heap} {l : List HP} {Kf : Int → Nat} {dom : Int → Prop} {fv : Value} {A : Option Addr} {n c : Nat}
theorem stable_ok (hcmp : CmpS fv Kf dom h0 A n c l) (hs : n < 1000000) (xs : List Int) (hn : n = xs.length) (hx : xs.Pairwise (· < ·)) (hd : ∀ x ∈ xs, dom x) (S : St h0 h (ownA zEnc 1 3 (.slice A n c) xs :: l)) :
    CallsH Try.prog 99 [.slice A n c, .int .i64 n, fv] h fun v h' => ∃ Z, Z.Perm xs ∧ Z.Pairwise (Rk Kf) ∧ St h0 h' (ownA zEnc 1 3 (.slice A n c) Z :: l) := by
  (refine enterK c_slices_stableCmpFunc_int (Nat.le_of_ble_eq_true rfl) fun K hK => ?_; (try simp (maxSteps := 1000000) (disch := first | omega | assumption | exact Nat.le_of_ble_eq_true rfl) only [go_sem, ↓mwp_block, simprocAttr, ir_slices_stableCmpFunc_int]))
  refine loop_join (fun ρ' h' => ρ' 0 = .slice A n c ∧ ρ' 1 = .int .i64 n ∧ ρ' 2 = fv ∧ ρ' 6 = .int .i64 20 ∧ ∃ D x1 x2 : List Int, ρ' 7 = .int .i64 x1.length ∧ FBl Kf 20 D x1 ∧ xs = x1 ++ x2 ∧ x2.length < 20 ∧ St h0 h' (ownA zEnc 1 3 (.slice A n c) (D ++ x2) :: l)) ?_ ?_
  · intro J0 hJ0
    refine loop_intro (fun ρ' h' => ρ' 0 = .slice A n c ∧ ρ' 1 = .int .i64 n ∧ ρ' 2 = fv ∧ ρ' 6 = .int .i64 20 ∧ ∃ D x1 x2 : List Int, ρ' 7 = .int .i64 x1.length ∧ ρ' 8 = .int .i64 ((x1.length + 20 : Nat) : Int) ∧ FBl Kf 20 D x1 ∧ xs = x1 ++ x2 ∧ St h0 h' (ownA zEnc 1 3 (.slice A n c) (D ++ x2) :: l)) (fun ρ' _ => n + 20 - (iv (ρ' 8)).toNat) ?_ ?_
    · (try simp (maxSteps := 1000000) (disch := first | omega | assumption | exact Nat.le_of_ble_eq_true rfl) only [go_sem, ↓mwp_block, simprocAttr])
      exact ⟨[], [], xs, rfl, rfl, .nil, rfl, S⟩
    · clear S
      rintro ρ h J hJ ⟨e0, e1, e2, e6, D, x1, x2, e7, e8, hF, hxe, S⟩
      have hnl : n = x1.length + x2.length := by rw [hn, hxe, List.length_append]
      have hDl := hF.len
      (try simp (maxSteps := 1000000) (disch := first | omega | assumption | exact Nat.le_of_ble_eq_true rfl) only [go_sem, ↓mwp_block, simprocAttr, e8, e1])
      refine cond_dec (fun hle => ?_) (fun hle => ?_)
      · have hx2 : x2 = x2.take 20 ++ x2.drop 20 := (List.take_append_drop _ _).symm
        have hl20 : (x2.take 20).length = 20 := by rw [List.length_take]; omega
        have w1 : IntKind.i64.wrap (((x1.length + 20 : Nat) : Int) + 20) = ((x1.length + 20 + 20 : Nat) : Int) := addI (a := x1.length + 20) (b := 20) rfl (by omega)
        (try simp (maxSteps := 1000000) (disch := first | omega | assumption | exact Nat.le_of_ble_eq_true rfl) only [go_sem, ↓mwp_block, simprocAttr, e0, e7, e8, e2])
        have hsub : (x2.take 20).Sublist xs := by rw [hxe]; exact (List.take_sublist _ _).trans (List.sublist_append_right _ _)
        rw [hx2] at S
        refine call_intro (insSort_ok hcmp D (x2.take 20) (x2.drop 20) (by rw [← hx2, List.length_append, hDl]; exact hnl) hDl.symm (by rw [hl20, hDl]) hs (hx.sublist hsub) (fun x hx' => hd x (hsub.subset hx')) S) ?_
        clear S
        rintro _ h ⟨M', hp, hso, S⟩
        (try simp (maxSteps := 1000000) (disch := first | omega | assumption | exact Nat.le_of_ble_eq_true rfl) only [go_sem, ↓mwp_block, simprocAttr, e8, e6, w1])
        refine hJ _ _ ?_ ?_
        · (try simp (maxSteps := 1000000) (disch := first | omega | assumption | exact Nat.le_of_ble_eq_true rfl) only [go_sem, ↓mwp_block, simprocAttr, e0, e1, e2, e6])
          refine ⟨D ++ M', x1 ++ x2.take 20, x2.drop 20, by rw [List.length_append, hl20], by rw [List.length_append, hl20], .snoc hF hp hso hl20, by rw [List.append_assoc, ← hx2]; exact hxe, by rw [List.append_assoc]; exact S⟩
        · (try simp (maxSteps := 1000000) (disch := first | omega | assumption | exact Nat.le_of_ble_eq_true rfl) only [go_sem, ↓mwp_block, simprocAttr, e8])
          omega
      · (try simp (maxSteps := 1000000) (disch := first | omega | assumption | exact Nat.le_of_ble_eq_true rfl) only [go_sem, ↓mwp_block, simprocAttr])
        refine hJ0 _ _ ⟨e0, e1, e2, e6, D, x1, x2, e7, hF, hxe, by omega, S⟩ <;> (try simp (maxSteps := 1000000) (disch := first | omega | assumption | exact Nat.le_of_ble_eq_true rfl) only [go_sem, ↓mwp_block, simprocAttr])
  clear S
  rintro ρ h ⟨e0, e1, e2, e6, D, x1, x2, e7, hF, hxe, hl20, S⟩
  have hnl : n = x1.length + x2.length := by rw [hn, hxe, List.length_append]
  have hDl := hF.len
  (try simp (maxSteps := 1000000) (disch := first | omega | assumption | exact Nat.le_of_ble_eq_true rfl) only [go_sem, ↓mwp_block, simprocAttr, e0, e7, e1, e2])
  have hx2s : x2.Sublist xs := by rw [hxe]; exact List.sublist_append_right _ _
  refine call_intro (insSort_ok hcmp D x2 [] (by rw [List.append_nil, List.length_append, hDl]; exact hnl) hDl.symm (by rw [hDl]; exact hnl) hs (hx.sublist hx2s) (fun x hx' => hd x (hx2s.subset hx')) (by rw [List.append_nil]; exact S)) ?_
  clear S
  rintro _ h ⟨M', hp, hso, S⟩
  rw [List.append_nil] at S
  have hS0 : SBl Kf 20 (D ++ M') xs := by rw [hxe]; exact hF.app (.last hp hso (by omega))
  generalize D ++ M' = D0 at S hS0
  (try simp (maxSteps := 1000000) (disch := first | omega | assumption | exact Nat.le_of_ble_eq_true rfl) only [go_sem, ↓mwp_block, simprocAttr])
  refine loop_intro (fun ρ' h' => ρ' 0 = .slice A n c ∧ ρ' 1 = .int .i64 n ∧ ρ' 2 = fv ∧ ∃ (B : Nat) (D : List Int), ρ' 6 = .int .i64 B ∧ 0 < B ∧ B < 2000000 ∧ SBl Kf B D xs ∧ St h0 h' (ownA zEnc 1 3 (.slice A n c) D :: l)) (fun ρ' _ => n - (iv (ρ' 6)).toNat) ?_ ?_
  · (try simp (maxSteps := 1000000) (disch := first | omega | assumption | exact Nat.le_of_ble_eq_true rfl) only [go_sem, ↓mwp_block, simprocAttr, e0, e1, e2, e6])
    exact ⟨20, D0, rfl, by omega, by omega, hS0, S⟩
  clear S hS0 e0 e1 e2 e6 e7 hF hxe hl20 hnl hDl hx2s hp hso x1 x2
  rintro ρ h J hJ ⟨e0, e1, e2, B, D, e6, hB, hB2, hSB, S⟩
  (try simp (maxSteps := 1000000) (disch := first | omega | assumption | exact Nat.le_of_ble_eq_true rfl) only [go_sem, ↓mwp_block, simprocAttr, e6, e1])
  refine cond_dec (fun hlt => ?_) (fun hlt => ?_)
  case refine_2 =>
    obtain ⟨p1, s1⟩ := hSB.one (by omega)
    (try simp (maxSteps := 1000000) (disch := first | omega | assumption | exact Nat.le_of_ble_eq_true rfl) only [go_sem, ↓mwp_block, simprocAttr])
    exact hK _ _ ⟨D, p1, s1, S⟩
  have wB : IntKind.i64.wrap (2 * (B : Int)) = ((2 * B : Nat) : Int) := by rw [show (2 : Int) * B = ((2 * B : Nat) : Int) by omega]; exact i64N (by omega)
  have wB2 : IntKind.i64.wrap ((B : Int) * 2) = ((2 * B : Nat) : Int) := by rw [show (B : Int) * 2 = ((2 * B : Nat) : Int) by omega]; exact i64N (by omega)
  (try simp (maxSteps := 1000000) (disch := first | omega | assumption | exact Nat.le_of_ble_eq_true rfl) only [go_sem, ↓mwp_block, simprocAttr, e6, wB])
  refine loop_join (fun ρ' h' => ρ' 0 = .slice A n c ∧ ρ' 1 = .int .i64 n ∧ ρ' 2 = fv ∧ ρ' 6 = .int .i64 B ∧ ∃ Dn xn Dr xr : List Int, ρ' 7 = .int .i64 xn.length ∧ FBl Kf (2 * B) Dn xn ∧ SBl Kf B Dr xr ∧ xs = xn ++ xr ∧ xr.length < 2 * B ∧ St h0 h' (ownA zEnc 1 3 (.slice A n c) (Dn ++ Dr) :: l)) ?_ ?_
  · intro J0 hJ0
    refine loop_intro (fun ρ' h' => ρ' 0 = .slice A n c ∧ ρ' 1 = .int .i64 n ∧ ρ' 2 = fv ∧ ρ' 6 = .int .i64 B ∧ ∃ Dn xn Dr xr : List Int, ρ' 7 = .int .i64 xn.length ∧ ρ' 8 = .int .i64 ((xn.length + 2 * B : Nat) : Int) ∧ FBl Kf (2 * B) Dn xn ∧ SBl Kf B Dr xr ∧ xs = xn ++ xr ∧ St h0 h' (ownA zEnc 1 3 (.slice A n c) (Dn ++ Dr) :: l)) (fun ρ' _ => n + 2 * B - (iv (ρ' 8)).toNat) ?_ ?_
    · (try simp (maxSteps := 1000000) (disch := first | omega | assumption | exact Nat.le_of_ble_eq_true rfl) only [go_sem, ↓mwp_block, simprocAttr, e0, e1, e2, e6])
      exact ⟨[], [], D, xs, rfl, congrArg (Value.int .i64) (by simp), .nil, hSB, rfl, S⟩
    · clear S e0 e1 e2 e6
      rintro ρ h J1 hJ1 ⟨e0, e1, e2, e6, Dn, xn, Dr, xr, e7, e8, hF, hR, hxe, S⟩
      have hnl : n = xn.length + xr.length := by rw [hn, hxe, List.length_append]
      have hDl := hF.len
      (try simp (maxSteps := 1000000) (disch := first | omega | assumption | exact Nat.le_of_ble_eq_true rfl) only [go_sem, ↓mwp_block, simprocAttr, e8, e1])
      refine cond_dec (fun hle => ?_) (fun hle => ?_)
      · obtain ⟨Z1, W1, Z2, W2, D', x', rfl, rfl, p1, s1, l1, p2, s2, l2, hR'⟩ := hR.two hB (by omega)
        have hl' := hR'.len
        have q1 := p1.length_eq
        have q2 := p2.length_eq
        simp only [List.length_append] at hnl
        have w1 := addI (a := xn.length) (b := B) rfl (by omega)
        have w3 := addI (a := xn.length + 2 * B) (b := 2 * B) rfl (by omega)
        have hsub : (W1 ++ W2).Sublist xs := by
          rw [hxe, ← List.append_assoc W1]
          exact (List.sublist_append_left _ _).trans (List.sublist_append_right _ _)
        have hpw := hx.sublist hsub
        rw [List.pairwise_append] at hpw
        (try simp (maxSteps := 1000000) (disch := first | omega | assumption | exact Nat.le_of_ble_eq_true rfl) only [go_sem, ↓mwp_block, simprocAttr, e0, e7, e8, e2, e6, w1])
        refine call_intro (merge_all hcmp hs _ Z1 Z2 rfl Dn D' (by simp only [List.length_append]; omega) hDl.symm (by omega) (by omega) (by omega) (by omega) s1 s2 (fun x hx1 y hy1 => hpw.2.2 x (p1.mem_iff.1 hx1) y (p2.mem_iff.1 hy1)) (fun x hx1 => hd x (hsub.subset (List.mem_append_left _ (p1.mem_iff.1 hx1)))) (fun x hx1 => hd x (hsub.subset (List.mem_append_right _ (p2.mem_iff.1 hx1)))) S) ?_
        clear S
        rintro _ h ⟨Z, hz1, hz2, S⟩
        (try simp (maxSteps := 1000000) (disch := first | omega | assumption | exact Nat.le_of_ble_eq_true rfl) only [go_sem, ↓mwp_block, simprocAttr, e8, e6, wB, w3])
        refine hJ1 _ _ ?_ ?_
        · (try simp (maxSteps := 1000000) (disch := first | omega | assumption | exact Nat.le_of_ble_eq_true rfl) only [go_sem, ↓mwp_block, simprocAttr, e0, e1, e2, e6])
          refine ⟨Dn ++ Z, xn ++ (W1 ++ W2), D', x', congrArg (Value.int .i64) (by simp only [List.length_append]; omega), congrArg (Value.int .i64) (by simp only [List.length_append]; omega), .snoc hF (hz1.trans (p1.append p2)) hz2 (by rw [List.length_append]; omega), hR', by rw [hxe]; simp only [List.append_assoc], by simpa only [List.append_assoc] using S⟩
        · (try simp (maxSteps := 1000000) (disch := first | omega | assumption | exact Nat.le_of_ble_eq_true rfl) only [go_sem, ↓mwp_block, simprocAttr, e8])
          omega
      · (try simp (maxSteps := 1000000) (disch := first | omega | assumption | exact Nat.le_of_ble_eq_true rfl) only [go_sem, ↓mwp_block, simprocAttr])
        refine hJ0 _ _ ⟨e0, e1, e2, e6, Dn, xn, Dr, xr, e7, hF, hR, hxe, by omega, S⟩ <;> (try simp (maxSteps := 1000000) (disch := first | omega | assumption | exact Nat.le_of_ble_eq_true rfl) only [go_sem, ↓mwp_block, simprocAttr])
  clear S e0 e1 e2
  have o6 := e6
  clear e6
  rintro ρ h ⟨e0, e1, e2, e6, Dn, xn, Dr, xr, e7, hF, hR, hxe, hxr, S⟩
  have hnl : n = xn.length + xr.length := by rw [hn, hxe, List.length_append]
  have hDl := hF.len
  have w1 := addI (a := xn.length) (b := B) rfl (by omega)
  have hend : ∀ {ρ' : Env} {h' : Heap} {Z : List Int}, ρ' 0 = .slice A n c → ρ' 1 = .int .i64 n → ρ' 2 = fv → ρ' 6 = .int .i64 ((2 * B : Nat) : Int) → Z.Perm xr → Z.Pairwise (Rk Kf) → St h0 h' (ownA zEnc 1 3 (.slice A n c) (Dn ++ Z) :: l) → J ρ' h' := by
    intro ρ' h' Z p0 p1 p2 p6 hz1 hz2 S
    refine hJ _ _ ⟨p0, p1, p2, 2 * B, Dn ++ Z, p6, by omega, by omega, by rw [hxe]; exact hF.app (.last hz1 hz2 (by omega)), S⟩ ?_
    rw [p6, o6]
    simp only [iv]
    omega
  by_cases hm : ((xn.length + B : Nat) : Int) < n
  · obtain ⟨Z1, W1, D', x', rfl, rfl, p1, s1, l1, hR'⟩ := hR.first (by omega)
    rw [List.length_append] at hxr hnl
    obtain ⟨p2, s2⟩ := hR'.one (by omega)
    have q1 := p1.length_eq
    have q2 := p2.length_eq
    have hsub : (W1 ++ x').Sublist xs := by rw [hxe]; exact List.sublist_append_right _ _
    have hpw := hx.sublist hsub
    rw [List.pairwise_append] at hpw
    (try simp (maxSteps := 1000000) (disch := first | omega | assumption | exact Nat.le_of_ble_eq_true rfl) only [go_sem, ↓mwp_block, simprocAttr, e7, e6, w1, hm, e1, e0, e2])
    refine call_intro (merge_all hcmp hs _ Z1 D' rfl Dn [] (by simp only [List.length_append, List.length_nil]; omega) hDl.symm (by omega) (by omega) (by omega) (by omega) s1 s2 (fun x hx1 y hy1 => hpw.2.2 x (p1.mem_iff.1 hx1) y (p2.mem_iff.1 hy1)) (fun x hx1 => hd x (hsub.subset (List.mem_append_left _ (p1.mem_iff.1 hx1)))) (fun x hx1 => hd x (hsub.subset (List.mem_append_right _ (p2.mem_iff.1 hx1)))) (by rw [List.append_nil]; exact S)) ?_
    clear S
    rintro _ h ⟨Z, hz1, hz2, S⟩
    rw [List.append_nil] at S
    (try simp (maxSteps := 1000000) (disch := first | omega | assumption | exact Nat.le_of_ble_eq_true rfl) only [go_sem, ↓mwp_block, simprocAttr, e6, wB2])
    exact hend (by (try simp (maxSteps := 1000000) (disch := first | omega | assumption | exact Nat.le_of_ble_eq_true rfl) only [go_sem, ↓mwp_block, simprocAttr, e0])) (by (try simp (maxSteps := 1000000) (disch := first | omega | assumption | exact Nat.le_of_ble_eq_true rfl) only [go_sem, ↓mwp_block, simprocAttr, e1])) (by (try simp (maxSteps := 1000000) (disch := first | omega | assumption | exact Nat.le_of_ble_eq_true rfl) only [go_sem, ↓mwp_block, simprocAttr, e2])) (by (try simp (maxSteps := 1000000) (disch := first | omega | assumption | exact Nat.le_of_ble_eq_true rfl) only [go_sem, ↓mwp_block, simprocAttr])) (hz1.trans (p1.append p2)) hz2 S
  · obtain ⟨p2, s2⟩ := hR.one (by omega)
    (try simp (maxSteps := 1000000) (disch := first | omega | assumption | exact Nat.le_of_ble_eq_true rfl) only [go_sem, ↓mwp_block, simprocAttr, e7, e6, w1, hm, e1, wB2])
    exact hend (by (try simp (maxSteps := 1000000) (disch := first | omega | assumption | exact Nat.le_of_ble_eq_true rfl) only [go_sem, ↓mwp_block, simprocAttr, e0])) (by (try simp (maxSteps := 1000000) (disch := first | omega | assumption | exact Nat.le_of_ble_eq_true rfl) only [go_sem, ↓mwp_block, simprocAttr, e1])) (by (try simp (maxSteps := 1000000) (disch := first | omega | assumption | exact Nat.le_of_ble_eq_true rfl) only [go_sem, ↓mwp_block, simprocAttr, e2])) (by (try simp (maxSteps := 1000000) (disch := first | omega | assumption | exact Nat.le_of_ble_eq_true rfl) only [go_sem, ↓mwp_block, simprocAttr])) p2 s2 S
theorem SortStable_ok (hcmp : CmpS fv Kf dom h0 A n c l) (hs : n < 1000000) (xs : List Int) (hn : n = xs.length) (hx : xs.Pairwise (· < ·)) (hd : ∀ x ∈ xs, dom x) (S : St h0 h (ownA zEnc 1 3 (.slice A n c) xs :: l)) :
    CallsH Try.prog 67 [.slice A n c, fv] h fun v h' => ∃ Z, Z.Perm xs ∧ Z.Pairwise (Rk Kf) ∧ St h0 h' (ownA zEnc 1 3 (.slice A n c) Z :: l) := by
  (refine enterK c_slices_SortStableFunc_int_int (Nat.le_of_ble_eq_true rfl) fun K hK => ?_; (try simp (maxSteps := 1000000) (disch := first | omega | assumption | exact Nat.le_of_ble_eq_true rfl) only [go_sem, ↓mwp_block, simprocAttr, ir_slices_SortStableFunc_int_int]))
  refine call_intro (stable_ok hcmp hs xs hn hx hd S) ?_
  intro v h' hq
  (try simp (maxSteps := 1000000) (disch := first | omega | assumption | exact Nat.le_of_ble_eq_true rfl) only [go_sem, ↓mwp_block, simprocAttr])
  exact hK _ _ hq
end
end Go.Proofs.Ytnjjdpeglkiifaa.MX
