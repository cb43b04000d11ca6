/- The library's sort, part 3: the order, and the sort by insertion. -/
import Derived.Test.YtnjjdpeglkiifaaSp5
namespace Go.Proofs.Ytnjjdpeglkiifaa.MX
open Go Go.Proofs
set_option linter.unusedSimpArgs false
set_option linter.unusedVariables false
set_option maxHeartbeats 4000000
/-- Ahead: more is left, or as much and an earlier number. -/
def Rk (Kf : Int → Nat) (x y : Int) : Prop := Kf y < Kf x ∨ (Kf x = Kf y ∧ x < y)
theorem Rk.trans {Kf : Int → Nat} {x y z : Int} (h1 : Rk Kf x y) (h2 : Rk Kf y z) : Rk Kf x z := by
  unfold Rk at *
  omega
theorem cut_st {P : Program} {Q : MExit → Env → Heap → Prop} {ρ : Env} {h0 h : Heap} {L : List HP} {l : List MOper} {s : Sch} {t1 : Tag l} {t2 : Tag s} {t3 : Tag Q} {t4 : Tag ρ} {t5 : Tag h} (S : St h0 h L) (I : Env → Heap → Prop)
    (hw : ∀ J : Env → Heap → Prop, (∀ ρ h, I ρ h → J ρ h) → schT P (fun h' => St h0 h' L) l J s ρ h) (hT : ∀ ρ h, I ρ h → Q .normal ρ h) : drawT P l s Q ρ h t1 t2 t3 t4 t5 := ⟨_, S, hw _ hT⟩
/-- What compares: two of the numbers, by the key; and it turns nothing of what stands. -/
def CmpS (fv : Value) (Kf : Int → Nat) (dom : Int → Prop) (h0 : Heap) (A : Option Addr) (n c : Nat) (l : List HP) : Prop :=
  ∀ {h' : Heap} {D : List Int} {K : Value → Heap → Prop} {s : Tag h'} {t : Tag K} (a b : Int), dom a → dom b → St h0 h' (ownA zEnc 1 3 (.slice A n c) D :: l) →
    (∀ (v : Int) (h'' : Heap), (v < 0 ↔ Kf b < Kf a) → St h0 h'' (ownA zEnc 1 3 (.slice A n c) D :: l) → K (.int .i64 v) h'') → callvT Try.prog fv [.int .i64 a, .int .i64 b] h' K s t
section
variable {h0 h : Heap} {l : List HP} {Kf : Int → Nat} {dom : Int → Prop} {fv : Value} {A : Option Addr} {n c : Nat}
theorem insSort_ok (hcmp : CmpS fv Kf dom h0 A n c l) (L M R : List Int) {a b : Nat} (hn : n = (L ++ (M ++ R)).length) (ha : a = L.length) (hb : b = L.length + M.length) (hs : n < 1000000) (hM : M.Pairwise (· < ·)) (hd : ∀ x ∈ M, dom x)
    (S : St h0 h (ownA zEnc 1 3 (.slice A n c) (L ++ (M ++ R)) :: l)) :
    CallsH Try.prog 115 [.slice A n c, .int .i64 a, .int .i64 b, fv] h fun v h' => ∃ M', M'.Perm M ∧ M'.Pairwise (Rk Kf) ∧ St h0 h' (ownA zEnc 1 3 (.slice A n c) (L ++ (M' ++ R)) :: l) := by
  have hnl : n = L.length + (M.length + R.length) := by rw [hn]; simp only [List.length_append]
  have w1 : IntKind.i64.wrap ((a : Int) + 1) = ((a + 1 : Nat) : Int) := addI (a := a) (b := 1) rfl (by omega)
  refine enterK c_slices_insertionSortCmpFunc_int (Nat.le_of_ble_eq_true rfl) fun K hK => ?_
  (try simp (maxSteps := 1000000) (disch := first | omega | assumption | exact Nat.le_of_ble_eq_true rfl) only [go_sem, ↓mwp_block, simprocAttr, ir_slices_insertionSortCmpFunc_int, w1])
  refine loop_intro (fun ρ h' => ρ 0 = .slice A n c ∧ ρ 1 = .int .i64 a ∧ ρ 2 = .int .i64 b ∧ ρ 3 = fv ∧ ∃ (k : Nat) (Ms : List Int), ρ 8 = .int .i64 ((a + k : Nat) : Int) ∧ 1 ≤ k ∧ k ≤ M.length + 1 ∧ Ms.Perm (M.take k) ∧ Ms.Pairwise (Rk Kf) ∧ St h0 h' (ownA zEnc 1 3 (.slice A n c) (L ++ (Ms ++ (M.drop k ++ R))) :: l)) (fun ρ _ => b - (iv (ρ 8)).toNat) ?_ ?_
  · (try simp (maxSteps := 1000000) (disch := first | omega | assumption | exact Nat.le_of_ble_eq_true rfl) only [go_sem, ↓mwp_block, simprocAttr])
    refine ⟨1, M.take 1, rfl, by omega, by omega, .refl _, ?_, ?_⟩
    · cases M with
      | nil => simp
      | cons x M => simp
    · rw [← List.append_assoc (M.take 1), List.take_append_drop]
      exact S
  · clear S
    rintro ρ h J hJ ⟨e0, e1, e2, e3, k, Ms, e8, hk1, hk2, hp, hso, S⟩
    (try simp (maxSteps := 1000000) (disch := first | omega | assumption | exact Nat.le_of_ble_eq_true rfl) only [go_sem, ↓mwp_block, simprocAttr, e8, e2])
    refine cond_dec (fun hlt => ?_) (fun hlt => ?_)
    · have hkM : k < M.length := by omega
      have hMsl : Ms.length = k := by rw [hp.length_eq, List.length_take]; omega
      have hxd : dom M[k] := hd _ (List.getElem_mem hkM)
      have hmem : ∀ y ∈ Ms, dom y ∧ y < M[k] := by
        intro y hy
        have hy' := hp.mem_iff.1 hy
        obtain ⟨j, hj, rfl⟩ := List.mem_iff_getElem.1 hy'
        rw [List.length_take] at hj
        rw [List.getElem_take]
        exact ⟨hd _ (List.getElem_mem _), List.pairwise_iff_getElem.1 hM j k (by omega) hkM (by omega)⟩
      rw [List.drop_eq_getElem_cons hkM] at S
      generalize hx : M[k] = x at S hxd hmem
      generalize hMd : M.drop (k + 1) = Mu at S
      (try simp (maxSteps := 1000000) (disch := first | omega | assumption | exact Nat.le_of_ble_eq_true rfl) only [go_sem, ↓mwp_block, simprocAttr, e8])
      refine loop_intro (fun ρ' h' => ρ' 0 = ρ 0 ∧ ρ' 1 = ρ 1 ∧ ρ' 2 = ρ 2 ∧ ρ' 3 = ρ 3 ∧ ρ' 8 = ρ 8 ∧ ∃ t : Nat, ρ' 9 = .int .i64 ((a + t : Nat) : Int) ∧ t ≤ Ms.length ∧ (∀ y ∈ Ms.drop t, Rk Kf x y) ∧ St h0 h' (ownA zEnc 1 3 (.slice A n c) (L ++ (Ms.take t ++ (x :: (Ms.drop t ++ (Mu ++ R))))) :: l)) (fun ρ' _ => (iv (ρ' 9)).toNat) ?_ ?_
      · (try simp (maxSteps := 1000000) (disch := first | omega | assumption | exact Nat.le_of_ble_eq_true rfl) only [go_sem, ↓mwp_block, simprocAttr, e8])
        refine ⟨k, rfl, by omega, ?_, ?_⟩
        · rw [List.drop_eq_nil_of_le (by omega)]; simp
        · rw [List.drop_eq_nil_of_le (by omega), List.take_of_length_le (by omega)]
          simpa using S
      · clear S
        rintro ρ1 h1 J1 hJ1 ⟨q0, q1, q2, q3, q8, t, q9, ht, hdr, S⟩
        have hrest : ∀ {ρ' : Env} {h' : Heap}, ρ' 0 = ρ 0 → ρ' 1 = ρ 1 → ρ' 2 = ρ 2 → ρ' 3 = ρ 3 → ρ' 8 = .int .i64 ((a + (k + 1) : Nat) : Int) → (∀ y ∈ Ms.take t, Rk Kf y x) → St h0 h' (ownA zEnc 1 3 (.slice A n c) (L ++ (Ms.take t ++ (x :: (Ms.drop t ++ (Mu ++ R))))) :: l) → J ρ' h' := by
          intro ρ' h' p0 p1 p2 p3 p8 htk S
          refine hJ _ _ ⟨p0.trans e0, p1.trans e1, p2.trans e2, p3.trans e3, k + 1, Ms.take t ++ x :: Ms.drop t, p8, by omega, by omega, ?_, ?_, ?_⟩ ?_
          · have h1 : (Ms.take t ++ x :: Ms.drop t).Perm (x :: Ms) := by
              have := List.perm_middle (a := x) (l₁ := Ms.take t) (l₂ := Ms.drop t)
              rwa [List.take_append_drop] at this
            rw [List.take_succ_eq_append_getElem hkM, hx]
            exact h1.trans ((List.Perm.cons x hp).trans (List.perm_append_comm (l₁ := [x])))
          · have h1 := hso
            rw [← List.take_append_drop t Ms, List.pairwise_append] at h1
            rw [List.pairwise_append, List.pairwise_cons]
            refine ⟨h1.1, ⟨hdr, h1.2.1⟩, fun y hy z hz => ?_⟩
            rcases List.mem_cons.1 hz with rfl | hz
            · exact htk y hy
            · exact h1.2.2 y hy z hz
          · rw [hMd]
            simpa only [List.append_assoc, List.cons_append] using S
          · rw [p8, e8]
            simp only [iv]
            omega
        (try simp (maxSteps := 1000000) (disch := first | omega | assumption | exact Nat.le_of_ble_eq_true rfl) only [go_sem, ↓mwp_block, simprocAttr])
        refine cut_st S (fun ρ' h' => ρ' 0 = ρ 0 ∧ ρ' 1 = ρ 1 ∧ ρ' 2 = ρ 2 ∧ ρ' 3 = ρ 3 ∧ ρ' 8 = ρ 8 ∧ ρ' 9 = .int .i64 ((a + t : Nat) : Int) ∧ ρ' 34 = .bool (dcd (∃ y, (Ms.take t)[t - 1]? = some y ∧ 0 < t ∧ Kf y < Kf x)) ∧ St h0 h' (ownA zEnc 1 3 (.slice A n c) (L ++ (Ms.take t ++ (x :: (Ms.drop t ++ (Mu ++ R))))) :: l)) ?_ ?_
        · intro J2 hJ2
          by_cases ht0 : t = 0
          · subst ht0
            have c1 : ¬ ((a : Int) < ((a + 0 : Nat) : Int)) := by omega
            (try simp (maxSteps := 1000000) (disch := first | omega | assumption | exact Nat.le_of_ble_eq_true rfl) only [go_sem, ↓mwp_block, simprocAttr, q9, q1, e1, c1])
            refine hJ2 _ _ ?_
            (try simp (maxSteps := 1000000) (disch := first | omega | assumption | exact Nat.le_of_ble_eq_true rfl) only [go_sem, ↓mwp_block, simprocAttr, q0, q1, q2, q3, q8])
            exact ⟨by simpa using q9, by rw [dcd_false]; rintro ⟨y, _, h, _⟩; omega, S⟩
          · obtain ⟨t', rfl⟩ : ∃ t', t = t' + 1 := ⟨t - 1, by omega⟩
            have htl : t' < Ms.length := by omega
            have hD : L ++ (Ms.take (t' + 1) ++ (x :: (Ms.drop (t' + 1) ++ (Mu ++ R)))) = (L ++ Ms.take t') ++ Ms[t'] :: ([] ++ x :: (Ms.drop (t' + 1) ++ (Mu ++ R))) := by
              rw [List.take_succ_eq_append_getElem htl]
              simp only [List.append_assoc, List.cons_append, List.nil_append]
            obtain ⟨g1, g2, _, _⟩ := swap_list (L ++ Ms.take t') [] (Ms.drop (t' + 1) ++ (Mu ++ R)) Ms[t'] x
            have hl1 : (L ++ Ms.take t').length = a + t' := by rw [List.length_append, List.length_take]; omega
            have hl2 : (L ++ Ms.take t').length + 1 + ([] : List Int).length = a + (t' + 1) := by rw [hl1, List.length_nil]; omega
            rw [← hD, hl1] at g1
            rw [← hD, hl2] at g2
            obtain ⟨bk, rfl⟩ := S.ownAt (by simp only [List.length_append, List.length_cons]; omega)
            have rx : ∀ K u, readT (fun h' => St h0 h' (ownA zEnc 1 3 (.slice (some ⟨bk, 0, none⟩) n c) (L ++ (Ms.take (t' + 1) ++ (x :: (Ms.drop (t' + 1) ++ (Mu ++ R))))) :: l)) (fun h' => rd1 h' (.pointer (some ⟨bk, (a + t') * 1, none⟩))) K u = bindT (some (.int .i64 Ms[t'])) K ⟨⟩ := fun K u => reads_of S fun h' s => own_rd s g1
            have ry : ∀ K u, readT (fun h' => St h0 h' (ownA zEnc 1 3 (.slice (some ⟨bk, 0, none⟩) n c) (L ++ (Ms.take (t' + 1) ++ (x :: (Ms.drop (t' + 1) ++ (Mu ++ R))))) :: l)) (fun h' => rd1 h' (.pointer (some ⟨bk, (a + (t' + 1)) * 1, none⟩))) K u = bindT (some (.int .i64 x)) K ⟨⟩ := fun K u => reads_of S fun h' s => own_rd s g2
            have w2 : IntKind.i64.wrap (((a + (t' + 1) : Nat) : Int) - 1) = ((a + t' : Nat) : Int) := subI (a := a + (t' + 1)) (b := 1) (c := a + t') (by omega) (by omega)
            have c1 : (a : Int) < ((a + (t' + 1) : Nat) : Int) := by omega
            (try simp (maxSteps := 1000000) (disch := first | omega | assumption | exact Nat.le_of_ble_eq_true rfl) only [go_sem, ↓mwp_block, simprocAttr, q9, q1, e1, q0, e0, q3, e3, c1, w2, rx, ry])
            have hget : (Ms.take (t' + 1))[t' + 1 - 1]? = some Ms[t'] := by rw [Nat.add_sub_cancel, List.getElem?_take_of_lt (by omega), List.getElem?_eq_getElem htl]
            refine hcmp x Ms[t'] hxd (hmem _ (List.getElem_mem htl)).1 S fun v h'' hv S => ?_
            (try simp (maxSteps := 1000000) (disch := first | omega | assumption | exact Nat.le_of_ble_eq_true rfl) only [go_sem, ↓mwp_block, simprocAttr])
            refine hJ2 _ _ ?_
            (try simp (maxSteps := 1000000) (disch := first | omega | assumption | exact Nat.le_of_ble_eq_true rfl) only [go_sem, ↓mwp_block, simprocAttr, q0, q1, q2, q3, q8])
            rw [Nat.add_sub_cancel] at hget
            exact ⟨q9, congrArg Value.bool (congrArg dcd (propext ⟨fun h => ⟨_, hget, by omega, hv.1 h⟩, fun ⟨y, hy, _, h⟩ => hv.2 (by rw [hget] at hy; cases hy; exact h)⟩)), S⟩
        · clear S q0 q1 q2 q3 q8
          have o9 := q9
          clear q9
          rintro ρ2 h2 ⟨q0, q1, q2, q3, q8, q9, q34, S⟩
          (try simp (maxSteps := 1000000) (disch := first | omega | assumption | exact Nat.le_of_ble_eq_true rfl) only [go_sem, ↓mwp_block, simprocAttr, q34])
          refine cond_dec (fun had => ?_) (fun had => ?_)
          · obtain ⟨y, hy, ht0, hlt⟩ := had
            obtain ⟨t', rfl⟩ : ∃ t', t = t' + 1 := ⟨t - 1, by omega⟩
            have htl : t' < Ms.length := by omega
            have hget : (Ms.take (t' + 1))[t' + 1 - 1]? = some Ms[t'] := by rw [Nat.add_sub_cancel, List.getElem?_take_of_lt (by omega), List.getElem?_eq_getElem htl]
            rw [hget] at hy
            cases hy
            have hD : L ++ (Ms.take (t' + 1) ++ (x :: (Ms.drop (t' + 1) ++ (Mu ++ R)))) = (L ++ Ms.take t') ++ Ms[t'] :: ([] ++ x :: (Ms.drop (t' + 1) ++ (Mu ++ R))) := by
              rw [List.take_succ_eq_append_getElem htl]
              simp only [List.append_assoc, List.cons_append, List.nil_append]
            have hD2 : (L ++ Ms.take t') ++ x :: ([] ++ Ms[t'] :: (Ms.drop (t' + 1) ++ (Mu ++ R))) = L ++ (Ms.take t' ++ (x :: (Ms.drop t' ++ (Mu ++ R)))) := by
              rw [List.drop_eq_getElem_cons htl]
              simp only [List.append_assoc, List.cons_append, List.nil_append]
            obtain ⟨g1, g2, _, g4⟩ := swap_list (L ++ Ms.take t') [] (Ms.drop (t' + 1) ++ (Mu ++ R)) Ms[t'] x
            have hl1 : (L ++ Ms.take t').length = a + t' := by rw [List.length_append, List.length_take]; omega
            have hl2 : (L ++ Ms.take t').length + 1 + ([] : List Int).length = a + (t' + 1) := by rw [hl1, List.length_nil]; omega
            have hDl : (L ++ (Ms.take (t' + 1) ++ (x :: (Ms.drop (t' + 1) ++ (Mu ++ R))))).length = a + (t' + 1) + 1 + ((Ms.length - (t' + 1)) + (Mu.length + R.length)) := by simp only [List.length_append, List.length_cons, List.length_take, List.length_drop]; omega
            rw [← hD, hl1] at g1
            rw [← hD, hl2] at g2
            rw [← hD, hl2, hl1, hD2] at g4
            obtain ⟨bk, rfl⟩ := S.ownAt (by rw [hDl]; omega)
            have r1 := own_rd S g1
            have r2 := own_rd S g2
            have w2 : IntKind.i64.wrap (((a + (t' + 1) : Nat) : Int) - 1) = ((a + t' : Nat) : Int) := subI (a := a + (t' + 1)) (b := 1) (c := a + t') (by omega) (by omega)
            (try simp (maxSteps := 1000000) (disch := first | omega | assumption | exact Nat.le_of_ble_eq_true rfl) only [go_sem, ↓mwp_block, simprocAttr])
            refine draw_eq ?_
            (try simp (maxSteps := 1000000) (disch := first | omega | assumption | exact Nat.le_of_ble_eq_true rfl) only [go_sem, ↓mwp_block, simprocAttr, q0, e0, q9, w2, r1, r2])
            refine st_setOwn (i := a + (t' + 1)) (x := Ms[t']) zEnc_len S (by rw [hDl]; omega) rfl rfl rfl rfl ?_
            clear S r1 r2
            intro h S
            (try simp (maxSteps := 1000000) (disch := first | omega | assumption | exact Nat.le_of_ble_eq_true rfl) only [go_sem, ↓mwp_block, simprocAttr])
            refine st_setOwn (i := a + t') (x := x) zEnc_len S (by rw [List.length_set, hDl]; omega) rfl rfl rfl rfl ?_
            clear S
            intro h S
            rw [g4] at S
            (try simp (maxSteps := 1000000) (disch := first | omega | assumption | exact Nat.le_of_ble_eq_true rfl) only [go_sem, ↓mwp_block, simprocAttr, q9, w2])
            refine hJ1 _ _ ?_ ?_
            · (try simp (maxSteps := 1000000) (disch := first | omega | assumption | exact Nat.le_of_ble_eq_true rfl) only [go_sem, ↓mwp_block, simprocAttr, q0, q1, q2, q3, q8])
              refine ⟨t', rfl, by omega, fun y hy => ?_, S⟩
              rw [List.drop_eq_getElem_cons htl] at hy
              rcases List.mem_cons.1 hy with rfl | hy
              · exact .inl hlt
              · exact hdr y hy
            · (try simp (maxSteps := 1000000) (disch := first | omega | assumption | exact Nat.le_of_ble_eq_true rfl) only [go_sem, ↓mwp_block, simprocAttr, o9])
              omega
          · have w8 : IntKind.i64.wrap (((a + k : Nat) : Int) + 1) = ((a + (k + 1) : Nat) : Int) := addI (a := a + k) (b := 1) (by omega) (by omega)
            (try simp (maxSteps := 1000000) (disch := first | omega | assumption | exact Nat.le_of_ble_eq_true rfl) only [go_sem, ↓mwp_block, simprocAttr, q8, e8, w8])
            refine hrest (by (try simp (maxSteps := 1000000) (disch := first | omega | assumption | exact Nat.le_of_ble_eq_true rfl) only [go_sem, ↓mwp_block, simprocAttr, q0])) (by (try simp (maxSteps := 1000000) (disch := first | omega | assumption | exact Nat.le_of_ble_eq_true rfl) only [go_sem, ↓mwp_block, simprocAttr, q1])) (by (try simp (maxSteps := 1000000) (disch := first | omega | assumption | exact Nat.le_of_ble_eq_true rfl) only [go_sem, ↓mwp_block, simprocAttr, q2])) (by (try simp (maxSteps := 1000000) (disch := first | omega | assumption | exact Nat.le_of_ble_eq_true rfl) only [go_sem, ↓mwp_block, simprocAttr, q3])) (by (try simp (maxSteps := 1000000) (disch := first | omega | assumption | exact Nat.le_of_ble_eq_true rfl) only [go_sem, ↓mwp_block, simprocAttr])) ?_ S
            intro y hy
            have ht0 : 0 < t := by
              apply Nat.pos_of_ne_zero
              intro h0
              subst h0
              simp at hy
            have htl : t - 1 < Ms.length := by omega
            have hget : (Ms.take t)[t - 1]? = some Ms[t - 1] := by rw [List.getElem?_take_of_lt (by omega), List.getElem?_eq_getElem htl]
            have hn' : ¬ Kf Ms[t - 1] < Kf x := fun h => had ⟨_, hget, ht0, h⟩
            have hlast : Rk Kf Ms[t - 1] x := by
              have := (hmem _ (List.getElem_mem htl)).2
              unfold Rk
              omega
            obtain ⟨j, hj, rfl⟩ := List.mem_iff_getElem.1 hy
            rw [List.length_take] at hj
            rw [List.getElem_take]
            by_cases e : j = t - 1
            · subst e; exact hlast
            · exact (List.pairwise_iff_getElem.1 hso j (t - 1) (by omega) htl (by omega)).trans hlast
    · (try simp (maxSteps := 1000000) (disch := first | omega | assumption | exact Nat.le_of_ble_eq_true rfl) only [go_sem, ↓mwp_block, simprocAttr])
      refine hK _ _ ⟨Ms, ?_, hso, ?_⟩
      · rw [List.take_of_length_le (by omega)] at hp
        exact hp
      · rw [List.drop_eq_nil_of_le (by omega), List.nil_append] at S
        exact S
end
end Go.Proofs.Ytnjjdpeglkiifaa.MX
