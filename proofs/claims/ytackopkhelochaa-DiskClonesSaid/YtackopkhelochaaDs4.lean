/- The program's disk and the reference's are alike (law01.same): begun. -/
import Derived.Test.YtackopkhelochaaDs3
namespace Go.Proofs.Ytackopkhelochaa.MX
open Go Go.Proofs
set_option linter.unusedSimpArgs false
set_option linter.unusedVariables false
set_option maxHeartbeats 2000000 in
theorem same_ok {h0 h : Heap} {l : List HP} {d w : Nat} {D : Dk} (S : St h0 h (diskA d D :: refA w D :: l)) (ok : D.ok) :
    CallsH Try.prog 47 [.pointer (some ⟨d, 0, none⟩), .pointer (some ⟨w, 0, none⟩)] h fun v h' => v = .bool true ∧ St h0 h' (diskA d D :: refA w D :: l) := by
  have S2 := S.p1
  obtain ⟨zs, hz, h8, Sr⟩ := refA_open.1 S2
  have hlo := rcells_lost (cap := D.cap) (fuse := D.fuse) (lost := D.lost) h8
  (refine enterK c_recouplaw01_same (Nat.le_of_ble_eq_true rfl) fun K hK => ?_; (try simp (maxSteps := 1000000) (disch := first | omega | assumption | exact Nat.le_of_ble_eq_true rfl) only [go_sem, ↓mwp_block, simprocAttr, ir_recouplaw01_same]))
  refine draw_eq ?_
  (try simp (maxSteps := 1000000) (disch := first | omega | assumption | exact Nat.le_of_ble_eq_true rfl) only [go_sem, ↓mwp_block, simprocAttr])
  refine call_intro (Room_ok S ok) ?_
  rintro _ _ ⟨rfl, rfl⟩
  (try simp (maxSteps := 1000000) (disch := first | omega | assumption | exact Nat.le_of_ble_eq_true rfl) only [go_sem, ↓mwp_block, simprocAttr])
  refine call_intro (RRoom_ok S2 ok) ?_
  rintro _ _ ⟨rfl, rfl⟩
  have F := Sr.all
  simp only [all_cons, says_cell] at F
  (try simp (maxSteps := 1000000) (disch := first | omega | assumption | exact Nat.le_of_ble_eq_true rfl) only [go_sem, ↓mwp_block, simprocAttr, F, hlo])
  refine call_intro (Lost_ok S) ?_
  rintro _ _ ⟨rfl, rfl⟩
  (try simp (maxSteps := 1000000) (disch := first | omega | assumption | exact Nat.le_of_ble_eq_true rfl) only [go_sem, ↓mwp_block, simprocAttr, F, hlo])
  have hL : (!(D.lost == D.lost)) = false := by simp
  rw [hL]
  (try simp (maxSteps := 1000000) (disch := first | omega | assumption | exact Nat.le_of_ble_eq_true rfl) only [go_sem, ↓mwp_block, simprocAttr])
  refine loop_intro (fun ρ h' => St h0 h' (diskA d D :: refA w D :: l) ∧ ρ 0 = .pointer (some ⟨d, 0, none⟩) ∧ ρ 1 = .pointer (some ⟨w, 0, none⟩) ∧ ∃ i : Nat, ρ 22 = .int .i64 i ∧ i ≤ 8) (fun ρ _ => 8 - (iv (ρ 22)).toNat) ?_ ?_
  · (try simp (maxSteps := 1000000) (disch := first | omega | assumption | exact Nat.le_of_ble_eq_true rfl) only [go_sem, ↓mwp_block, simprocAttr])
    exact ⟨S, 0, rfl, by omega⟩
  · clear S S2 Sr F
    rintro ρ h J hJ ⟨S, e0, e1, i, e22, hi⟩
    (try simp (maxSteps := 1000000) (disch := first | omega | assumption | exact Nat.le_of_ble_eq_true rfl) only [go_sem, ↓mwp_block, simprocAttr, e22])
    refine cond_dec (fun hg => ?_) (fun hg => ?_)
    · obtain ⟨zs, hz, h8, Sr⟩ := refA_open.1 S.p1
      have hlo := rcells_lost (cap := D.cap) (fuse := D.fuse) (lost := D.lost) h8
      have hn : (0 : Int) ≤ (i : Int) ∧ (i : Int) < 8 := by omega
      have hlt : (i : Int).toNat < zs.length := by omega
      have hfo := rsnd hz hn hlt
      simp only [Int.toNat_natCast] at hlt hfo
      have hc0 := rcells_at (cap := D.cap) (fuse := D.fuse) (lost := D.lost) (k := 0) hlt (by omega)
      have hc1 := rcells_at (cap := D.cap) (fuse := D.fuse) (lost := D.lost) (k := 1) hlt (by omega)
      have hc2 := rcells_at (cap := D.cap) (fuse := D.fuse) (lost := D.lost) (k := 2) hlt (by omega)
      have Sp := row_pick hlt Sr
      generalize hzz : zs[i] = z at hc0 hc1 hc2 hfo Sp
      obtain ⟨s, o⟩ := z
      simp only [rcell, List.getElem?_cons_succ, List.getElem?_cons_zero, Nat.add_zero] at hc0 hc1 hc2 hfo
      obtain ⟨B, e, hs⟩ := St.sl (xs := bsF o) Sp
      simp only at hs
      subst hs
      have hzo : szF o = (bsF o).length := by cases o <;> rfl
      have F := Sr.all
      simp only [all_cons, says_cell] at F
      (try simp (maxSteps := 1000000) (disch := first | omega | assumption | exact Nat.le_of_ble_eq_true rfl) only [go_sem, ↓mwp_block, simprocAttr, e0, e1, e22])
      refine draw_eq ?_
      (try simp (maxSteps := 1000000) (disch := first | omega | assumption | exact Nat.le_of_ble_eq_true rfl) only [go_sem, ↓mwp_block, simprocAttr, e0, e1, e22, F, hc0])
      refine call_intro (Has_ok i S) ?_
      rintro _ _ ⟨rfl, rfl⟩
      rw [hfo]
      have hL0 : (!(o.isSome == o.isSome)) = false := by simp
      (try simp (maxSteps := 1000000) (disch := first | omega | assumption | exact Nat.le_of_ble_eq_true rfl) only [go_sem, ↓mwp_block, simprocAttr, e0, e1, e22, F, hc1, hL0])
      refine call_intro (Size_ok i S) ?_
      rintro _ _ ⟨rfl, rfl⟩
      rw [hfo, hzo]
      (try simp (maxSteps := 1000000) (disch := first | omega | assumption | exact Nat.le_of_ble_eq_true rfl) only [go_sem, ↓mwp_block, simprocAttr, e0, e1, e22, F, hc2])
      refine call_intro (Safe_ok i S) ?_
      rintro _ _ ⟨rfl, rfl⟩
      rw [hfo]
      (try simp (maxSteps := 1000000) (disch := first | omega | assumption | exact Nat.le_of_ble_eq_true rfl) only [go_sem, ↓mwp_block, simprocAttr, e0, e1, e22, F])
      have S3 : St h0 _ (diskA d D :: cellA w (rcells D.cap zs D.fuse D.lost) 116 :: (zs.map rslotA ++ l)) := Sr.perm ((List.Perm.cons _ List.perm_middle).trans (List.Perm.swap _ _ _))
      have hth : thereE D i = if D.lost then 6 else if o.isNone then 7 else 0 := by
        unfold thereE askE
        rw [hfo, if_pos hn]
        cases D.lost <;> simp
      have back : ∀ {h : Heap}, St h0 h (diskA d D :: cellA w (rcells D.cap zs D.fuse D.lost) 116 :: (zs.map rslotA ++ l)) → St h0 h (diskA d D :: refA w D :: l) := fun S => (refA_open.2 ⟨zs, hz, h8, S.p1.perm (List.Perm.cons _ List.perm_middle.symm)⟩).p1
      clear S Sr Sp F
      refine call_intro (Read_ok i S3 ok) ?_
      clear S3
      rintro _ h (⟨hne, rfl, S⟩ | ⟨hne, sv, f, hf, rfl, S⟩)
      · ((try clear F); have F := S.all; (try simp only [all_cons, all_nil, says_cell, and_true] at F))
        by_cases hd : D.lost = true
        · have hlo : (rcells D.cap zs D.fuse D.lost)[26]? = some (.bool true) := by rw [hlo, hd]
          have hth : thereE D i = 6 := by rw [hth, hd]; rfl
          rw [hth]
          (try simp (maxSteps := 1000000) (disch := first | omega | assumption | exact Nat.le_of_ble_eq_true rfl) only [go_sem, ↓mwp_block, simprocAttr, e1, F, hlo, e22])
          refine hJ _ _ ?_ ?_
          · (try simp (maxSteps := 1000000) (disch := first | omega | assumption | exact Nat.le_of_ble_eq_true rfl) only [go_sem, ↓mwp_block, simprocAttr, e0, e1, e22])
            exact ⟨back S, i + 1, rfl, by omega⟩
          · (try simp (maxSteps := 1000000) (disch := first | omega | assumption | exact Nat.le_of_ble_eq_true rfl) only [go_sem, ↓mwp_block, simprocAttr, e22])
            omega
        · have hd : D.lost = false := by simpa using hd
          have hlo : (rcells D.cap zs D.fuse D.lost)[26]? = some (.bool false) := by rw [hlo, hd]
          cases o with
          | some f => rw [hth, hd] at hne; simp at hne
          | none =>
            have hth : thereE D i = 7 := by rw [hth, hd]; rfl
            rw [hth]
            simp only [Option.isSome_none] at hc0
            (try simp (maxSteps := 1000000) (disch := first | omega | assumption | exact Nat.le_of_ble_eq_true rfl) only [go_sem, ↓mwp_block, simprocAttr, F, hlo, hc0, e1, e22])
            refine hJ _ _ ?_ ?_
            · (try simp (maxSteps := 1000000) (disch := first | omega | assumption | exact Nat.le_of_ble_eq_true rfl) only [go_sem, ↓mwp_block, simprocAttr, e0, e1, e22])
              exact ⟨back S, i + 1, rfl, by omega⟩
            · (try simp (maxSteps := 1000000) (disch := first | omega | assumption | exact Nat.le_of_ble_eq_true rfl) only [go_sem, ↓mwp_block, simprocAttr, e22])
              omega
      · rw [hth] at hne
        rw [hfo] at hf
        subst hf
        have hd : D.lost = false := by
          cases hd : D.lost
          · rfl
          · rw [hd] at hne; simp at hne
        have hlo : (rcells D.cap zs D.fuse D.lost)[26]? = some (.bool false) := by rw [hlo, hd]
        simp only [Option.isSome_some] at hc0
        obtain ⟨B2, e2, rfl⟩ := S.sl
        ((try clear F); have F := S.all; (try simp only [all_cons, all_nil, says_cell, and_true] at F))
        (try simp (maxSteps := 1000000) (disch := first | omega | assumption | exact Nat.le_of_ble_eq_true rfl) only [go_sem, ↓mwp_block, simprocAttr, F, hlo, hc0, hc1, e1, e22])
        have harr : Arr bEnc 1 h B f.bs := by
          have := row_pick (F := rslotA) hlt S.tl.tl
          rw [hzz] at this
          exact St.arr (xs := f.bs) this bEnc_len
        have hbig : f.bs.length < 1000000000 := by
          have hsz := used_get (fs := D.fs) (k := i) (by have := ok.len; omega)
          have hfi : D.fs[i]'(by have := ok.len; omega) = some f := by
            rw [← Option.some.injEq, ← List.getElem?_eq_getElem, ← hz, List.getElem?_map, List.getElem?_eq_getElem hlt, hzz]
            rfl
          rw [hfi] at hsz
          have := ok.room
          have := ok.cap
          simp only [szF] at hsz
          omega
        refine call_intro (Bytes_ok (xs := f.bs) (ys := f.bs) (S.arr bEnc_len) harr hbig hbig) ?_
        rintro _ _ ⟨rfl, rfl⟩
        (try simp (maxSteps := 1000000) (disch := first | omega | assumption | exact Nat.le_of_ble_eq_true rfl) only [go_sem, ↓mwp_block, simprocAttr, e22])
        refine hJ _ _ ?_ ?_
        · (try simp (maxSteps := 1000000) (disch := first | omega | assumption | exact Nat.le_of_ble_eq_true rfl) only [go_sem, ↓mwp_block, simprocAttr, e0, e1, e22])
          exact ⟨back S.tl, i + 1, rfl, by omega⟩
        · (try simp (maxSteps := 1000000) (disch := first | omega | assumption | exact Nat.le_of_ble_eq_true rfl) only [go_sem, ↓mwp_block, simprocAttr, e22])
          omega
    · (try simp (maxSteps := 1000000) (disch := first | omega | assumption | exact Nat.le_of_ble_eq_true rfl) only [go_sem, ↓mwp_block, simprocAttr])
      exact hK _ _ ⟨rfl, S⟩
end Go.Proofs.Ytackopkhelochaa.MX
