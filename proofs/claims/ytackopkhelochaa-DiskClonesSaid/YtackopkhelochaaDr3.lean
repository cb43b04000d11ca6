/- The reference's disk: acts that look, light a fuse, remove, sync. -/
import Derived.Test.YtackopkhelochaaDr2
namespace Go.Proofs.Ytackopkhelochaa.MX
open Go Go.Proofs
set_option linter.unusedSimpArgs false
set_option linter.unusedVariables false

theorem RAct5_ok (a n : Int) (v : Value) {h0 h : Heap} {l : List HP} {w : Nat} {D : Dk} (S : St h0 h (refA w D :: l)) :
    CallsH Try.prog 46 [.pointer (some ⟨w, 0, none⟩), .int .i64 5, .int .i64 a, .int .i64 n, v] h fun v h' => v = .int .i64 (fuseD D n).2 ∧ St h0 h' (refA w (fuseD D n).1 :: l) := by
  obtain ⟨zs, hz, h8, S⟩ := refA_open.1 S
  have hlo := rcells_lost (cap := D.cap) (fuse := D.fuse) (lost := D.lost) h8
  obtain ⟨cap, fs, fuse, lost⟩ := D
  simp only at hz S hlo
  (refine enterK c_recoupref01_Disk_Act (Nat.le_of_ble_eq_true rfl) fun K hK => ?_; (try simp (maxSteps := 1000000) (disch := first | omega | assumption | exact Nat.le_of_ble_eq_true rfl) only [go_sem, ↓mwp_block, simprocAttr, ir_recoupref01_Disk_Act]))
  ((try clear F); have F := S.all; (try simp only [all_cons, all_nil, says_cell, and_true] at F))
  (try simp (maxSteps := 1000000) (disch := first | omega | assumption | exact Nat.le_of_ble_eq_true rfl) only [go_sem, ↓mwp_block, simprocAttr, F, hlo])
  cases lost
  · by_cases hn : n < 0
    · (try simp (maxSteps := 1000000) (disch := first | omega | assumption | exact Nat.le_of_ble_eq_true rfl) only [go_sem, ↓mwp_block, simprocAttr])
      refine hK _ _ ?_
      simp only [fuseD, Bool.false_eq_true, if_false, if_pos hn]
      exact ⟨trivial, refA_open.2 ⟨zs, hz, h8, S⟩⟩
    · (try simp (maxSteps := 1000000) (disch := first | omega | assumption | exact Nat.le_of_ble_eq_true rfl) only [go_sem, ↓mwp_block, simprocAttr])
      refine st_store S rfl rfl (by rw [rcells_len h8]; omega) ?_
      clear S F
      intro h S
      rw [rcells_setF h8] at S
      (try simp (maxSteps := 1000000) (disch := first | omega | assumption | exact Nat.le_of_ble_eq_true rfl) only [go_sem, ↓mwp_block, simprocAttr])
      refine hK _ _ ?_
      simp only [fuseD, Bool.false_eq_true, if_false, if_neg hn]
      exact ⟨trivial, refA_open.2 ⟨zs, hz, h8, S⟩⟩
  · (try simp (maxSteps := 1000000) (disch := first | omega | assumption | exact Nat.le_of_ble_eq_true rfl) only [go_sem, ↓mwp_block, simprocAttr])
    refine hK _ _ ?_
    simp only [fuseD, if_true]
    exact ⟨trivial, refA_open.2 ⟨zs, hz, h8, S⟩⟩
theorem rsnd {D : Dk} {zs : List RSlot} (hz : zs.map Prod.snd = D.fs) {n : Int} (hn : 0 ≤ n ∧ n < 8) (hl : n.toNat < zs.length) : fileOf D n = (zs[n.toNat]).2 := by
  rw [fileOf, if_pos hn, ← hz, List.getD_eq_getElem?_getD, List.getElem?_map, List.getElem?_eq_getElem hl]
  rfl

set_option maxHeartbeats 4000000 in
theorem RAct4_ok (n m : Int) (v : Value) {h0 h : Heap} {l : List HP} {w : Nat} {D : Dk} (S : St h0 h (refA w D :: l)) (ok : D.ok) :
    CallsH Try.prog 46 [.pointer (some ⟨w, 0, none⟩), .int .i64 4, .int .i64 n, .int .i64 m, v] h fun v h' => v = .int .i64 (removeD D n).2 ∧ St h0 h' (refA w (removeD D n).1 :: l) := by
  have S0 := S
  obtain ⟨zs, hz, h8, S⟩ := refA_open.1 S
  have hlo := rcells_lost (cap := D.cap) (fuse := D.fuse) (lost := D.lost) h8
  have hfu := rcells_fuse (cap := D.cap) (fuse := D.fuse) (lost := D.lost) h8
  obtain ⟨hf1, hf2⟩ := ok.fuse
  (refine enterK c_recoupref01_Disk_Act (Nat.le_of_ble_eq_true rfl) fun K hK => ?_; (try simp (maxSteps := 1000000) (disch := first | omega | assumption | exact Nat.le_of_ble_eq_true rfl) only [go_sem, ↓mwp_block, simprocAttr, ir_recoupref01_Disk_Act]))
  ((try clear F); have F := S.all; (try simp only [all_cons, all_nil, says_cell, and_true] at F))
  (try simp (maxSteps := 1000000) (disch := first | omega | assumption | exact Nat.le_of_ble_eq_true rfl) only [go_sem, ↓mwp_block, simprocAttr, F, hlo])
  cases hd : D.lost
  · by_cases hn0 : n < 0
    · (try simp (maxSteps := 1000000) (disch := first | omega | assumption | exact Nat.le_of_ble_eq_true rfl) only [go_sem, ↓mwp_block, simprocAttr, hd])
      refine hK _ _ ?_
      have ha : askE D n = 1 := by simp only [askE, hd, Bool.false_eq_true, if_false]; rw [if_neg (by omega)]
      simp only [removeD, thereE, ha, ne_eq, show ¬ ((1 : Int) = 0) by decide, not_false_eq_true, if_true]
      exact ⟨trivial, S0⟩
    by_cases hn1 : 7 < n
    · (try simp (maxSteps := 1000000) (disch := first | omega | assumption | exact Nat.le_of_ble_eq_true rfl) only [go_sem, ↓mwp_block, simprocAttr, hd])
      refine hK _ _ ?_
      have ha : askE D n = 1 := by simp only [askE, hd, Bool.false_eq_true, if_false]; rw [if_neg (by omega)]
      simp only [removeD, thereE, ha, ne_eq, show ¬ ((1 : Int) = 0) by decide, not_false_eq_true, if_true]
      exact ⟨trivial, S0⟩
    have hn : 0 ≤ n ∧ n < 8 := by omega
    have ha : askE D n = 0 := by simp only [askE, hd, Bool.false_eq_true, if_false]; rw [if_pos hn]
    have hlt : n.toNat < zs.length := by omega
    have hc0 := rcells_at (cap := D.cap) (fuse := D.fuse) (lost := D.lost) (k := 0) hlt (by omega)
    have hfo := rsnd hz hn hlt
    rw [hd] at hc0 hfu
    generalize hzz : zs[n.toNat] = z at hc0 hfo
    obtain ⟨s, o⟩ := z
    simp only [rcell, List.getElem?_cons_succ, List.getElem?_cons_zero, Nat.add_zero] at hc0 hfo
    cases o with
    | none =>
      simp only [Option.isSome_none] at hc0
      (try simp (maxSteps := 1000000) (disch := first | omega | assumption | exact Nat.le_of_ble_eq_true rfl) only [go_sem, ↓mwp_block, simprocAttr, hd, F, hc0])
      refine hK _ _ ?_
      simp only [removeD, thereE, ha, hfo, ne_eq, not_true_eq_false, if_false, Option.isNone_none, if_true, show ¬ ((7 : Int) = 0) by decide, not_false_eq_true]
      exact ⟨trivial, S0⟩
    | some f =>
      simp only [Option.isSome_some] at hc0
      have ht : thereE D n = 0 := by simp [thereE, ha, hfo]
      (try simp (maxSteps := 1000000) (disch := first | omega | assumption | exact Nat.le_of_ble_eq_true rfl) only [go_sem, ↓mwp_block, simprocAttr, hd, F, hc0, hfu])
      refine draw_eq ?_
      (try simp (maxSteps := 1000000) (disch := first | omega | assumption | exact Nat.le_of_ble_eq_true rfl) only [go_sem, ↓mwp_block, simprocAttr, hd, F, hc0, hfu])
      by_cases hz0 : D.fuse = 0
      · (try simp (maxSteps := 1000000) (disch := first | omega | assumption | exact Nat.le_of_ble_eq_true rfl) only [go_sem, ↓mwp_block, simprocAttr])
        refine st_store S rfl rfl (by rw [rcells_len h8]; omega) ?_
        clear S F
        intro h S
        rw [rcells_setL h8] at S
        (try simp (maxSteps := 1000000) (disch := first | omega | assumption | exact Nat.le_of_ble_eq_true rfl) only [go_sem, ↓mwp_block, simprocAttr])
        refine hK _ _ ?_
        simp only [removeD, ht, ne_eq, not_true_eq_false, if_false, if_pos hz0]
        exact ⟨trivial, refA_open.2 ⟨zs, hz, h8, S⟩⟩
      · have last : ∀ (fu : Int) (h : Heap), fu = burnF D.fuse → St h0 h (cellA w (splice (rcells D.cap zs fu D.lost) (1 + n.toNat * 3) [.bool false, .slice none 0 0, .int .i64 0]) 116 :: (zs.map rslotA ++ l)) → St h0 h (refA w (removeD D n).1 :: l) ∧ (removeD D n).2 = 0 := by
          intro fu h hfe S
          have hset := rcells_set (cap := D.cap) (fuse := fu) (lost := D.lost) hlt (.slice none 0 0, none)
          simp only [rcell, Option.isSome_none, safeF] at hset
          rw [show (((0 : Nat) : Int)) = 0 from rfl] at hset
          rw [hset] at S
          have S := row_swap (F := rslotA) (z := (Value.slice none 0 0, none)) hlt (S.nilS.p1)
          simp only [removeD, ht, ne_eq, not_true_eq_false, if_false, if_neg hz0]
          refine ⟨refA_open.2 ⟨zs.set n.toNat (.slice none 0 0, none), ?_, by simpa using h8, ?_⟩, trivial⟩
          · rw [List.map_set, hz]
          · rw [← hfe]
            exact S
        by_cases hp : 0 < D.fuse
        · (try simp (maxSteps := 1000000) (disch := first | omega | assumption | exact Nat.le_of_ble_eq_true rfl) only [go_sem, ↓mwp_block, simprocAttr, hd, F, hfu])
          refine st_store S rfl rfl (by rw [rcells_len h8]; omega) ?_
          clear S F
          intro h S
          rw [rcells_setF h8] at S
          (try simp (maxSteps := 1000000) (disch := first | omega | assumption | exact Nat.le_of_ble_eq_true rfl) only [go_sem, ↓mwp_block, simprocAttr])
          refine st_store S rfl rfl (by rw [rcells_len h8]; omega) ?_
          clear S
          intro h S
          (try simp (maxSteps := 1000000) (disch := first | omega | assumption | exact Nat.le_of_ble_eq_true rfl) only [go_sem, ↓mwp_block, simprocAttr])
          have := last (D.fuse - 1) h (by rw [burnF, if_pos hp]) S
          exact hK _ _ ⟨by rw [this.2], this.1⟩
        · (try simp (maxSteps := 1000000) (disch := first | omega | assumption | exact Nat.le_of_ble_eq_true rfl) only [go_sem, ↓mwp_block, simprocAttr, hd, F, hfu])
          refine st_store S rfl rfl (by rw [rcells_len h8]; omega) ?_
          clear S F
          intro h S
          (try simp (maxSteps := 1000000) (disch := first | omega | assumption | exact Nat.le_of_ble_eq_true rfl) only [go_sem, ↓mwp_block, simprocAttr])
          have := last D.fuse h (by rw [burnF, if_neg hp]) S
          exact hK _ _ ⟨by rw [this.2], this.1⟩
  · (try simp (maxSteps := 1000000) (disch := first | omega | assumption | exact Nat.le_of_ble_eq_true rfl) only [go_sem, ↓mwp_block, simprocAttr, hd])
    refine hK _ _ ?_
    have ha : askE D n = 6 := by simp only [askE, hd, if_true]
    simp only [removeD, thereE, ha, ne_eq, show ¬ ((6 : Int) = 0) by decide, not_false_eq_true, if_true]
    exact ⟨trivial, S0⟩
end Go.Proofs.Ytackopkhelochaa.MX
