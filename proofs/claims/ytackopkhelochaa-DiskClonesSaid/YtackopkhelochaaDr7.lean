/- The reference's disk: rename. -/
import Derived.Test.YtackopkhelochaaDr6
namespace Go.Proofs.Ytackopkhelochaa.MX
open Go Go.Proofs
set_option linter.unusedSimpArgs false
set_option linter.unusedVariables false

theorem row_move {α : Type} {F : α → HP} {h0 h : Heap} {l : List HP} {X : HP} {zs : List α} {a b : Nat} {z0 : α} (hab : a ≠ b) (ha : a < zs.length) (hb : b < zs.length) (Z : ∀ {l : List HP}, St h0 h l → St h0 h (F z0 :: l)) (S : St h0 h (X :: (zs.map F ++ l))) :
    St h0 h (X :: (((zs.set b zs[a]).set a z0).map F ++ l)) := by
  have S1 := row_pick ha S
  have S2 : St h0 h (F z0 :: X :: ((zs.take a ++ zs.drop (a + 1)).map F ++ (F zs[a] :: l))) := Z (S1.perm ((List.Perm.swap _ _ _).trans (List.Perm.cons X List.perm_middle.symm)))
  have S3 := row_put ha S2
  have S4 := row_swap (z := zs[a]) (n := b) (zs := zs.set a z0) (by simpa using hb) (S3.perm (List.Perm.cons X List.perm_middle))
  rwa [List.set_comm _ _ hab] at S4
theorem rcells_part {cap fuse : Int} {lost : Bool} {zs : List RSlot} {n : Nat} (hn : n < zs.length) : ((rcells cap zs fuse lost).drop (1 + n * 3)).take 3 = rcell zs[n] := by
  have h1 := flat_get rcell_len zs [.int .i64 fuse, .bool lost] n hn
  rw [rcells, Nat.add_comm 1, List.drop_succ_cons]
  exact h1

set_option maxRecDepth 4000 in
set_option maxHeartbeats 8000000 in
theorem RAct3_ok (a b : Int) (v : Value) {h0 h : Heap} {l : List HP} {w : Nat} {D : Dk} (S : St h0 h (refA w D :: l)) (ok : D.ok) :
    CallsH Try.prog 46 [.pointer (some ⟨w, 0, none⟩), .int .i64 3, .int .i64 a, .int .i64 b, v] h fun v h' => v = .int .i64 (renameD D a b).2 ∧ St h0 h' (refA w (renameD D a b).1 :: l) := by
  have S0 := S
  obtain ⟨zs, hz, h8, S⟩ := refA_open.1 S
  have hlo := rcells_lost (cap := D.cap) (fuse := D.fuse) (lost := D.lost) h8
  have hfu := rcells_fuse (cap := D.cap) (fuse := D.fuse) (lost := D.lost) h8
  obtain ⟨hf1, hf2⟩ := ok.fuse
  (refine enterK c_recoupref01_Disk_Act (Nat.le_of_ble_eq_true rfl) fun K hK => ?_; (try simp (maxSteps := 1000000) (disch := first | omega | assumption | exact Nat.le_of_ble_eq_true rfl) only [go_sem, ↓mwp_block, simprocAttr, ir_recoupref01_Disk_Act]))
  ((try clear F); have F := S.all; (try simp only [all_cons, all_nil, says_cell, and_true] at F))
  (try simp (maxSteps := 1000000) (disch := first | omega | assumption | exact Nat.le_of_ble_eq_true rfl) only [go_sem, ↓mwp_block, simprocAttr, F, hlo])
  cases hd : D.lost
  · have hask : ∀ n, ¬ (0 ≤ n ∧ n < 8) → askE D n = 1 := fun n hn => by simp only [askE, hd, Bool.false_eq_true, if_false]; rw [if_neg hn]
    have hask0 : ∀ n, (0 ≤ n ∧ n < 8) → askE D n = 0 := fun n hn => by simp only [askE, hd, Bool.false_eq_true, if_false]; rw [if_pos hn]
    have bada : ¬ (0 ≤ a ∧ a < 8) → renameD D a b = (D, 1) := fun hn => by simp [renameD, hask a hn]
    have badb : (0 ≤ a ∧ a < 8) → ¬ (0 ≤ b ∧ b < 8) → renameD D a b = (D, 1) := fun h1 hn => by simp [renameD, hask b hn, hask0 a h1]
    by_cases hn0 : a < 0
    · (try simp (maxSteps := 1000000) (disch := first | omega | assumption | exact Nat.le_of_ble_eq_true rfl) only [go_sem, ↓mwp_block, simprocAttr, hd])
      refine hK _ _ ?_
      rw [bada (by omega)]
      exact ⟨rfl, S0⟩
    by_cases hn1 : 7 < a
    · (try simp (maxSteps := 1000000) (disch := first | omega | assumption | exact Nat.le_of_ble_eq_true rfl) only [go_sem, ↓mwp_block, simprocAttr, hd])
      refine hK _ _ ?_
      rw [bada (by omega)]
      exact ⟨rfl, S0⟩
    by_cases hb0 : b < 0
    · (try simp (maxSteps := 1000000) (disch := first | omega | assumption | exact Nat.le_of_ble_eq_true rfl) only [go_sem, ↓mwp_block, simprocAttr, hd])
      refine hK _ _ ?_
      rw [badb (by omega) (by omega)]
      exact ⟨rfl, S0⟩
    by_cases hb1 : 7 < b
    · (try simp (maxSteps := 1000000) (disch := first | omega | assumption | exact Nat.le_of_ble_eq_true rfl) only [go_sem, ↓mwp_block, simprocAttr, hd])
      refine hK _ _ ?_
      rw [badb (by omega) (by omega)]
      exact ⟨rfl, S0⟩
    have hn : 0 ≤ a ∧ a < 8 := by omega
    have hae := hask0 a hn
    have hbe := hask0 b (by omega)
    have hlt : a.toNat < zs.length := by omega
    have hltb : b.toNat < zs.length := by omega
    have hc0 := rcells_at (cap := D.cap) (fuse := D.fuse) (lost := D.lost) (k := 0) hlt (by omega)
    have hc1 := fun fu lo => rcells_at (cap := D.cap) (fuse := fu) (lost := lo) (k := 1) hlt (by omega)
    have hc2 := fun fu lo => rcells_at (cap := D.cap) (fuse := fu) (lost := lo) (k := 2) hlt (by omega)
    have hpt := fun fu lo => rcells_part (cap := D.cap) (fuse := fu) (lost := lo) hlt
    have hfo := rsnd hz hn hlt
    have hmv := fun (h : Heap) (X : HP) (hab : a.toNat ≠ b.toNat) (S : St h0 h (X :: (zs.map rslotA ++ l))) => row_move (z0 := (Value.slice none 0 0, none)) hab hlt hltb (fun S => S.nilS) S
    rw [hd] at hc0 hfu
    have Sp := row_pick hlt S
    generalize hzz : zs[a.toNat] = z at hc0 hc1 hc2 hpt hfo hmv Sp
    obtain ⟨s, o⟩ := z
    simp only [rcell, List.getElem?_cons_succ, List.getElem?_cons_zero, Nat.add_zero] at hc0 hc1 hc2 hfo hpt
    cases o with
    | none =>
      simp only [Option.isSome_none] at hc0
      (try simp (maxSteps := 1000000) (disch := first | omega | assumption | exact Nat.le_of_ble_eq_true rfl) only [go_sem, ↓mwp_block, simprocAttr, hd, F, hc0])
      refine hK _ _ ?_
      simp only [renameD, hae, hbe, hfo, ne_eq, not_true_eq_false, if_false, Option.isNone_none, if_true]
      exact ⟨trivial, S0⟩
    | some f =>
      obtain ⟨B, e, hs⟩ := St.sl (xs := f.bs) Sp
      simp only at hs
      subst hs
      simp only [Option.isSome_some, safeF] at hc0 hc2 hpt
      have hsafe := ok.safe f (by rw [← hz]; exact List.mem_map.2 ⟨zs[a.toNat], List.getElem_mem hlt, by rw [hzz]⟩)
      (try simp (maxSteps := 1000000) (disch := first | omega | assumption | exact Nat.le_of_ble_eq_true rfl) only [go_sem, ↓mwp_block, simprocAttr, hd, F, hc0])
      refine draw_eq ?_
      by_cases hab : a = b
      · (try simp (maxSteps := 1000000) (disch := first | omega | assumption | exact Nat.le_of_ble_eq_true rfl) only [go_sem, ↓mwp_block, simprocAttr, hd, F, hc1, hc2])
        refine hK _ _ ?_
        simp only [renameD, hae, hbe, ne_eq, not_true_eq_false, if_false, hfo, Option.isNone_some, Bool.false_eq_true, Option.getD_some, if_pos (Or.inl hab : a = b ∨ f.safe < f.bs.length)]
        exact ⟨trivial, S0⟩
      by_cases hsf : f.safe < f.bs.length
      · (try simp (maxSteps := 1000000) (disch := first | omega | assumption | exact Nat.le_of_ble_eq_true rfl) only [go_sem, ↓mwp_block, simprocAttr, hd, F, hc1, hc2])
        refine hK _ _ ?_
        simp only [renameD, hae, hbe, ne_eq, not_true_eq_false, if_false, hfo, Option.isNone_some, Bool.false_eq_true, Option.getD_some, if_pos (Or.inr hsf : a = b ∨ f.safe < f.bs.length)]
        exact ⟨trivial, S0⟩
      have hno : ¬ (a = b ∨ f.safe < f.bs.length) := by omega
      have hab' : a.toNat ≠ b.toNat := by omega
      (try simp (maxSteps := 1000000) (disch := first | omega | assumption | exact Nat.le_of_ble_eq_true rfl) only [go_sem, ↓mwp_block, simprocAttr, hd, F, hc1, hc2, hfu])
      by_cases hz0 : D.fuse = 0
      · (try simp (maxSteps := 1000000) (disch := first | omega | assumption | exact Nat.le_of_ble_eq_true rfl) only [go_sem, ↓mwp_block, simprocAttr])
        refine st_store S rfl rfl (by rw [rcells_len h8]; omega) ?_
        clear S F
        intro h S
        rw [rcells_setL h8] at S
        (try simp (maxSteps := 1000000) (disch := first | omega | assumption | exact Nat.le_of_ble_eq_true rfl) only [go_sem, ↓mwp_block, simprocAttr])
        refine hK _ _ ?_
        simp only [renameD, hae, hbe, ne_eq, not_true_eq_false, if_false, hfo, Option.isNone_some, Bool.false_eq_true, Option.getD_some, if_neg hno, if_pos hz0]
        exact ⟨trivial, refA_open.2 ⟨zs, hz, h8, S⟩⟩
      · have last : ∀ (fu : Int) (h : Heap), fu = burnF D.fuse → St h0 h (cellA w (splice (rcells D.cap (zs.set b.toNat (.slice B f.bs.length e, some f)) fu D.lost) (1 + a.toNat * 3) [.bool false, .slice none 0 0, .int .i64 0]) 116 :: (zs.map rslotA ++ l)) → (Value.int .i64 0 = .int .i64 (renameD D a b).2 ∧ St h0 h (refA w (renameD D a b).1 :: l)) := by
          intro fu h hfe S
          have hset := rcells_set (cap := D.cap) (fuse := fu) (lost := D.lost) (zs := zs.set b.toNat (.slice B f.bs.length e, some f)) (n := a.toNat) (by simpa using hlt) (.slice none 0 0, none)
          simp only [rcell, Option.isSome_none, safeF] at hset
          rw [show (((0 : Nat) : Int)) = 0 from rfl] at hset
          rw [hset] at S
          have S := hmv _ _ hab' S
          simp only [renameD, hae, hbe, ne_eq, not_true_eq_false, if_false, hfo, Option.isNone_some, Bool.false_eq_true, Option.getD_some, if_neg hno, if_neg hz0]
          refine ⟨trivial, refA_open.2 ⟨_, ?_, ?_, by rw [← hfe]; exact S⟩⟩
          · rw [List.map_set, List.map_set, hz]
          · simpa using h8
        have hsb := fun fu lo => rcells_set (cap := D.cap) (fuse := fu) (lost := lo) hltb (.slice B f.bs.length e, some f)
        simp only [rcell, Option.isSome_some, safeF] at hsb
        by_cases hp : 0 < D.fuse
        · (try simp (maxSteps := 1000000) (disch := first | omega | assumption | exact Nat.le_of_ble_eq_true rfl) only [go_sem, ↓mwp_block, simprocAttr, hd, F, hfu])
          refine st_store S rfl rfl (by rw [rcells_len h8]; omega) ?_
          clear S F
          intro h S
          rw [rcells_setF h8] at S
          have hbu : burnF D.fuse = D.fuse - 1 := by rw [burnF, if_pos hp]
          clear hfu hlo
          generalize hfe : D.fuse - 1 = fu at S hbu
          have hrd : rdN h w (1 + a.toNat * 3) 3 = some [Value.bool true, .slice B f.bs.length e, .int .i64 f.safe] := by rw [st_rdN S (by rw [rcells_len h8]; omega), hpt]
          (try simp (maxSteps := 1000000) (disch := first | omega | assumption | exact Nat.le_of_ble_eq_true rfl) only [go_sem, ↓mwp_block, simprocAttr])
          refine draw_eq ?_
          (try simp (maxSteps := 1000000) (disch := first | omega | assumption | exact Nat.le_of_ble_eq_true rfl) only [go_sem, ↓mwp_block, simprocAttr, hrd])
          refine st_store S rfl rfl (by rw [rcells_len h8]; omega) ?_
          clear S
          intro h S
          rw [hsb] at S
          (try simp (maxSteps := 1000000) (disch := first | omega | assumption | exact Nat.le_of_ble_eq_true rfl) only [go_sem, ↓mwp_block, simprocAttr])
          refine st_store S rfl rfl (by rw [rcells_len (by simpa using h8)]; omega) ?_
          clear S
          intro h S
          (try simp (maxSteps := 1000000) (disch := first | omega | assumption | exact Nat.le_of_ble_eq_true rfl) only [go_sem, ↓mwp_block, simprocAttr])
          exact hK _ _ (last _ h hbu.symm S)
        · have hbu : burnF D.fuse = D.fuse := by rw [burnF, if_neg hp]
          have hrd : rdN h w (1 + a.toNat * 3) 3 = some [Value.bool true, .slice B f.bs.length e, .int .i64 f.safe] := by rw [st_rdN S (by rw [rcells_len h8]; omega), hpt]
          (try simp (maxSteps := 1000000) (disch := first | omega | assumption | exact Nat.le_of_ble_eq_true rfl) only [go_sem, ↓mwp_block, simprocAttr, hd, F, hfu])
          refine draw_eq ?_
          (try simp (maxSteps := 1000000) (disch := first | omega | assumption | exact Nat.le_of_ble_eq_true rfl) only [go_sem, ↓mwp_block, simprocAttr, hrd])
          refine st_store S rfl rfl (by rw [rcells_len h8]; omega) ?_
          clear S F
          intro h S
          rw [hsb] at S
          (try simp (maxSteps := 1000000) (disch := first | omega | assumption | exact Nat.le_of_ble_eq_true rfl) only [go_sem, ↓mwp_block, simprocAttr])
          refine st_store S rfl rfl (by rw [rcells_len (by simpa using h8)]; omega) ?_
          clear S
          intro h S
          (try simp (maxSteps := 1000000) (disch := first | omega | assumption | exact Nat.le_of_ble_eq_true rfl) only [go_sem, ↓mwp_block, simprocAttr])
          exact hK _ _ (last _ h hbu.symm S)
  · (try simp (maxSteps := 1000000) (disch := first | omega | assumption | exact Nat.le_of_ble_eq_true rfl) only [go_sem, ↓mwp_block, simprocAttr, hd])
    refine hK _ _ ?_
    have ha : askE D a = 6 := by simp only [askE, hd, if_true]
    simp only [renameD, ha, ne_eq, show ¬ ((6 : Int) = 0) by decide, not_false_eq_true, if_true]
    exact ⟨trivial, S0⟩
end Go.Proofs.Ytackopkhelochaa.MX
