/- The reference's disk: cut. -/
import Derived.Test.YtackopkhelochaaDr4
namespace Go.Proofs.Ytackopkhelochaa.MX
open Go Go.Proofs
set_option linter.unusedSimpArgs false
set_option linter.unusedVariables false

set_option maxHeartbeats 4000000 in
theorem RAct2_ok (n m : Int) (v : Value) {h0 h : Heap} {l : List HP} {w : Nat} {D : Dk} (S : St h0 h (refA w D :: l)) (ok : D.ok) :
    CallsH Try.prog 46 [.pointer (some ⟨w, 0, none⟩), .int .i64 2, .int .i64 n, .int .i64 m, v] h fun v h' => v = .int .i64 (cutD D n m).2 ∧ St h0 h' (refA w (cutD D n m).1 :: l) := by
  have S0 := S
  obtain ⟨zs, hz, h8, S⟩ := refA_open.1 S
  have hlo := rcells_lost (cap := D.cap) (fuse := D.fuse) (lost := D.lost) h8
  have hfu := rcells_fuse (cap := D.cap) (fuse := D.fuse) (lost := D.lost) h8
  obtain ⟨hf1, hf2⟩ := ok.fuse
  (refine enterK c_recoupref01_Disk_Act (Nat.le_of_ble_eq_true rfl) fun K hK => ?_; (try simp (maxSteps := 1000000) (disch := first | omega | assumption | exact Nat.le_of_ble_eq_true rfl) only [go_sem, ↓mwp_block, simprocAttr, ir_recoupref01_Disk_Act]))
  ((try clear F); have F := S.all; (try simp only [all_cons, all_nil, says_cell, and_true] at F))
  (try simp (maxSteps := 1000000) (disch := first | omega | assumption | exact Nat.le_of_ble_eq_true rfl) only [go_sem, ↓mwp_block, simprocAttr, F, hlo])
  cases hd : D.lost
  · by_cases hn0 : n < 0
    · (try simp (maxSteps := 1000000) (disch := first | omega | assumption | exact Nat.le_of_ble_eq_true rfl) only [go_sem, ↓mwp_block, simprocAttr, hd])
      refine hK _ _ ?_
      have ha : askE D n = 1 := by simp only [askE, hd, Bool.false_eq_true, if_false]; rw [if_neg (by omega)]
      simp only [cutD, thereE, ha, ne_eq, show ¬ ((1 : Int) = 0) by decide, not_false_eq_true, if_true]
      exact ⟨trivial, S0⟩
    by_cases hn1 : 7 < n
    · (try simp (maxSteps := 1000000) (disch := first | omega | assumption | exact Nat.le_of_ble_eq_true rfl) only [go_sem, ↓mwp_block, simprocAttr, hd])
      refine hK _ _ ?_
      have ha : askE D n = 1 := by simp only [askE, hd, Bool.false_eq_true, if_false]; rw [if_neg (by omega)]
      simp only [cutD, thereE, ha, ne_eq, show ¬ ((1 : Int) = 0) by decide, not_false_eq_true, if_true]
      exact ⟨trivial, S0⟩
    have hn : 0 ≤ n ∧ n < 8 := by omega
    have ha : askE D n = 0 := by simp only [askE, hd, Bool.false_eq_true, if_false]; rw [if_pos hn]
    have hlt : n.toNat < zs.length := by omega
    have hc0 := rcells_at (cap := D.cap) (fuse := D.fuse) (lost := D.lost) (k := 0) hlt (by omega)
    have hfo := rsnd hz hn hlt
    rw [hd] at hc0 hfu
    generalize hzz : zs[n.toNat] = z at hc0 hfo
    obtain ⟨s, o⟩ := z
    simp only [rcell, List.getElem?_cons_succ, List.getElem?_cons_zero, Nat.add_zero] at hc0 hfo
    cases o with
    | none =>
      simp only [Option.isSome_none] at hc0
      (try simp (maxSteps := 1000000) (disch := first | omega | assumption | exact Nat.le_of_ble_eq_true rfl) only [go_sem, ↓mwp_block, simprocAttr, hd, F, hc0])
      refine hK _ _ ?_
      simp only [cutD, thereE, ha, hfo, ne_eq, not_true_eq_false, if_false, Option.isNone_none, if_true, show ¬ ((7 : Int) = 0) by decide, not_false_eq_true]
      exact ⟨trivial, S0⟩
    | some f =>
      simp only [Option.isSome_some] at hc0
      have ht : thereE D n = 0 := by simp [thereE, ha, hfo]
      obtain ⟨B, e, hs, hle⟩ : ∃ B e, s = .slice B f.bs.length e ∧ f.bs.length ≤ e := by
        have := row_pick hlt S
        rw [hzz] at this
        obtain ⟨B, e, hs⟩ := St.sl (xs := f.bs) this
        subst hs
        exact ⟨B, e, rfl, ((St.own (enc := bEnc) (sz := 1) (T := 5) (xs := f.bs) (v := .slice B f.bs.length e) this).arr bEnc_len).2.2⟩
      subst hs
      have hmem : some f ∈ D.fs := by rw [← hz]; exact List.mem_map.2 ⟨zs[n.toNat], List.getElem_mem hlt, by rw [hzz]⟩
      have hbl : f.bs.length ≤ used D.fs := by
        obtain ⟨k, hk, hkf⟩ := List.getElem_of_mem hmem
        have := used_get hk
        rw [hkf] at this
        exact this
      have hro := ok.room
      have hcp := ok.cap
      have hc1 := fun fu => rcells_at (cap := D.cap) (fuse := fu) (lost := false) (k := 1) hlt (by omega)
      rw [hzz] at hc1
      simp only [rcell, List.getElem?_cons_succ, List.getElem?_cons_zero] at hc1
      by_cases hm0 : m < 0
      · (try simp (maxSteps := 1000000) (disch := first | omega | assumption | exact Nat.le_of_ble_eq_true rfl) only [go_sem, ↓mwp_block, simprocAttr, hd, F, hc0, hc1])
        refine hK _ _ ?_
        simp only [cutD, ht, ne_eq, not_true_eq_false, if_false, hfo, Option.getD_some, if_pos (Or.inl hm0 : m < 0 ∨ (f.bs.length : Int) < m)]
        exact ⟨trivial, S0⟩
      by_cases hm1 : (f.bs.length : Int) < m
      · (try simp (maxSteps := 1000000) (disch := first | omega | assumption | exact Nat.le_of_ble_eq_true rfl) only [go_sem, ↓mwp_block, simprocAttr, hd, F, hc0, hc1])
        refine hK _ _ ?_
        simp only [cutD, ht, ne_eq, not_true_eq_false, if_false, hfo, Option.getD_some, if_pos (Or.inr hm1 : m < 0 ∨ (f.bs.length : Int) < m)]
        exact ⟨trivial, S0⟩
      have hno : ¬ (m < 0 ∨ (f.bs.length : Int) < m) := by omega
      obtain ⟨k, rfl⟩ := Int.eq_ofNat_of_zero_le (show 0 ≤ m by omega)
      (try simp (maxSteps := 1000000) (disch := first | omega | assumption | exact Nat.le_of_ble_eq_true rfl) only [go_sem, ↓mwp_block, simprocAttr, hd, F, hc0, hc1, hfu])
      refine draw_eq ?_
      (try simp (maxSteps := 1000000) (disch := first | omega | assumption | exact Nat.le_of_ble_eq_true rfl) only [go_sem, ↓mwp_block, simprocAttr, hd, F, hc0, hfu])
      by_cases hz0 : D.fuse = 0
      · (try simp (maxSteps := 1000000) (disch := first | omega | assumption | exact Nat.le_of_ble_eq_true rfl) only [go_sem, ↓mwp_block, simprocAttr])
        refine st_store S rfl rfl (by rw [rcells_len h8]; omega) ?_
        clear S F
        intro h S
        rw [rcells_setL h8] at S
        (try simp (maxSteps := 1000000) (disch := first | omega | assumption | exact Nat.le_of_ble_eq_true rfl) only [go_sem, ↓mwp_block, simprocAttr])
        refine hK _ _ ?_
        simp only [cutD, ht, ne_eq, not_true_eq_false, if_false, hfo, Option.getD_some, if_neg hno, if_pos hz0]
        exact ⟨trivial, refA_open.2 ⟨zs, hz, h8, S⟩⟩
      · by_cases hp : 0 < D.fuse
        · (try simp (maxSteps := 1000000) (disch := first | omega | assumption | exact Nat.le_of_ble_eq_true rfl) only [go_sem, ↓mwp_block, simprocAttr, hd, F, hfu])
          refine st_store S rfl rfl (by rw [rcells_len h8]; omega) ?_
          clear S F
          intro h S
          rw [rcells_setF h8] at S
          have hbu : burnF D.fuse = D.fuse - 1 := by rw [burnF, if_pos hp]
          (try simp (maxSteps := 1000000) (disch := first | omega | assumption | exact Nat.le_of_ble_eq_true rfl) only [go_sem, ↓mwp_block, simprocAttr])
          rw [hd] at S
          refine draw_st S ?_
          have rx : ∀ off K t, readT (fun h' => St h0 h' _) (fun h' => rd1 h' (.pointer (some ⟨w, off, none⟩))) K t = bindT ((rcells D.cap zs (D.fuse - 1) false)[off]?) K ⟨⟩ := fun off K t => reads_of S (fun h' s => st_rd1 s)
          (try simp (maxSteps := 1000000) (disch := first | omega | assumption | exact Nat.le_of_ble_eq_true rfl) only [go_sem, ↓mwp_block, simprocAttr, hd, rx, hc1])
          (refine st_alloc S ?_; clear S; intro q h S; (try simp only [splice_cons, splice_nil, List.set_cons_zero, List.set_cons_succ, Nat.zero_add, Nat.reduceAdd, List.cons_append, List.nil_append] at S); ((try clear F); have F := S.all; (try simp only [all_cons, all_nil, says_cell, and_true] at F)))
          have S := S.cellOwn (enc := bEnc) (sz := 1) (ys := []) bEnc_len rfl (by decide)
          refine chk_any (S.tl) ?_
          have harr : Arr bEnc 1 h B f.bs := by
            have := row_pick hlt S.tl
            rw [hzz] at this
            exact St.arr this bEnc_len
          (try simp (maxSteps := 1000000) (disch := first | omega | assumption | exact Nat.le_of_ble_eq_true rfl) only [go_sem, ↓mwp_block, simprocAttr])
          refine st_append (bytes := 1) (xs := []) (ys := f.bs.take k) bEnc_len (by omega) bEnc_plain rfl S (by simp [srcLen]; omega) (src_arr bEnc_len (arr_take harr _) (by simp; omega)) (by simp; omega) (by simp; omega) ?_
          clear S F
          intro v' h S
          simp only [List.nil_append] at S
          obtain ⟨B2, e2, rfl⟩ := S.sl
          refine chk_any (S.tl) ?_
          (try simp (maxSteps := 1000000) (disch := first | omega | assumption | exact Nat.le_of_ble_eq_true rfl) only [go_sem, ↓mwp_block, simprocAttr])
          refine st_store S.p1 rfl rfl (by rw [rcells_len h8]; omega) ?_
          clear S
          intro h S
          have hset := rcells_set (cap := D.cap) (fuse := (D.fuse - 1)) (lost := false) hlt (.slice B2 (f.bs.take k).length e2, some ⟨f.bs.take k, k⟩)
          simp only [rcell, Option.isSome_some, safeF] at hset
          rw [hset] at S
          have S := row_swap (F := rslotA) (z := (Value.slice B2 (f.bs.take k).length e2, some ⟨f.bs.take k, k⟩)) hlt S
          (try simp (maxSteps := 1000000) (disch := first | omega | assumption | exact Nat.le_of_ble_eq_true rfl) only [go_sem, ↓mwp_block, simprocAttr])
          refine hK _ _ ?_
          simp only [cutD, ht, ne_eq, not_true_eq_false, if_false, hfo, Option.getD_some, if_neg hno, if_neg hz0, Int.toNat_natCast, hbu]
          refine ⟨trivial, refA_open.2 ⟨zs.set n.toNat (.slice B2 (f.bs.take k).length e2, some ⟨f.bs.take k, k⟩), ?_, by simpa using h8, ?_⟩⟩
          · rw [List.map_set, hz]
          · show St h0 h (cellA w (rcells D.cap _ _ D.lost) _ :: _)
            rw [hd]
            exact S
        · have hbu : burnF D.fuse = D.fuse := by rw [burnF, if_neg hp]
          (try simp (maxSteps := 1000000) (disch := first | omega | assumption | exact Nat.le_of_ble_eq_true rfl) only [go_sem, ↓mwp_block, simprocAttr, hd, F, hfu])
          rw [hd] at S
          refine draw_st S ?_
          have rx : ∀ off K t, readT (fun h' => St h0 h' _) (fun h' => rd1 h' (.pointer (some ⟨w, off, none⟩))) K t = bindT ((rcells D.cap zs D.fuse false)[off]?) K ⟨⟩ := fun off K t => reads_of S (fun h' s => st_rd1 s)
          (try simp (maxSteps := 1000000) (disch := first | omega | assumption | exact Nat.le_of_ble_eq_true rfl) only [go_sem, ↓mwp_block, simprocAttr, hd, rx, hc1])
          (refine st_alloc S ?_; clear S; intro q h S; (try simp only [splice_cons, splice_nil, List.set_cons_zero, List.set_cons_succ, Nat.zero_add, Nat.reduceAdd, List.cons_append, List.nil_append] at S); ((try clear F); have F := S.all; (try simp only [all_cons, all_nil, says_cell, and_true] at F)))
          have S := S.cellOwn (enc := bEnc) (sz := 1) (ys := []) bEnc_len rfl (by decide)
          refine chk_any (S.tl) ?_
          have harr : Arr bEnc 1 h B f.bs := by
            have := row_pick hlt S.tl
            rw [hzz] at this
            exact St.arr this bEnc_len
          (try simp (maxSteps := 1000000) (disch := first | omega | assumption | exact Nat.le_of_ble_eq_true rfl) only [go_sem, ↓mwp_block, simprocAttr])
          refine st_append (bytes := 1) (xs := []) (ys := f.bs.take k) bEnc_len (by omega) bEnc_plain rfl S (by simp [srcLen]; omega) (src_arr bEnc_len (arr_take harr _) (by simp; omega)) (by simp; omega) (by simp; omega) ?_
          clear S F
          intro v' h S
          simp only [List.nil_append] at S
          obtain ⟨B2, e2, rfl⟩ := S.sl
          refine chk_any (S.tl) ?_
          (try simp (maxSteps := 1000000) (disch := first | omega | assumption | exact Nat.le_of_ble_eq_true rfl) only [go_sem, ↓mwp_block, simprocAttr])
          refine st_store S.p1 rfl rfl (by rw [rcells_len h8]; omega) ?_
          clear S
          intro h S
          have hset := rcells_set (cap := D.cap) (fuse := D.fuse) (lost := false) hlt (.slice B2 (f.bs.take k).length e2, some ⟨f.bs.take k, k⟩)
          simp only [rcell, Option.isSome_some, safeF] at hset
          rw [hset] at S
          have S := row_swap (F := rslotA) (z := (Value.slice B2 (f.bs.take k).length e2, some ⟨f.bs.take k, k⟩)) hlt S
          (try simp (maxSteps := 1000000) (disch := first | omega | assumption | exact Nat.le_of_ble_eq_true rfl) only [go_sem, ↓mwp_block, simprocAttr])
          refine hK _ _ ?_
          simp only [cutD, ht, ne_eq, not_true_eq_false, if_false, hfo, Option.getD_some, if_neg hno, if_neg hz0, Int.toNat_natCast, hbu]
          refine ⟨trivial, refA_open.2 ⟨zs.set n.toNat (.slice B2 (f.bs.take k).length e2, some ⟨f.bs.take k, k⟩), ?_, by simpa using h8, ?_⟩⟩
          · rw [List.map_set, hz]
          · show St h0 h (cellA w (rcells D.cap _ _ D.lost) _ :: _)
            rw [hd]
            exact S
  · (try simp (maxSteps := 1000000) (disch := first | omega | assumption | exact Nat.le_of_ble_eq_true rfl) only [go_sem, ↓mwp_block, simprocAttr, hd])
    refine hK _ _ ?_
    have ha : askE D n = 6 := by simp only [askE, hd, if_true]
    simp only [cutD, thereE, ha, ne_eq, show ¬ ((6 : Int) = 0) by decide, not_false_eq_true, if_true]
    exact ⟨trivial, S0⟩
end Go.Proofs.Ytackopkhelochaa.MX
