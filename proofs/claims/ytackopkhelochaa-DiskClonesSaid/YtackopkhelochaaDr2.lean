/- The reference's disk: Restart. -/
import Derived.Test.YtackopkhelochaaDr1
namespace Go.Proofs.Ytackopkhelochaa.MX
open Go Go.Proofs
set_option linter.unusedSimpArgs false
set_option linter.unusedVariables false

set_option maxHeartbeats 4000000 in
theorem RRestart_ok (ks : List Int) (hk : ks.length = 8) (hb : ∀ k ∈ ks, I64 k) {h0 h : Heap} {l : List HP} {w : Nat} {D : Dk} (S : St h0 h (refA w D :: l)) (ok : D.ok) :
    CallsH Try.prog 45 [.pointer (some ⟨w, 0, none⟩), .agg (k8 ks).toArray] h fun v h' => St h0 h' (refA w (restartD D ks) :: l) := by
  have hkl : (k8 ks).length = 8 := by simp [k8, hk]
  have hfl := ok.len
  obtain ⟨zs, hz, h8, S⟩ := refA_open.1 S
  (refine enterK c_recoupref01_Disk_Restart (Nat.le_of_ble_eq_true rfl) fun K hK => ?_; (try simp (maxSteps := 1000000) (disch := first | omega | assumption | exact Nat.le_of_ble_eq_true rfl) only [go_sem, ↓mwp_block, simprocAttr, ir_recoupref01_Disk_Restart]))
  (refine st_alloc S ?_; clear S; intro b h S; (try simp only [splice_cons, splice_nil, List.set_cons_zero, List.set_cons_succ, Nat.zero_add, Nat.reduceAdd, List.cons_append, List.nil_append] at S); ((try clear F); have F := S.all; (try simp only [all_cons, all_nil, says_cell, and_true] at F)))
  (try simp (maxSteps := 1000000) (disch := first | omega | assumption | exact Nat.le_of_ble_eq_true rfl) only [go_sem, ↓mwp_block, simprocAttr])
  refine st_store S.p1 rfl rfl (by rw [rcells_len h8]; omega) ?_
  clear S F
  intro h S
  rw [rcells_setL h8] at S
  (try simp (maxSteps := 1000000) (disch := first | omega | assumption | exact Nat.le_of_ble_eq_true rfl) only [go_sem, ↓mwp_block, simprocAttr])
  refine st_store S rfl rfl (by rw [rcells_len h8]; omega) ?_
  clear S
  intro h S
  rw [rcells_setF h8] at S
  (try simp (maxSteps := 1000000) (disch := first | omega | assumption | exact Nat.le_of_ble_eq_true rfl) only [go_sem, ↓mwp_block, simprocAttr])
  have S : St h0 h (cellA w (rcells D.cap zs (-1) false) 116 :: (zs.map rslotA ++ (cellA b (k8 ks) 46 :: l))) := S.perm (List.Perm.cons _ List.perm_middle.symm)
  refine loop_intro (fun ρ h' => ρ 0 = .pointer (some ⟨w, 0, none⟩) ∧ ρ 3 = .pointer (some ⟨b, 0, none⟩) ∧ ∃ (i : Nat) (ws : List RSlot), ρ 12 = .int .i64 i ∧ i ≤ 8 ∧ ws.length = 8 ∧ (∀ j : Nat, (ws.map Prod.snd)[j]? = if j < i then (List.zipWith restS ks D.fs)[j]? else D.fs[j]?) ∧
    St h0 h' (cellA w (rcells D.cap ws (-1) false) 116 :: (ws.map rslotA ++ (cellA b (k8 ks) 46 :: l)))) (fun ρ _ => 8 - (iv (ρ 12)).toNat) ?_ ?_
  · (try simp (maxSteps := 1000000) (disch := first | omega | assumption | exact Nat.le_of_ble_eq_true rfl) only [go_sem, ↓mwp_block, simprocAttr])
    exact ⟨0, zs, rfl, by omega, h8, fun j => by rw [if_neg (by omega), hz], S⟩
  · clear S
    rintro ρ h J hJ ⟨e0, e3, i, ws, e12, hi, hw8, hw, S⟩
    (try simp (maxSteps := 1000000) (disch := first | omega | assumption | exact Nat.le_of_ble_eq_true rfl) only [go_sem, ↓mwp_block, simprocAttr, e12])
    refine cond_dec (fun hg => ?_) (fun hg => ?_)
    · have hi8 : i < 8 := by omega
      have hlt : i < ws.length := by omega
      have hki : (k8 ks)[i]? = some (.int .i64 (ks[i]'(by omega))) := by simp [k8, hk, hi8]
      have hkb := hb _ (List.getElem_mem (show i < ks.length by omega))
      have hstep := rest_step (ks := ks) (fs := D.fs) (ws := ws.map Prod.snd) (i := i) (by omega) (by omega) (by simp; omega) hw
      have hfi : D.fs[i]'(by omega) = (ws[i]).2 := by
        have := hw i
        rw [if_neg (by omega), List.getElem?_map, List.getElem?_eq_getElem hlt, List.getElem?_eq_getElem (show i < D.fs.length by omega)] at this
        exact (Option.some.inj this).symm
      rw [hfi] at hstep
      have hmem : (ws[i]).2 ∈ D.fs := by rw [← hfi]; exact List.getElem_mem _
      have hsz := used_get (fs := D.fs) (k := i) (by omega)
      rw [hfi] at hsz
      have hro := ok.room
      have hcp := ok.cap
      have hc0 := rcells_at (cap := D.cap) (fuse := -1) (lost := false) (k := 0) hlt (by omega)
      have hc1 := rcells_at (cap := D.cap) (fuse := -1) (lost := false) (k := 1) hlt (by omega)
      have hc2 := rcells_at (cap := D.cap) (fuse := -1) (lost := false) (k := 2) hlt (by omega)
      generalize ks[i]'(by omega) = kk at hki hkb hstep
      have hset0 : ws.set i ws[i] = ws := List.set_getElem_self hlt
      have Sp := row_pick hlt S
      generalize hwi : ws[i] = z at hc0 hc1 hc2 hstep hset0 Sp hmem hsz
      obtain ⟨s, o⟩ := z
      simp only [rcell, List.getElem?_cons_succ, List.getElem?_cons_zero, Nat.add_zero] at hc0 hc1 hc2
      ((try clear F); have F := S.all; (try simp only [all_cons, all_nil, says_cell, and_true] at F))
      cases o with
      | none =>
        simp only [Option.isSome_none] at hc0
        (try simp (maxSteps := 1000000) (disch := first | omega | assumption | exact Nat.le_of_ble_eq_true rfl) only [go_sem, ↓mwp_block, simprocAttr, e0, e12, F, hc0])
        refine hJ _ _ ?_ ?_
        · (try simp (maxSteps := 1000000) (disch := first | omega | assumption | exact Nat.le_of_ble_eq_true rfl) only [go_sem, ↓mwp_block, simprocAttr, e0, e3, e12])
          refine ⟨i + 1, ws, rfl, by omega, hw8, ?_, S⟩
          have e1 : (ws.map Prod.snd).set i (restS kk none) = ws.map Prod.snd := by
            have h1 : restS kk none = ((s, none) : RSlot).2 := rfl
            rw [h1, ← List.map_set, hset0]
          simp only at hstep
          rw [e1] at hstep
          exact hstep
        · (try simp (maxSteps := 1000000) (disch := first | omega | assumption | exact Nat.le_of_ble_eq_true rfl) only [go_sem, ↓mwp_block, simprocAttr, e12])
          omega
      | some f =>
        obtain ⟨B, e, hs⟩ := St.sl (xs := f.bs) Sp
        simp only at hs
        subst hs
        simp only [Option.isSome_some, safeF] at hc0 hc2
        have hsafe := ok.safe f hmem
        have hle : f.bs.length ≤ e := ((St.own (enc := bEnc) (sz := 1) (T := 5) (xs := f.bs) (v := .slice B f.bs.length e) Sp).arr bEnc_len).2.2
        have hbl : f.bs.length ≤ used D.fs := hsz
        obtain ⟨hkb1, hkb2⟩ := hkb
        have Sb : St h0 h (cellA b (k8 ks) 46 :: l) := St.dropL (ps := cellA w (rcells D.cap ws (-1) false) 116 :: (ws.map rslotA)) S
        have Fb := Sb.all
        simp only [all_cons, says_cell] at Fb
        (try simp (maxSteps := 1000000) (disch := first | omega | assumption | exact Nat.le_of_ble_eq_true rfl) only [go_sem, ↓mwp_block, simprocAttr, e0, e12, F, hc0])
        refine draw_eq ?_
        (try simp (maxSteps := 1000000) (disch := first | omega | assumption | exact Nat.le_of_ble_eq_true rfl) only [go_sem, ↓mwp_block, simprocAttr, e0, e3, e12, F, Fb, hki, hc2, Nat.mul_one])
        have hmu : (iv (ρ 12)).toNat = i := by rw [e12]; rfl
        have e12x := e12
        by_cases hA : (f.bs.length : Int) < kk
        · have hN : f.safe + min (max kk 0).toNat (f.bs.length - f.safe) = f.bs.length := by omega
          (try simp (maxSteps := 1000000) (disch := first | omega | assumption | exact Nat.le_of_ble_eq_true rfl) only [go_sem, ↓mwp_block, simprocAttr, e0, e3, e12, F, Fb, hki, hc1, Nat.mul_one])
          refine draw_eq ?_
          (try simp (maxSteps := 1000000) (disch := first | omega | assumption | exact Nat.le_of_ble_eq_true rfl) only [go_sem, ↓mwp_block, simprocAttr, e0, e3, e12, F, Fb, hki, hc1, Nat.mul_one])
          refine draw_st S ?_
          have rx : ∀ off K t, readT (fun h' => St h0 h' _) (fun h' => rd1 h' (.pointer (some ⟨w, off, none⟩))) K t = bindT ((rcells D.cap ws (-1) false)[off]?) K ⟨⟩ := fun off K t => reads_of S (fun h' s => st_rd1 s)
          (try simp (maxSteps := 1000000) (disch := first | omega | assumption | exact Nat.le_of_ble_eq_true rfl) only [go_sem, ↓mwp_block, simprocAttr, e0, rx, hc1, hc2])
          (refine st_alloc S ?_; clear S; intro q h S; (try simp only [splice_cons, splice_nil, List.set_cons_zero, List.set_cons_succ, Nat.zero_add, Nat.reduceAdd, List.cons_append, List.nil_append] at S); ((try clear F); have F := S.all; (try simp only [all_cons, all_nil, says_cell, and_true] at F)))
          have S := S.cellOwn (enc := bEnc) (sz := 1) (ys := []) bEnc_len rfl (by decide)
          refine chk_st S.tl ?_
          have harr : Arr bEnc 1 h B f.bs := by
            have := row_pick hlt S.tl
            rw [hwi] at this
            exact St.arr this bEnc_len
          (try simp (maxSteps := 1000000) (disch := first | omega | assumption | exact Nat.le_of_ble_eq_true rfl) only [go_sem, ↓mwp_block, simprocAttr])
          refine st_append (bytes := 1) (xs := []) (ys := f.bs.take (f.safe + min (max kk 0).toNat (f.bs.length - f.safe))) bEnc_len (by omega) bEnc_plain rfl S (by simp [srcLen]; omega) (src_arr bEnc_len (arr_take harr _) (by simp; omega)) (by simp; omega) (by simp; omega) ?_
          clear S F
          intro v' h S
          simp only [List.nil_append] at S
          obtain ⟨B2, e2, rfl⟩ := S.sl
          refine chk_st S.tl ?_
          (try simp (maxSteps := 1000000) (disch := first | omega | assumption | exact Nat.le_of_ble_eq_true rfl) only [go_sem, ↓mwp_block, simprocAttr])
          refine st_store S.p1 rfl rfl (by rw [rcells_len hw8]; omega) ?_
          clear S
          intro h S
          have hset := rcells_set (cap := D.cap) (fuse := -1) (lost := false) hlt (.slice B2 (f.bs.take (f.safe + min (max kk 0).toNat (f.bs.length - f.safe))).length e2, some (restF kk f))
          simp only [rcell, Option.isSome_some, safeF] at hset
          simp only [restF] at hset
          have eX : (f.bs.length : Int) = ((f.safe + min (max kk 0).toNat (f.bs.length - f.safe) : Nat) : Int) := by omega
          rw [eX, hset] at S
          have S := row_swap (F := rslotA) (z := (Value.slice B2 (f.bs.take (f.safe + min (max kk 0).toNat (f.bs.length - f.safe))).length e2, some (restF kk f))) hlt S
          (try simp (maxSteps := 1000000) (disch := first | omega | assumption | exact Nat.le_of_ble_eq_true rfl) only [go_sem, ↓mwp_block, simprocAttr, e12])
          refine hJ _ _ ?_ ?_
          · (try simp (maxSteps := 1000000) (disch := first | omega | assumption | exact Nat.le_of_ble_eq_true rfl) only [go_sem, ↓mwp_block, simprocAttr, e0, e3, e12])
            refine ⟨i + 1, _, rfl, by omega, by simpa using hw8, ?_, S⟩
            rw [List.map_set]
            exact hstep
          · rw [hmu]
            (try simp (maxSteps := 1000000) (disch := first | omega | assumption | exact Nat.le_of_ble_eq_true rfl) only [go_sem, ↓mwp_block, simprocAttr, e12])
            omega
        · by_cases hB : (f.bs.length : Int) < (f.safe : Int) + (if 0 > kk then 0 else kk)
          · have hN : f.safe + min (max kk 0).toNat (f.bs.length - f.safe) = f.bs.length := by omega
            (try simp (maxSteps := 1000000) (disch := first | omega | assumption | exact Nat.le_of_ble_eq_true rfl) only [go_sem, ↓mwp_block, simprocAttr, e0, e3, e12, F, Fb, hki, hc1, Nat.mul_one])
            refine draw_eq ?_
            (try simp (maxSteps := 1000000) (disch := first | omega | assumption | exact Nat.le_of_ble_eq_true rfl) only [go_sem, ↓mwp_block, simprocAttr, e0, e3, e12, F, Fb, hki, hc1, Nat.mul_one])
            refine draw_st S ?_
            have rx : ∀ off K t, readT (fun h' => St h0 h' _) (fun h' => rd1 h' (.pointer (some ⟨w, off, none⟩))) K t = bindT ((rcells D.cap ws (-1) false)[off]?) K ⟨⟩ := fun off K t => reads_of S (fun h' s => st_rd1 s)
            (try simp (maxSteps := 1000000) (disch := first | omega | assumption | exact Nat.le_of_ble_eq_true rfl) only [go_sem, ↓mwp_block, simprocAttr, e0, rx, hc1, hc2])
            (refine st_alloc S ?_; clear S; intro q h S; (try simp only [splice_cons, splice_nil, List.set_cons_zero, List.set_cons_succ, Nat.zero_add, Nat.reduceAdd, List.cons_append, List.nil_append] at S); ((try clear F); have F := S.all; (try simp only [all_cons, all_nil, says_cell, and_true] at F)))
            have S := S.cellOwn (enc := bEnc) (sz := 1) (ys := []) bEnc_len rfl (by decide)
            refine chk_st S.tl ?_
            have harr : Arr bEnc 1 h B f.bs := by
              have := row_pick hlt S.tl
              rw [hwi] at this
              exact St.arr this bEnc_len
            (try simp (maxSteps := 1000000) (disch := first | omega | assumption | exact Nat.le_of_ble_eq_true rfl) only [go_sem, ↓mwp_block, simprocAttr])
            refine st_append (bytes := 1) (xs := []) (ys := f.bs.take (f.safe + min (max kk 0).toNat (f.bs.length - f.safe))) bEnc_len (by omega) bEnc_plain rfl S (by simp [srcLen]; omega) (src_arr bEnc_len (arr_take harr _) (by simp; omega)) (by simp; omega) (by simp; omega) ?_
            clear S F
            intro v' h S
            simp only [List.nil_append] at S
            obtain ⟨B2, e2, rfl⟩ := S.sl
            refine chk_st S.tl ?_
            (try simp (maxSteps := 1000000) (disch := first | omega | assumption | exact Nat.le_of_ble_eq_true rfl) only [go_sem, ↓mwp_block, simprocAttr])
            refine st_store S.p1 rfl rfl (by rw [rcells_len hw8]; omega) ?_
            clear S
            intro h S
            have hset := rcells_set (cap := D.cap) (fuse := -1) (lost := false) hlt (.slice B2 (f.bs.take (f.safe + min (max kk 0).toNat (f.bs.length - f.safe))).length e2, some (restF kk f))
            simp only [rcell, Option.isSome_some, safeF] at hset
            simp only [restF] at hset
            have eX : (f.bs.length : Int) = ((f.safe + min (max kk 0).toNat (f.bs.length - f.safe) : Nat) : Int) := by omega
            rw [eX, hset] at S
            have S := row_swap (F := rslotA) (z := (Value.slice B2 (f.bs.take (f.safe + min (max kk 0).toNat (f.bs.length - f.safe))).length e2, some (restF kk f))) hlt S
            (try simp (maxSteps := 1000000) (disch := first | omega | assumption | exact Nat.le_of_ble_eq_true rfl) only [go_sem, ↓mwp_block, simprocAttr, e12])
            refine hJ _ _ ?_ ?_
            · (try simp (maxSteps := 1000000) (disch := first | omega | assumption | exact Nat.le_of_ble_eq_true rfl) only [go_sem, ↓mwp_block, simprocAttr, e0, e3, e12])
              refine ⟨i + 1, _, rfl, by omega, by simpa using hw8, ?_, S⟩
              rw [List.map_set]
              exact hstep
            · rw [hmu]
              (try simp (maxSteps := 1000000) (disch := first | omega | assumption | exact Nat.le_of_ble_eq_true rfl) only [go_sem, ↓mwp_block, simprocAttr, e12])
              omega
          · have hN : ((f.safe + min (max kk 0).toNat (f.bs.length - f.safe) : Nat) : Int) = (f.safe : Int) + (if 0 > kk then 0 else kk) := by omega
            (try simp (maxSteps := 1000000) (disch := first | omega | assumption | exact Nat.le_of_ble_eq_true rfl) only [go_sem, ↓mwp_block, simprocAttr, e0, e3, e12, F, Fb, hki, hc1, Nat.mul_one])
            refine draw_eq ?_
            (try simp (maxSteps := 1000000) (disch := first | omega | assumption | exact Nat.le_of_ble_eq_true rfl) only [go_sem, ↓mwp_block, simprocAttr, e0, e3, e12, F, Fb, hki, hc1, Nat.mul_one])
            refine draw_st S ?_
            have rx : ∀ off K t, readT (fun h' => St h0 h' _) (fun h' => rd1 h' (.pointer (some ⟨w, off, none⟩))) K t = bindT ((rcells D.cap ws (-1) false)[off]?) K ⟨⟩ := fun off K t => reads_of S (fun h' s => st_rd1 s)
            (try simp (maxSteps := 1000000) (disch := first | omega | assumption | exact Nat.le_of_ble_eq_true rfl) only [go_sem, ↓mwp_block, simprocAttr, e0, rx, hc1, hc2])
            (refine st_alloc S ?_; clear S; intro q h S; (try simp only [splice_cons, splice_nil, List.set_cons_zero, List.set_cons_succ, Nat.zero_add, Nat.reduceAdd, List.cons_append, List.nil_append] at S); ((try clear F); have F := S.all; (try simp only [all_cons, all_nil, says_cell, and_true] at F)))
            have S := S.cellOwn (enc := bEnc) (sz := 1) (ys := []) bEnc_len rfl (by decide)
            refine chk_st S.tl ?_
            have harr : Arr bEnc 1 h B f.bs := by
              have := row_pick hlt S.tl
              rw [hwi] at this
              exact St.arr this bEnc_len
            (try simp (maxSteps := 1000000) (disch := first | omega | assumption | exact Nat.le_of_ble_eq_true rfl) only [go_sem, ↓mwp_block, simprocAttr])
            refine st_append (bytes := 1) (xs := []) (ys := f.bs.take (f.safe + min (max kk 0).toNat (f.bs.length - f.safe))) bEnc_len (by omega) bEnc_plain rfl S (by simp [srcLen]; omega) (src_arr bEnc_len (arr_take harr _) (by simp; omega)) (by simp; omega) (by simp; omega) ?_
            clear S F
            intro v' h S
            simp only [List.nil_append] at S
            obtain ⟨B2, e2, rfl⟩ := S.sl
            refine chk_st S.tl ?_
            (try simp (maxSteps := 1000000) (disch := first | omega | assumption | exact Nat.le_of_ble_eq_true rfl) only [go_sem, ↓mwp_block, simprocAttr])
            refine st_store S.p1 rfl rfl (by rw [rcells_len hw8]; omega) ?_
            clear S
            intro h S
            have hset := rcells_set (cap := D.cap) (fuse := -1) (lost := false) hlt (.slice B2 (f.bs.take (f.safe + min (max kk 0).toNat (f.bs.length - f.safe))).length e2, some (restF kk f))
            simp only [rcell, Option.isSome_some, safeF] at hset
            simp only [restF] at hset
            have eX : (f.safe : Int) + (if 0 > kk then 0 else kk) = ((f.safe + min (max kk 0).toNat (f.bs.length - f.safe) : Nat) : Int) := by omega
            rw [eX, hset] at S
            have S := row_swap (F := rslotA) (z := (Value.slice B2 (f.bs.take (f.safe + min (max kk 0).toNat (f.bs.length - f.safe))).length e2, some (restF kk f))) hlt S
            (try simp (maxSteps := 1000000) (disch := first | omega | assumption | exact Nat.le_of_ble_eq_true rfl) only [go_sem, ↓mwp_block, simprocAttr, e12])
            refine hJ _ _ ?_ ?_
            · (try simp (maxSteps := 1000000) (disch := first | omega | assumption | exact Nat.le_of_ble_eq_true rfl) only [go_sem, ↓mwp_block, simprocAttr, e0, e3, e12])
              refine ⟨i + 1, _, rfl, by omega, by simpa using hw8, ?_, S⟩
              rw [List.map_set]
              exact hstep
            · rw [hmu]
              (try simp (maxSteps := 1000000) (disch := first | omega | assumption | exact Nat.le_of_ble_eq_true rfl) only [go_sem, ↓mwp_block, simprocAttr, e12])
              omega
    · obtain rfl : i = 8 := by omega
      (try simp (maxSteps := 1000000) (disch := first | omega | assumption | exact Nat.le_of_ble_eq_true rfl) only [go_sem, ↓mwp_block, simprocAttr])
      refine hK _ _ (refA_open.2 ⟨ws, ?_, hw8, ?_⟩)
      · apply List.ext_getElem?
        intro j
        rw [hw j]
        by_cases hj : j < 8
        · rw [if_pos hj]
          rfl
        · rw [if_neg hj, List.getElem?_eq_none (by omega)]
          exact (List.getElem?_eq_none (by simp [restartD]; omega)).symm
      · have S2 : St h0 h (cellA b (k8 ks) 46 :: cellA w (rcells D.cap ws (-1) false) 116 :: (ws.map rslotA ++ l)) := S.perm ((List.Perm.cons _ List.perm_middle).trans (List.Perm.swap _ _ _))
        exact S2.tl
end Go.Proofs.Ytackopkhelochaa.MX
