/- Texts in one file: Dr2, Dr3, Dr4. -/
import Derived.Test.YtnjjdpeglkiifaaK18

/- The reference's disk: Restart. -/
namespace Go.Proofs.Ytnjjdpeglkiifaa.MX
open Go Go.Proofs
set_option linter.unusedSimpArgs false
set_option linter.unusedVariables false

set_option maxHeartbeats 4000000 in
theorem RRestart_ok (ks : List Int) (hk : ks.length = 8) (hb : ∀ k ∈ ks, I64 k) {h0 h : Heap} {l : List HP} {w : Nat} {D : Dk} (S : St h0 h (refA w D :: l)) (ok : D.ok) :
    CallsH Try.prog 52 [.pointer (some ⟨w, 0, none⟩), .agg (k8 ks).toArray] h fun v h' => St h0 h' (refA w (restartD D ks) :: l) := by
  have hkl : (k8 ks).length = 8 := by simp [k8, hk]
  have hfl := ok.len
  obtain ⟨zs, hz, h8, S⟩ := refA_open.1 S
  (refine enterK c_recoupref01_Disk_Restart (Nat.le_of_ble_eq_true rfl) fun K hK => ?_; (try simp (maxSteps := 1000000) (disch := first | omega | assumption | exact Nat.le_of_ble_eq_true rfl) only [go_sem, ↓mwp_block, simprocAttr, ir_recoupref01_Disk_Restart]))
  (refine st_alloc S ?_; clear S; intro b h S; (try simp only [splice_cons, splice_nil, List.set_cons_zero, List.set_cons_succ, Nat.zero_add, Nat.reduceAdd, List.cons_append, List.nil_append] at S); ((try clear F); have F := S.all; (try simp only [all_cons, all_nil, says_cell, and_true] at F)))
  (try simp (maxSteps := 1000000) (disch := first | omega | assumption | exact Nat.le_of_ble_eq_true rfl) only [go_sem, ↓mwp_block, simprocAttr])
  refine st_store S.p1 rfl rfl (by rw [rcells_len h8]; omega) ?_
  clear S F
  intro h S
  rw [rcells_setL h8] at S
  (try simp (maxSteps := 1000000) (disch := first | omega | assumption | exact Nat.le_of_ble_eq_true rfl) only [go_sem, ↓mwp_block, simprocAttr])
  refine st_store S rfl rfl (by rw [rcells_len h8]; omega) ?_
  clear S
  intro h S
  rw [rcells_setF h8] at S
  (try simp (maxSteps := 1000000) (disch := first | omega | assumption | exact Nat.le_of_ble_eq_true rfl) only [go_sem, ↓mwp_block, simprocAttr])
  have S : St h0 h (cellA w (rcells D.cap zs (-1) false) 132 :: (zs.map rslotA ++ (cellA b (k8 ks) 77 :: l))) := S.perm (List.Perm.cons _ List.perm_middle.symm)
  refine loop_intro (fun ρ h' => ρ 0 = .pointer (some ⟨w, 0, none⟩) ∧ ρ 3 = .pointer (some ⟨b, 0, none⟩) ∧ ∃ (i : Nat) (ws : List RSlot), ρ 12 = .int .i64 i ∧ i ≤ 8 ∧ ws.length = 8 ∧ (∀ j : Nat, (ws.map Prod.snd)[j]? = if j < i then (List.zipWith restS ks D.fs)[j]? else D.fs[j]?) ∧
    St h0 h' (cellA w (rcells D.cap ws (-1) false) 132 :: (ws.map rslotA ++ (cellA b (k8 ks) 77 :: l)))) (fun ρ _ => 8 - (iv (ρ 12)).toNat) ?_ ?_
  · (try simp (maxSteps := 1000000) (disch := first | omega | assumption | exact Nat.le_of_ble_eq_true rfl) only [go_sem, ↓mwp_block, simprocAttr])
    exact ⟨0, zs, rfl, by omega, h8, fun j => by rw [if_neg (by omega), hz], S⟩
  · clear S
    rintro ρ h J hJ ⟨e0, e3, i, ws, e12, hi, hw8, hw, S⟩
    (try simp (maxSteps := 1000000) (disch := first | omega | assumption | exact Nat.le_of_ble_eq_true rfl) only [go_sem, ↓mwp_block, simprocAttr, e12])
    refine cond_dec (fun hg => ?_) (fun hg => ?_)
    · have hi8 : i < 8 := by omega
      have hlt : i < ws.length := by omega
      have hki : (k8 ks)[i]? = some (.int .i64 (ks[i]'(by omega))) := by simp [k8, hk, hi8]
      have hkb := hb _ (List.getElem_mem (show i < ks.length by omega))
      have hstep := rest_step (ks := ks) (fs := D.fs) (ws := ws.map Prod.snd) (i := i) (by omega) (by omega) (by simp; omega) hw
      have hfi : D.fs[i]'(by omega) = (ws[i]).2 := by
        have := hw i
        rw [if_neg (by omega), List.getElem?_map, List.getElem?_eq_getElem hlt, List.getElem?_eq_getElem (show i < D.fs.length by omega)] at this
        exact (Option.some.inj this).symm
      rw [hfi] at hstep
      have hmem : (ws[i]).2 ∈ D.fs := by rw [← hfi]; exact List.getElem_mem _
      have hsz := used_get (fs := D.fs) (k := i) (by omega)
      rw [hfi] at hsz
      have hro := ok.room
      have hcp := ok.cap
      have hc0 := rcells_at (cap := D.cap) (fuse := -1) (lost := false) (k := 0) hlt (by omega)
      have hc1 := rcells_at (cap := D.cap) (fuse := -1) (lost := false) (k := 1) hlt (by omega)
      have hc2 := rcells_at (cap := D.cap) (fuse := -1) (lost := false) (k := 2) hlt (by omega)
      generalize ks[i]'(by omega) = kk at hki hkb hstep
      have hset0 : ws.set i ws[i] = ws := List.set_getElem_self hlt
      have Sp := row_pick hlt S
      generalize hwi : ws[i] = z at hc0 hc1 hc2 hstep hset0 Sp hmem hsz
      obtain ⟨s, o⟩ := z
      simp only [rcell, List.getElem?_cons_succ, List.getElem?_cons_zero, Nat.add_zero] at hc0 hc1 hc2
      ((try clear F); have F := S.all; (try simp only [all_cons, all_nil, says_cell, and_true] at F))
      cases o with
      | none =>
        simp only [Option.isSome_none] at hc0
        (try simp (maxSteps := 1000000) (disch := first | omega | assumption | exact Nat.le_of_ble_eq_true rfl) only [go_sem, ↓mwp_block, simprocAttr, e0, e12, F, hc0])
        refine hJ _ _ ?_ ?_
        · (try simp (maxSteps := 1000000) (disch := first | omega | assumption | exact Nat.le_of_ble_eq_true rfl) only [go_sem, ↓mwp_block, simprocAttr, e0, e3, e12])
          refine ⟨i + 1, ws, rfl, by omega, hw8, ?_, S⟩
          have e1 : (ws.map Prod.snd).set i (restS kk none) = ws.map Prod.snd := by
            have h1 : restS kk none = ((s, none) : RSlot).2 := rfl
            rw [h1, ← List.map_set, hset0]
          simp only at hstep
          rw [e1] at hstep
          exact hstep
        · (try simp (maxSteps := 1000000) (disch := first | omega | assumption | exact Nat.le_of_ble_eq_true rfl) only [go_sem, ↓mwp_block, simprocAttr, e12])
          omega
      | some f =>
        obtain ⟨B, e, hs⟩ := St.sl (xs := f.bs) Sp
        simp only at hs
        subst hs
        simp only [Option.isSome_some, safeF] at hc0 hc2
        have hsafe := ok.safe f hmem
        have hle : f.bs.length ≤ e := ((St.own (enc := bEnc) (sz := 1) (T := 5) (xs := f.bs) (v := .slice B f.bs.length e) Sp).arr bEnc_len).2.2
        have hbl : f.bs.length ≤ used D.fs := hsz
        obtain ⟨hkb1, hkb2⟩ := hkb
        have Sb : St h0 h (cellA b (k8 ks) 77 :: l) := St.dropL (ps := cellA w (rcells D.cap ws (-1) false) 132 :: (ws.map rslotA)) S
        have Fb := Sb.all
        simp only [all_cons, says_cell] at Fb
        (try simp (maxSteps := 1000000) (disch := first | omega | assumption | exact Nat.le_of_ble_eq_true rfl) only [go_sem, ↓mwp_block, simprocAttr, e0, e12, F, hc0])
        refine draw_eq ?_
        (try simp (maxSteps := 1000000) (disch := first | omega | assumption | exact Nat.le_of_ble_eq_true rfl) only [go_sem, ↓mwp_block, simprocAttr, e0, e3, e12, F, Fb, hki, hc2, Nat.mul_one])
        have hmu : (iv (ρ 12)).toNat = i := by rw [e12]; rfl
        have e12x := e12
        by_cases hA : (f.bs.length : Int) < kk
        · have hN : f.safe + min (max kk 0).toNat (f.bs.length - f.safe) = f.bs.length := by omega
          (try simp (maxSteps := 1000000) (disch := first | omega | assumption | exact Nat.le_of_ble_eq_true rfl) only [go_sem, ↓mwp_block, simprocAttr, e0, e3, e12, F, Fb, hki, hc1, Nat.mul_one])
          refine draw_eq ?_
          (try simp (maxSteps := 1000000) (disch := first | omega | assumption | exact Nat.le_of_ble_eq_true rfl) only [go_sem, ↓mwp_block, simprocAttr, e0, e3, e12, F, Fb, hki, hc1, Nat.mul_one])
          refine draw_st S ?_
          have rx : ∀ off K t, readT (fun h' => St h0 h' _) (fun h' => rd1 h' (.pointer (some ⟨w, off, none⟩))) K t = bindT ((rcells D.cap ws (-1) false)[off]?) K ⟨⟩ := fun off K t => reads_of S (fun h' s => st_rd1 s)
          (try simp (maxSteps := 1000000) (disch := first | omega | assumption | exact Nat.le_of_ble_eq_true rfl) only [go_sem, ↓mwp_block, simprocAttr, e0, rx, hc1, hc2])
          (refine st_alloc S ?_; clear S; intro q h S; (try simp only [splice_cons, splice_nil, List.set_cons_zero, List.set_cons_succ, Nat.zero_add, Nat.reduceAdd, List.cons_append, List.nil_append] at S); ((try clear F); have F := S.all; (try simp only [all_cons, all_nil, says_cell, and_true] at F)))
          have S := S.cellOwn (enc := bEnc) (sz := 1) (ys := []) bEnc_len rfl (by decide)
          try refine chk_st S.tl ?_
          have harr : Arr bEnc 1 h B f.bs := by
            have := row_pick hlt S.tl
            rw [hwi] at this
            exact St.arr this bEnc_len
          (try simp (maxSteps := 1000000) (disch := first | omega | assumption | exact Nat.le_of_ble_eq_true rfl) only [go_sem, ↓mwp_block, simprocAttr])
          refine st_append (bytes := 1) (xs := []) (ys := f.bs.take (f.safe + min (max kk 0).toNat (f.bs.length - f.safe))) bEnc_len (by omega) bEnc_plain rfl S (by simp [srcLen]; omega) (src_arr bEnc_len (arr_take harr _) (by simp; omega)) (by simp; omega) (by simp; omega) ?_
          clear S F
          intro v' h S
          simp only [List.nil_append] at S
          obtain ⟨B2, e2, rfl⟩ := S.sl
          try refine chk_st S.tl ?_
          (try simp (maxSteps := 1000000) (disch := first | omega | assumption | exact Nat.le_of_ble_eq_true rfl) only [go_sem, ↓mwp_block, simprocAttr])
          refine st_store S.p1 rfl rfl (by rw [rcells_len hw8]; omega) ?_
          clear S
          intro h S
          have hset := rcells_set (cap := D.cap) (fuse := -1) (lost := false) hlt (.slice B2 (f.bs.take (f.safe + min (max kk 0).toNat (f.bs.length - f.safe))).length e2, some (restF kk f))
          simp only [rcell, Option.isSome_some, safeF] at hset
          simp only [restF] at hset
          have eX : (f.bs.length : Int) = ((f.safe + min (max kk 0).toNat (f.bs.length - f.safe) : Nat) : Int) := by omega
          rw [eX, hset] at S
          have S := row_swap (F := rslotA) (z := (Value.slice B2 (f.bs.take (f.safe + min (max kk 0).toNat (f.bs.length - f.safe))).length e2, some (restF kk f))) hlt S
          (try simp (maxSteps := 1000000) (disch := first | omega | assumption | exact Nat.le_of_ble_eq_true rfl) only [go_sem, ↓mwp_block, simprocAttr, e12])
          refine hJ _ _ ?_ ?_
          · (try simp (maxSteps := 1000000) (disch := first | omega | assumption | exact Nat.le_of_ble_eq_true rfl) only [go_sem, ↓mwp_block, simprocAttr, e0, e3, e12])
            refine ⟨i + 1, _, rfl, by omega, by simpa using hw8, ?_, S⟩
            rw [List.map_set]
            exact hstep
          · rw [hmu]
            (try simp (maxSteps := 1000000) (disch := first | omega | assumption | exact Nat.le_of_ble_eq_true rfl) only [go_sem, ↓mwp_block, simprocAttr, e12])
            omega
        · by_cases hB : (f.bs.length : Int) < (f.safe : Int) + (if 0 > kk then 0 else kk)
          · have hN : f.safe + min (max kk 0).toNat (f.bs.length - f.safe) = f.bs.length := by omega
            (try simp (maxSteps := 1000000) (disch := first | omega | assumption | exact Nat.le_of_ble_eq_true rfl) only [go_sem, ↓mwp_block, simprocAttr, e0, e3, e12, F, Fb, hki, hc1, Nat.mul_one])
            refine draw_eq ?_
            (try simp (maxSteps := 1000000) (disch := first | omega | assumption | exact Nat.le_of_ble_eq_true rfl) only [go_sem, ↓mwp_block, simprocAttr, e0, e3, e12, F, Fb, hki, hc1, Nat.mul_one])
            refine draw_st S ?_
            have rx : ∀ off K t, readT (fun h' => St h0 h' _) (fun h' => rd1 h' (.pointer (some ⟨w, off, none⟩))) K t = bindT ((rcells D.cap ws (-1) false)[off]?) K ⟨⟩ := fun off K t => reads_of S (fun h' s => st_rd1 s)
            (try simp (maxSteps := 1000000) (disch := first | omega | assumption | exact Nat.le_of_ble_eq_true rfl) only [go_sem, ↓mwp_block, simprocAttr, e0, rx, hc1, hc2])
            (refine st_alloc S ?_; clear S; intro q h S; (try simp only [splice_cons, splice_nil, List.set_cons_zero, List.set_cons_succ, Nat.zero_add, Nat.reduceAdd, List.cons_append, List.nil_append] at S); ((try clear F); have F := S.all; (try simp only [all_cons, all_nil, says_cell, and_true] at F)))
            have S := S.cellOwn (enc := bEnc) (sz := 1) (ys := []) bEnc_len rfl (by decide)
            try refine chk_st S.tl ?_
            have harr : Arr bEnc 1 h B f.bs := by
              have := row_pick hlt S.tl
              rw [hwi] at this
              exact St.arr this bEnc_len
            (try simp (maxSteps := 1000000) (disch := first | omega | assumption | exact Nat.le_of_ble_eq_true rfl) only [go_sem, ↓mwp_block, simprocAttr])
            refine st_append (bytes := 1) (xs := []) (ys := f.bs.take (f.safe + min (max kk 0).toNat (f.bs.length - f.safe))) bEnc_len (by omega) bEnc_plain rfl S (by simp [srcLen]; omega) (src_arr bEnc_len (arr_take harr _) (by simp; omega)) (by simp; omega) (by simp; omega) ?_
            clear S F
            intro v' h S
            simp only [List.nil_append] at S
            obtain ⟨B2, e2, rfl⟩ := S.sl
            try refine chk_st S.tl ?_
            (try simp (maxSteps := 1000000) (disch := first | omega | assumption | exact Nat.le_of_ble_eq_true rfl) only [go_sem, ↓mwp_block, simprocAttr])
            refine st_store S.p1 rfl rfl (by rw [rcells_len hw8]; omega) ?_
            clear S
            intro h S
            have hset := rcells_set (cap := D.cap) (fuse := -1) (lost := false) hlt (.slice B2 (f.bs.take (f.safe + min (max kk 0).toNat (f.bs.length - f.safe))).length e2, some (restF kk f))
            simp only [rcell, Option.isSome_some, safeF] at hset
            simp only [restF] at hset
            have eX : (f.bs.length : Int) = ((f.safe + min (max kk 0).toNat (f.bs.length - f.safe) : Nat) : Int) := by omega
            rw [eX, hset] at S
            have S := row_swap (F := rslotA) (z := (Value.slice B2 (f.bs.take (f.safe + min (max kk 0).toNat (f.bs.length - f.safe))).length e2, some (restF kk f))) hlt S
            (try simp (maxSteps := 1000000) (disch := first | omega | assumption | exact Nat.le_of_ble_eq_true rfl) only [go_sem, ↓mwp_block, simprocAttr, e12])
            refine hJ _ _ ?_ ?_
            · (try simp (maxSteps := 1000000) (disch := first | omega | assumption | exact Nat.le_of_ble_eq_true rfl) only [go_sem, ↓mwp_block, simprocAttr, e0, e3, e12])
              refine ⟨i + 1, _, rfl, by omega, by simpa using hw8, ?_, S⟩
              rw [List.map_set]
              exact hstep
            · rw [hmu]
              (try simp (maxSteps := 1000000) (disch := first | omega | assumption | exact Nat.le_of_ble_eq_true rfl) only [go_sem, ↓mwp_block, simprocAttr, e12])
              omega
          · have hN : ((f.safe + min (max kk 0).toNat (f.bs.length - f.safe) : Nat) : Int) = (f.safe : Int) + (if 0 > kk then 0 else kk) := by omega
            (try simp (maxSteps := 1000000) (disch := first | omega | assumption | exact Nat.le_of_ble_eq_true rfl) only [go_sem, ↓mwp_block, simprocAttr, e0, e3, e12, F, Fb, hki, hc1, Nat.mul_one])
            refine draw_eq ?_
            (try simp (maxSteps := 1000000) (disch := first | omega | assumption | exact Nat.le_of_ble_eq_true rfl) only [go_sem, ↓mwp_block, simprocAttr, e0, e3, e12, F, Fb, hki, hc1, Nat.mul_one])
            refine draw_st S ?_
            have rx : ∀ off K t, readT (fun h' => St h0 h' _) (fun h' => rd1 h' (.pointer (some ⟨w, off, none⟩))) K t = bindT ((rcells D.cap ws (-1) false)[off]?) K ⟨⟩ := fun off K t => reads_of S (fun h' s => st_rd1 s)
            (try simp (maxSteps := 1000000) (disch := first | omega | assumption | exact Nat.le_of_ble_eq_true rfl) only [go_sem, ↓mwp_block, simprocAttr, e0, rx, hc1, hc2])
            (refine st_alloc S ?_; clear S; intro q h S; (try simp only [splice_cons, splice_nil, List.set_cons_zero, List.set_cons_succ, Nat.zero_add, Nat.reduceAdd, List.cons_append, List.nil_append] at S); ((try clear F); have F := S.all; (try simp only [all_cons, all_nil, says_cell, and_true] at F)))
            have S := S.cellOwn (enc := bEnc) (sz := 1) (ys := []) bEnc_len rfl (by decide)
            try refine chk_st S.tl ?_
            have harr : Arr bEnc 1 h B f.bs := by
              have := row_pick hlt S.tl
              rw [hwi] at this
              exact St.arr this bEnc_len
            (try simp (maxSteps := 1000000) (disch := first | omega | assumption | exact Nat.le_of_ble_eq_true rfl) only [go_sem, ↓mwp_block, simprocAttr])
            refine st_append (bytes := 1) (xs := []) (ys := f.bs.take (f.safe + min (max kk 0).toNat (f.bs.length - f.safe))) bEnc_len (by omega) bEnc_plain rfl S (by simp [srcLen]; omega) (src_arr bEnc_len (arr_take harr _) (by simp; omega)) (by simp; omega) (by simp; omega) ?_
            clear S F
            intro v' h S
            simp only [List.nil_append] at S
            obtain ⟨B2, e2, rfl⟩ := S.sl
            try refine chk_st S.tl ?_
            (try simp (maxSteps := 1000000) (disch := first | omega | assumption | exact Nat.le_of_ble_eq_true rfl) only [go_sem, ↓mwp_block, simprocAttr])
            refine st_store S.p1 rfl rfl (by rw [rcells_len hw8]; omega) ?_
            clear S
            intro h S
            have hset := rcells_set (cap := D.cap) (fuse := -1) (lost := false) hlt (.slice B2 (f.bs.take (f.safe + min (max kk 0).toNat (f.bs.length - f.safe))).length e2, some (restF kk f))
            simp only [rcell, Option.isSome_some, safeF] at hset
            simp only [restF] at hset
            have eX : (f.safe : Int) + (if 0 > kk then 0 else kk) = ((f.safe + min (max kk 0).toNat (f.bs.length - f.safe) : Nat) : Int) := by omega
            rw [eX, hset] at S
            have S := row_swap (F := rslotA) (z := (Value.slice B2 (f.bs.take (f.safe + min (max kk 0).toNat (f.bs.length - f.safe))).length e2, some (restF kk f))) hlt S
            (try simp (maxSteps := 1000000) (disch := first | omega | assumption | exact Nat.le_of_ble_eq_true rfl) only [go_sem, ↓mwp_block, simprocAttr, e12])
            refine hJ _ _ ?_ ?_
            · (try simp (maxSteps := 1000000) (disch := first | omega | assumption | exact Nat.le_of_ble_eq_true rfl) only [go_sem, ↓mwp_block, simprocAttr, e0, e3, e12])
              refine ⟨i + 1, _, rfl, by omega, by simpa using hw8, ?_, S⟩
              rw [List.map_set]
              exact hstep
            · rw [hmu]
              (try simp (maxSteps := 1000000) (disch := first | omega | assumption | exact Nat.le_of_ble_eq_true rfl) only [go_sem, ↓mwp_block, simprocAttr, e12])
              omega
    · obtain rfl : i = 8 := by omega
      (try simp (maxSteps := 1000000) (disch := first | omega | assumption | exact Nat.le_of_ble_eq_true rfl) only [go_sem, ↓mwp_block, simprocAttr])
      refine hK _ _ (refA_open.2 ⟨ws, ?_, hw8, ?_⟩)
      · apply List.ext_getElem?
        intro j
        rw [hw j]
        by_cases hj : j < 8
        · rw [if_pos hj]
          rfl
        · rw [if_neg hj, List.getElem?_eq_none (by omega)]
          exact (List.getElem?_eq_none (by simp [restartD]; omega)).symm
      · have S2 : St h0 h (cellA b (k8 ks) 77 :: cellA w (rcells D.cap ws (-1) false) 132 :: (ws.map rslotA ++ l)) := S.perm ((List.Perm.cons _ List.perm_middle).trans (List.Perm.swap _ _ _))
        exact S2.tl
end Go.Proofs.Ytnjjdpeglkiifaa.MX

/- The reference's disk: acts that look, light a fuse, remove, sync. -/
namespace Go.Proofs.Ytnjjdpeglkiifaa.MX
open Go Go.Proofs
set_option linter.unusedSimpArgs false
set_option linter.unusedVariables false

theorem RAct5_ok (a n : Int) (v : Value) {h0 h : Heap} {l : List HP} {w : Nat} {D : Dk} (S : St h0 h (refA w D :: l)) :
    CallsH Try.prog 49 [.pointer (some ⟨w, 0, none⟩), .int .i64 5, .int .i64 a, .int .i64 n, v] h fun v h' => v = .int .i64 (fuseD D n).2 ∧ St h0 h' (refA w (fuseD D n).1 :: l) := by
  obtain ⟨zs, hz, h8, S⟩ := refA_open.1 S
  have hlo := rcells_lost (cap := D.cap) (fuse := D.fuse) (lost := D.lost) h8
  obtain ⟨cap, fs, fuse, lost⟩ := D
  simp only at hz S hlo
  (refine enterK c_recoupref01_Disk_Act (Nat.le_of_ble_eq_true rfl) fun K hK => ?_; (try simp (maxSteps := 1000000) (disch := first | omega | assumption | exact Nat.le_of_ble_eq_true rfl) only [go_sem, ↓mwp_block, simprocAttr, ir_recoupref01_Disk_Act]))
  ((try clear F); have F := S.all; (try simp only [all_cons, all_nil, says_cell, and_true] at F))
  (try simp (maxSteps := 1000000) (disch := first | omega | assumption | exact Nat.le_of_ble_eq_true rfl) only [go_sem, ↓mwp_block, simprocAttr, F, hlo])
  cases lost
  · by_cases hn : n < 0
    · (try simp (maxSteps := 1000000) (disch := first | omega | assumption | exact Nat.le_of_ble_eq_true rfl) only [go_sem, ↓mwp_block, simprocAttr])
      refine hK _ _ ?_
      simp only [fuseD, Bool.false_eq_true, if_false, if_pos hn]
      exact ⟨trivial, refA_open.2 ⟨zs, hz, h8, S⟩⟩
    · (try simp (maxSteps := 1000000) (disch := first | omega | assumption | exact Nat.le_of_ble_eq_true rfl) only [go_sem, ↓mwp_block, simprocAttr])
      refine st_store S rfl rfl (by rw [rcells_len h8]; omega) ?_
      clear S F
      intro h S
      rw [rcells_setF h8] at S
      (try simp (maxSteps := 1000000) (disch := first | omega | assumption | exact Nat.le_of_ble_eq_true rfl) only [go_sem, ↓mwp_block, simprocAttr])
      refine hK _ _ ?_
      simp only [fuseD, Bool.false_eq_true, if_false, if_neg hn]
      exact ⟨trivial, refA_open.2 ⟨zs, hz, h8, S⟩⟩
  · (try simp (maxSteps := 1000000) (disch := first | omega | assumption | exact Nat.le_of_ble_eq_true rfl) only [go_sem, ↓mwp_block, simprocAttr])
    refine hK _ _ ?_
    simp only [fuseD, if_true]
    exact ⟨trivial, refA_open.2 ⟨zs, hz, h8, S⟩⟩
theorem rsnd {D : Dk} {zs : List RSlot} (hz : zs.map Prod.snd = D.fs) {n : Int} (hn : 0 ≤ n ∧ n < 8) (hl : n.toNat < zs.length) : fileOf D n = (zs[n.toNat]).2 := by
  rw [fileOf, if_pos hn, ← hz, List.getD_eq_getElem?_getD, List.getElem?_map, List.getElem?_eq_getElem hl]
  rfl

set_option maxHeartbeats 4000000 in
theorem RAct4_ok (n m : Int) (v : Value) {h0 h : Heap} {l : List HP} {w : Nat} {D : Dk} (S : St h0 h (refA w D :: l)) (ok : D.ok) :
    CallsH Try.prog 49 [.pointer (some ⟨w, 0, none⟩), .int .i64 4, .int .i64 n, .int .i64 m, v] h fun v h' => v = .int .i64 (removeD D n).2 ∧ St h0 h' (refA w (removeD D n).1 :: l) := by
  have S0 := S
  obtain ⟨zs, hz, h8, S⟩ := refA_open.1 S
  have hlo := rcells_lost (cap := D.cap) (fuse := D.fuse) (lost := D.lost) h8
  have hfu := rcells_fuse (cap := D.cap) (fuse := D.fuse) (lost := D.lost) h8
  obtain ⟨hf1, hf2⟩ := ok.fuse
  (refine enterK c_recoupref01_Disk_Act (Nat.le_of_ble_eq_true rfl) fun K hK => ?_; (try simp (maxSteps := 1000000) (disch := first | omega | assumption | exact Nat.le_of_ble_eq_true rfl) only [go_sem, ↓mwp_block, simprocAttr, ir_recoupref01_Disk_Act]))
  ((try clear F); have F := S.all; (try simp only [all_cons, all_nil, says_cell, and_true] at F))
  (try simp (maxSteps := 1000000) (disch := first | omega | assumption | exact Nat.le_of_ble_eq_true rfl) only [go_sem, ↓mwp_block, simprocAttr, F, hlo])
  cases hd : D.lost
  · by_cases hn0 : n < 0
    · (try simp (maxSteps := 1000000) (disch := first | omega | assumption | exact Nat.le_of_ble_eq_true rfl) only [go_sem, ↓mwp_block, simprocAttr, hd])
      refine hK _ _ ?_
      have ha : askE D n = 1 := by simp only [askE, hd, Bool.false_eq_true, if_false]; rw [if_neg (by omega)]
      simp only [removeD, thereE, ha, ne_eq, show ¬ ((1 : Int) = 0) by decide, not_false_eq_true, if_true]
      exact ⟨trivial, S0⟩
    by_cases hn1 : 7 < n
    · (try simp (maxSteps := 1000000) (disch := first | omega | assumption | exact Nat.le_of_ble_eq_true rfl) only [go_sem, ↓mwp_block, simprocAttr, hd])
      refine hK _ _ ?_
      have ha : askE D n = 1 := by simp only [askE, hd, Bool.false_eq_true, if_false]; rw [if_neg (by omega)]
      simp only [removeD, thereE, ha, ne_eq, show ¬ ((1 : Int) = 0) by decide, not_false_eq_true, if_true]
      exact ⟨trivial, S0⟩
    have hn : 0 ≤ n ∧ n < 8 := by omega
    have ha : askE D n = 0 := by simp only [askE, hd, Bool.false_eq_true, if_false]; rw [if_pos hn]
    have hlt : n.toNat < zs.length := by omega
    have hc0 := rcells_at (cap := D.cap) (fuse := D.fuse) (lost := D.lost) (k := 0) hlt (by omega)
    have hfo := rsnd hz hn hlt
    rw [hd] at hc0 hfu
    generalize hzz : zs[n.toNat] = z at hc0 hfo
    obtain ⟨s, o⟩ := z
    simp only [rcell, List.getElem?_cons_succ, List.getElem?_cons_zero, Nat.add_zero] at hc0 hfo
    cases o with
    | none =>
      simp only [Option.isSome_none] at hc0
      (try simp (maxSteps := 1000000) (disch := first | omega | assumption | exact Nat.le_of_ble_eq_true rfl) only [go_sem, ↓mwp_block, simprocAttr, hd, F, hc0])
      refine hK _ _ ?_
      simp only [removeD, thereE, ha, hfo, ne_eq, not_true_eq_false, if_false, Option.isNone_none, if_true, show ¬ ((7 : Int) = 0) by decide, not_false_eq_true]
      exact ⟨trivial, S0⟩
    | some f =>
      simp only [Option.isSome_some] at hc0
      have ht : thereE D n = 0 := by simp [thereE, ha, hfo]
      (try simp (maxSteps := 1000000) (disch := first | omega | assumption | exact Nat.le_of_ble_eq_true rfl) only [go_sem, ↓mwp_block, simprocAttr, hd, F, hc0, hfu])
      refine draw_eq ?_
      (try simp (maxSteps := 1000000) (disch := first | omega | assumption | exact Nat.le_of_ble_eq_true rfl) only [go_sem, ↓mwp_block, simprocAttr, hd, F, hc0, hfu])
      by_cases hz0 : D.fuse = 0
      · (try simp (maxSteps := 1000000) (disch := first | omega | assumption | exact Nat.le_of_ble_eq_true rfl) only [go_sem, ↓mwp_block, simprocAttr])
        refine st_store S rfl rfl (by rw [rcells_len h8]; omega) ?_
        clear S F
        intro h S
        rw [rcells_setL h8] at S
        (try simp (maxSteps := 1000000) (disch := first | omega | assumption | exact Nat.le_of_ble_eq_true rfl) only [go_sem, ↓mwp_block, simprocAttr])
        refine hK _ _ ?_
        simp only [removeD, ht, ne_eq, not_true_eq_false, if_false, if_pos hz0]
        exact ⟨trivial, refA_open.2 ⟨zs, hz, h8, S⟩⟩
      · have last : ∀ (fu : Int) (h : Heap), fu = burnF D.fuse → St h0 h (cellA w (splice (rcells D.cap zs fu D.lost) (1 + n.toNat * 3) [.bool false, .slice none 0 0, .int .i64 0]) 132 :: (zs.map rslotA ++ l)) → St h0 h (refA w (removeD D n).1 :: l) ∧ (removeD D n).2 = 0 := by
          intro fu h hfe S
          have hset := rcells_set (cap := D.cap) (fuse := fu) (lost := D.lost) hlt (.slice none 0 0, none)
          simp only [rcell, Option.isSome_none, safeF] at hset
          rw [show (((0 : Nat) : Int)) = 0 from rfl] at hset
          rw [hset] at S
          have S := row_swap (F := rslotA) (z := (Value.slice none 0 0, none)) hlt (S.nilS.p1)
          simp only [removeD, ht, ne_eq, not_true_eq_false, if_false, if_neg hz0]
          refine ⟨refA_open.2 ⟨zs.set n.toNat (.slice none 0 0, none), ?_, by simpa using h8, ?_⟩, trivial⟩
          · rw [List.map_set, hz]
          · rw [← hfe]
            exact S
        by_cases hp : 0 < D.fuse
        · (try simp (maxSteps := 1000000) (disch := first | omega | assumption | exact Nat.le_of_ble_eq_true rfl) only [go_sem, ↓mwp_block, simprocAttr, hd, F, hfu])
          refine st_store S rfl rfl (by rw [rcells_len h8]; omega) ?_
          clear S F
          intro h S
          rw [rcells_setF h8] at S
          (try simp (maxSteps := 1000000) (disch := first | omega | assumption | exact Nat.le_of_ble_eq_true rfl) only [go_sem, ↓mwp_block, simprocAttr])
          refine st_store S rfl rfl (by rw [rcells_len h8]; omega) ?_
          clear S
          intro h S
          (try simp (maxSteps := 1000000) (disch := first | omega | assumption | exact Nat.le_of_ble_eq_true rfl) only [go_sem, ↓mwp_block, simprocAttr])
          have := last (D.fuse - 1) h (by rw [burnF, if_pos hp]) S
          exact hK _ _ ⟨by rw [this.2], this.1⟩
        · (try simp (maxSteps := 1000000) (disch := first | omega | assumption | exact Nat.le_of_ble_eq_true rfl) only [go_sem, ↓mwp_block, simprocAttr, hd, F, hfu])
          refine st_store S rfl rfl (by rw [rcells_len h8]; omega) ?_
          clear S F
          intro h S
          (try simp (maxSteps := 1000000) (disch := first | omega | assumption | exact Nat.le_of_ble_eq_true rfl) only [go_sem, ↓mwp_block, simprocAttr])
          have := last D.fuse h (by rw [burnF, if_neg hp]) S
          exact hK _ _ ⟨by rw [this.2], this.1⟩
  · (try simp (maxSteps := 1000000) (disch := first | omega | assumption | exact Nat.le_of_ble_eq_true rfl) only [go_sem, ↓mwp_block, simprocAttr, hd])
    refine hK _ _ ?_
    have ha : askE D n = 6 := by simp only [askE, hd, if_true]
    simp only [removeD, thereE, ha, ne_eq, show ¬ ((6 : Int) = 0) by decide, not_false_eq_true, if_true]
    exact ⟨trivial, S0⟩
end Go.Proofs.Ytnjjdpeglkiifaa.MX

/- The reference's disk: sync. -/
namespace Go.Proofs.Ytnjjdpeglkiifaa.MX
open Go Go.Proofs
set_option linter.unusedSimpArgs false
set_option linter.unusedVariables false

theorem set_self {c : List Value} {k : Nat} {v : Value} (h : c[k]? = some v) : c.set k v = c := by
  obtain ⟨hk, he⟩ := List.getElem?_eq_some_iff.1 h
  rw [← he, List.set_getElem_self]
set_option maxHeartbeats 4000000 in
theorem RAct1_ok (n m : Int) (v : Value) {h0 h : Heap} {l : List HP} {w : Nat} {D : Dk} (S : St h0 h (refA w D :: l)) (ok : D.ok) :
    CallsH Try.prog 49 [.pointer (some ⟨w, 0, none⟩), .int .i64 1, .int .i64 n, .int .i64 m, v] h fun v h' => v = .int .i64 (syncD D n).2 ∧ St h0 h' (refA w (syncD D n).1 :: l) := by
  have S0 := S
  obtain ⟨zs, hz, h8, S⟩ := refA_open.1 S
  have hlo := rcells_lost (cap := D.cap) (fuse := D.fuse) (lost := D.lost) h8
  have hfu := rcells_fuse (cap := D.cap) (fuse := D.fuse) (lost := D.lost) h8
  obtain ⟨hf1, hf2⟩ := ok.fuse
  (refine enterK c_recoupref01_Disk_Act (Nat.le_of_ble_eq_true rfl) fun K hK => ?_; (try simp (maxSteps := 1000000) (disch := first | omega | assumption | exact Nat.le_of_ble_eq_true rfl) only [go_sem, ↓mwp_block, simprocAttr, ir_recoupref01_Disk_Act]))
  ((try clear F); have F := S.all; (try simp only [all_cons, all_nil, says_cell, and_true] at F))
  (try simp (maxSteps := 1000000) (disch := first | omega | assumption | exact Nat.le_of_ble_eq_true rfl) only [go_sem, ↓mwp_block, simprocAttr, F, hlo])
  cases hd : D.lost
  · by_cases hn0 : n < 0
    · (try simp (maxSteps := 1000000) (disch := first | omega | assumption | exact Nat.le_of_ble_eq_true rfl) only [go_sem, ↓mwp_block, simprocAttr, hd])
      refine hK _ _ ?_
      have ha : askE D n = 1 := by simp only [askE, hd, Bool.false_eq_true, if_false]; rw [if_neg (by omega)]
      simp only [syncD, thereE, ha, ne_eq, show ¬ ((1 : Int) = 0) by decide, not_false_eq_true, if_true]
      exact ⟨trivial, S0⟩
    by_cases hn1 : 7 < n
    · (try simp (maxSteps := 1000000) (disch := first | omega | assumption | exact Nat.le_of_ble_eq_true rfl) only [go_sem, ↓mwp_block, simprocAttr, hd])
      refine hK _ _ ?_
      have ha : askE D n = 1 := by simp only [askE, hd, Bool.false_eq_true, if_false]; rw [if_neg (by omega)]
      simp only [syncD, thereE, ha, ne_eq, show ¬ ((1 : Int) = 0) by decide, not_false_eq_true, if_true]
      exact ⟨trivial, S0⟩
    have hn : 0 ≤ n ∧ n < 8 := by omega
    have ha : askE D n = 0 := by simp only [askE, hd, Bool.false_eq_true, if_false]; rw [if_pos hn]
    have hlt : n.toNat < zs.length := by omega
    have hc0 := rcells_at (cap := D.cap) (fuse := D.fuse) (lost := D.lost) (k := 0) hlt (by omega)
    have hfo := rsnd hz hn hlt
    rw [hd] at hc0 hfu
    generalize hzz : zs[n.toNat] = z at hc0 hfo
    obtain ⟨s, o⟩ := z
    simp only [rcell, List.getElem?_cons_succ, List.getElem?_cons_zero, Nat.add_zero] at hc0 hfo
    cases o with
    | none =>
      simp only [Option.isSome_none] at hc0
      (try simp (maxSteps := 1000000) (disch := first | omega | assumption | exact Nat.le_of_ble_eq_true rfl) only [go_sem, ↓mwp_block, simprocAttr, hd, F, hc0])
      refine hK _ _ ?_
      simp only [syncD, thereE, ha, hfo, ne_eq, not_true_eq_false, if_false, Option.isNone_none, if_true, show ¬ ((7 : Int) = 0) by decide, not_false_eq_true]
      exact ⟨trivial, S0⟩
    | some f =>
      simp only [Option.isSome_some] at hc0
      have ht : thereE D n = 0 := by simp [thereE, ha, hfo]
      (try simp (maxSteps := 1000000) (disch := first | omega | assumption | exact Nat.le_of_ble_eq_true rfl) only [go_sem, ↓mwp_block, simprocAttr, hd, F, hc0, hfu])
      refine draw_eq ?_
      (try simp (maxSteps := 1000000) (disch := first | omega | assumption | exact Nat.le_of_ble_eq_true rfl) only [go_sem, ↓mwp_block, simprocAttr, hd, F, hc0, hfu])
      by_cases hz0 : D.fuse = 0
      · (try simp (maxSteps := 1000000) (disch := first | omega | assumption | exact Nat.le_of_ble_eq_true rfl) only [go_sem, ↓mwp_block, simprocAttr])
        refine st_store S rfl rfl (by rw [rcells_len h8]; omega) ?_
        clear S F
        intro h S
        rw [rcells_setL h8] at S
        (try simp (maxSteps := 1000000) (disch := first | omega | assumption | exact Nat.le_of_ble_eq_true rfl) only [go_sem, ↓mwp_block, simprocAttr])
        refine hK _ _ ?_
        simp only [syncD, ht, ne_eq, not_true_eq_false, if_false, if_pos hz0]
        exact ⟨trivial, refA_open.2 ⟨zs, hz, h8, S⟩⟩
      · have last : ∀ (fu : Int) (h : Heap), fu = burnF D.fuse → St h0 h (cellA w (splice (rcells D.cap zs fu D.lost) (1 + n.toNat * 3 + 2) [.int .i64 f.bs.length]) 132 :: (zs.map rslotA ++ l)) → St h0 h (refA w (syncD D n).1 :: l) ∧ (syncD D n).2 = 0 := by
          intro fu h hfe S
          have k0 := rcells_at (cap := D.cap) (fuse := fu) (lost := D.lost) (k := 0) hlt (by omega)
          have k1 := rcells_at (cap := D.cap) (fuse := fu) (lost := D.lost) (k := 1) hlt (by omega)
          rw [hzz] at k0 k1
          have hset := rcells_set (cap := D.cap) (fuse := fu) (lost := D.lost) hlt (s, some ⟨f.bs, f.bs.length⟩)
          simp only [rcell, Option.isSome_some, safeF, List.getElem?_cons_zero, List.getElem?_cons_succ, Nat.add_zero] at hset k0 k1
          have e : splice (rcells D.cap zs fu D.lost) (1 + n.toNat * 3) [Value.bool true, s, .int .i64 f.bs.length] = splice (rcells D.cap zs fu D.lost) (1 + n.toNat * 3 + 2) [.int .i64 f.bs.length] := by
            simp only [splice]
            rw [set_self k0, set_self k1]
          rw [← e, hset] at S
          simp only [syncD, ht, ne_eq, not_true_eq_false, if_false, if_neg hz0, hfo, Option.getD_some]
          refine ⟨refA_open.2 ⟨zs.set n.toNat (s, some ⟨f.bs, f.bs.length⟩), ?_, by simpa using h8, ?_⟩, trivial⟩
          · rw [List.map_set, hz]
          · rw [← hfe, List.map_set]
            have h1 : (zs.map rslotA).set n.toNat (rslotA (s, some ⟨f.bs, f.bs.length⟩)) = zs.map rslotA := by
              have h2 : rslotA (s, some ⟨f.bs, f.bs.length⟩) = rslotA zs[n.toNat] := by rw [hzz]; rfl
              rw [h2, ← List.map_set, List.set_getElem_self]
            rw [h1]
            exact S
        obtain ⟨B, e, hs⟩ : ∃ B e, s = .slice B f.bs.length e := by
          have := row_pick hlt S
          rw [hzz] at this
          exact St.sl (xs := f.bs) this
        have hc1 := fun fu => rcells_at (cap := D.cap) (fuse := fu) (lost := false) (k := 1) hlt (by omega)
        rw [hzz] at hc1
        simp only [rcell, List.getElem?_cons_succ, List.getElem?_cons_zero, hs] at hc1
        by_cases hp : 0 < D.fuse
        · (try simp (maxSteps := 1000000) (disch := first | omega | assumption | exact Nat.le_of_ble_eq_true rfl) only [go_sem, ↓mwp_block, simprocAttr, hd, F, hfu])
          refine st_store S rfl rfl (by rw [rcells_len h8]; omega) ?_
          clear S F
          intro h S
          rw [rcells_setF h8] at S
          ((try clear F); have F := S.all; (try simp only [all_cons, all_nil, says_cell, and_true] at F))
          (try simp (maxSteps := 1000000) (disch := first | omega | assumption | exact Nat.le_of_ble_eq_true rfl) only [go_sem, ↓mwp_block, simprocAttr])
          refine draw_eq ?_
          (try simp (maxSteps := 1000000) (disch := first | omega | assumption | exact Nat.le_of_ble_eq_true rfl) only [go_sem, ↓mwp_block, simprocAttr, hd, F, hc1])
          refine st_store S rfl rfl (by rw [rcells_len h8]; omega) ?_
          clear S F
          intro h S
          (try simp (maxSteps := 1000000) (disch := first | omega | assumption | exact Nat.le_of_ble_eq_true rfl) only [go_sem, ↓mwp_block, simprocAttr])
          have := last (D.fuse - 1) h (by rw [burnF, if_pos hp]) S
          exact hK _ _ ⟨by rw [this.2], this.1⟩
        · (try simp (maxSteps := 1000000) (disch := first | omega | assumption | exact Nat.le_of_ble_eq_true rfl) only [go_sem, ↓mwp_block, simprocAttr, hd, F, hfu])
          refine draw_eq ?_
          (try simp (maxSteps := 1000000) (disch := first | omega | assumption | exact Nat.le_of_ble_eq_true rfl) only [go_sem, ↓mwp_block, simprocAttr, hd, F, hc1])
          refine st_store S rfl rfl (by rw [rcells_len h8]; omega) ?_
          clear S F
          intro h S
          (try simp (maxSteps := 1000000) (disch := first | omega | assumption | exact Nat.le_of_ble_eq_true rfl) only [go_sem, ↓mwp_block, simprocAttr])
          have := last D.fuse h (by rw [burnF, if_neg hp]) S
          exact hK _ _ ⟨by rw [this.2], this.1⟩
  · (try simp (maxSteps := 1000000) (disch := first | omega | assumption | exact Nat.le_of_ble_eq_true rfl) only [go_sem, ↓mwp_block, simprocAttr, hd])
    refine hK _ _ ?_
    have ha : askE D n = 6 := by simp only [askE, hd, if_true]
    simp only [syncD, thereE, ha, ne_eq, show ¬ ((6 : Int) = 0) by decide, not_false_eq_true, if_true]
    exact ⟨trivial, S0⟩
end Go.Proofs.Ytnjjdpeglkiifaa.MX
