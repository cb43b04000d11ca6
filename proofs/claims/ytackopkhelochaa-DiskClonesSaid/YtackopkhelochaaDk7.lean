/- The disk: Restart. -/
import Derived.Test.YtackopkhelochaaDk6
namespace Go.Proofs.Ytackopkhelochaa.MX
open Go Go.Proofs
set_option linter.unusedSimpArgs false
set_option linter.unusedVariables false

/-- Eight numbers. -/
def k8 (ks : List Int) : List Value := ks.map (.int .i64 ·)
/-- What is left of a file when the power comes back. -/
def restF (k : Int) (f : DF) : DF := ⟨f.bs.take (f.safe + min (max k 0).toNat (f.bs.length - f.safe)), f.safe + min (max k 0).toNat (f.bs.length - f.safe)⟩
def restS (k : Int) (o : Option DF) : Option DF := o.map (restF k)
def restartD (D : Dk) (ks : List Int) : Dk := { D with fs := List.zipWith restS ks D.fs, fuse := -1, lost := false }
/-- The i-th step of it. -/
theorem rest_step {ks : List Int} {fs ws : List (Option DF)} {i : Nat} (hk : ks.length = fs.length) (hi : i < fs.length) (hl : ws.length = fs.length) (hw : ∀ j : Nat, ws[j]? = if j < i then (List.zipWith restS ks fs)[j]? else fs[j]?) :
    ∀ j : Nat, (ws.set i (restS (ks[i]'(by omega)) fs[i]))[j]? = if j < i + 1 then (List.zipWith restS ks fs)[j]? else fs[j]? := by
  intro j
  have hz : i < (List.zipWith restS ks fs).length := by simp [hk]; exact hi
  by_cases hji : j = i
  · subst hji
    rw [List.getElem?_set_self (by omega), if_pos (by omega), List.getElem?_eq_getElem hz, List.getElem_zipWith]
  · rw [List.getElem?_set_ne (by omega), hw j]
    by_cases hj : j < i
    · rw [if_pos hj, if_pos (by omega)]
    · rw [if_neg hj, if_neg (by omega)]

set_option maxHeartbeats 4000000 in
theorem Restart_ok (ks : List Int) (hk : ks.length = 8) (hb : ∀ k ∈ ks, I64 k) {h0 h : Heap} {l : List HP} {d : Nat} {D : Dk} (S : St h0 h (diskA d D :: l)) (ok : D.ok) :
    CallsH Try.prog 33 [.pointer (some ⟨d, 0, none⟩), .agg (k8 ks).toArray] h fun v h' => St h0 h' (diskA d (restartD D ks) :: l) := by
  have hkl : (k8 ks).length = 8 := by simp [k8, hk]
  have hfl := ok.len
  obtain ⟨zs, hz, h8, S⟩ := diskA_open.1 S
  (refine enterK c_disk_Disk_Restart (Nat.le_of_ble_eq_true rfl) fun K hK => ?_; (try simp (maxSteps := 1000000) (disch := first | omega | assumption | exact Nat.le_of_ble_eq_true rfl) only [go_sem, ↓mwp_block, simprocAttr, ir_disk_Disk_Restart]))
  (refine st_alloc S ?_; clear S; intro b h S; (try simp only [splice_cons, splice_nil, List.set_cons_zero, List.set_cons_succ, Nat.zero_add, Nat.reduceAdd, List.cons_append, List.nil_append] at S); ((try clear F); have F := S.all; (try simp only [all_cons, all_nil, says_cell, and_true] at F)))
  (try simp (maxSteps := 1000000) (disch := first | omega | assumption | exact Nat.le_of_ble_eq_true rfl) only [go_sem, ↓mwp_block, simprocAttr])
  refine st_store S.p1 rfl rfl (by rw [dcells_len h8]; omega) ?_
  clear S F
  intro h S
  rw [dcells_setL h8] at S
  (try simp (maxSteps := 1000000) (disch := first | omega | assumption | exact Nat.le_of_ble_eq_true rfl) only [go_sem, ↓mwp_block, simprocAttr])
  refine st_store S rfl rfl (by rw [dcells_len h8]; omega) ?_
  clear S
  intro h S
  rw [dcells_setF h8] at S
  ((try clear F); have F := S.all; (try simp only [all_cons, all_nil, says_cell, and_true] at F))
  have hps : ((dcells D.cap zs (-1) false).drop 1).take 8 = zs.map ptrOf := by
    rw [dcells, List.drop_succ_cons, List.drop_zero, List.take_append_of_le_length (by simp [h8]), List.take_of_length_le (by simp [h8])]
  have hdl := dcells_len (cap := D.cap) (fuse := -1) (lost := false) h8
  (try simp (maxSteps := 1000000) (disch := first | omega | assumption | exact Nat.le_of_ble_eq_true rfl) only [go_sem, ↓mwp_block, simprocAttr, F, hps])
  have S : St h0 h (cellA d (dcells D.cap zs (-1) false) 99 :: (zs.map slotA ++ (cellA b (k8 ks) 46 :: l))) := S.perm (List.Perm.cons _ List.perm_middle.symm)
  refine loop_intro (fun ρ h' => ρ 3 = .pointer (some ⟨b, 0, none⟩) ∧ ρ 18 = .agg (zs.map ptrOf).toArray ∧ ∃ (i : Nat) (ws : List Slot), ρ 19 = .int .i64 i ∧ i ≤ 8 ∧ ws.length = 8 ∧ ws.map ptrOf = zs.map ptrOf ∧ (∀ j : Nat, (ws.map dfOf)[j]? = if j < i then (List.zipWith restS ks D.fs)[j]? else D.fs[j]?) ∧
    St h0 h' (cellA d (dcells D.cap zs (-1) false) 99 :: (ws.map slotA ++ (cellA b (k8 ks) 46 :: l)))) (fun ρ _ => 8 - (iv (ρ 19)).toNat) ?_ ?_
  · (try simp (maxSteps := 1000000) (disch := first | omega | assumption | exact Nat.le_of_ble_eq_true rfl) only [go_sem, ↓mwp_block, simprocAttr])
    exact ⟨0, zs, rfl, by omega, h8, rfl, fun j => by rw [if_neg (by omega), hz], S⟩
  · clear S F
    rintro ρ h J hJ ⟨e3, e18, i, ws, e19, hi, hw8, hwp, hw, S⟩
    (try simp (maxSteps := 1000000) (disch := first | omega | assumption | exact Nat.le_of_ble_eq_true rfl) only [go_sem, ↓mwp_block, simprocAttr, e19])
    refine cond_dec (fun hg => ?_) (fun hg => ?_)
    · have hi8 : i < 8 := by omega
      have hlt : i < ws.length := by omega
      have hpi : (zs.map ptrOf)[i]? = some (ptrOf ws[i]) := by rw [← hwp, List.getElem?_map, List.getElem?_eq_getElem hlt]; rfl
      have hki : (k8 ks)[i]? = some (.int .i64 (ks[i]'(by omega))) := by simp [k8, hk, hi8]
      have hkb := hb _ (List.getElem_mem (show i < ks.length by omega))
      have hstep := rest_step (ks := ks) (fs := D.fs) (ws := ws.map dfOf) (i := i) (by omega) (by omega) (by simp; omega) hw
      have hfi : D.fs[i]'(by omega) = dfOf ws[i] := by
        have := hw i
        rw [if_neg (by omega), List.getElem?_map, List.getElem?_eq_getElem hlt, List.getElem?_eq_getElem (show i < D.fs.length by omega)] at this
        exact (Option.some.inj this).symm
      rw [hfi] at hstep
      have hmem : dfOf ws[i] ∈ D.fs := by rw [← hfi]; exact List.getElem_mem _
      have hsz := used_get (fs := D.fs) (k := i) (by omega)
      rw [hfi] at hsz
      have hro := ok.room
      have hcp := ok.cap
      generalize ks[i]'(by omega) = kk at hki hkb hstep
      have hset0 : ws.set i ws[i] = ws := List.set_getElem_self hlt
      have Sp := slot_pick hlt S
      generalize hwi : ws[i] = w at hpi hstep hset0 Sp hmem hsz
      cases w with
      | none =>
        (try simp (maxSteps := 1000000) (disch := first | omega | assumption | exact Nat.le_of_ble_eq_true rfl) only [go_sem, ↓mwp_block, simprocAttr, e18, e19, hpi, Nat.mul_one, ptrOf])
        refine hJ _ _ ?_ ?_
        · (try simp (maxSteps := 1000000) (disch := first | omega | assumption | exact Nat.le_of_ble_eq_true rfl) only [go_sem, ↓mwp_block, simprocAttr, e3, e18, e19])
          refine ⟨i + 1, ws, rfl, by omega, hw8, hwp, ?_, S⟩
          have e1 : (ws.map dfOf).set i (restS kk (dfOf none)) = ws.map dfOf := by
            have h1 : restS kk (dfOf none) = dfOf none := rfl
            rw [h1, ← List.map_set, hset0]
          rw [e1] at hstep
          exact hstep
        · (try simp (maxSteps := 1000000) (disch := first | omega | assumption | exact Nat.le_of_ble_eq_true rfl) only [go_sem, ↓mwp_block, simprocAttr, e19])
          omega
      | some w =>
        obtain ⟨p, f⟩ := w
        obtain ⟨s, Sp⟩ := fileA_open.1 Sp
        obtain ⟨B, e, rfl⟩ := Sp.p1.sl
        have hle := (Sp.p1.own.arr bEnc_len).2.2
        have hsafe := ok.safe f hmem
        have hbl : f.bs.length ≤ used D.fs := hsz
        have S := Sp
        have Sb : St h0 h (cellA b (k8 ks) 46 :: l) := St.dropL (ps := cellA p [Value.slice B f.bs.length e, .int .i64 f.safe] 101 :: ownA bEnc 1 5 (Value.slice B f.bs.length e) f.bs :: cellA d (dcells D.cap zs (-1) false) 99 :: ((ws.take i ++ ws.drop (i + 1)).map slotA)) S
        have Fb := Sb.all
        simp only [all_cons, says_cell] at Fb
        ((try clear F); have F := S.all; (try simp only [all_cons, all_nil, says_cell, and_true] at F))
        (try simp (maxSteps := 1000000) (disch := first | omega | assumption | exact Nat.le_of_ble_eq_true rfl) only [go_sem, ↓mwp_block, simprocAttr, e3, e18, e19, hpi, Nat.mul_one, ptrOf])
        refine draw_eq ?_
        obtain ⟨hkb1, hkb2⟩ := hkb
        (try simp (maxSteps := 1000000) (disch := first | omega | assumption | exact Nat.le_of_ble_eq_true rfl) only [go_sem, ↓mwp_block, simprocAttr, e3, e18, e19, F, Fb, hki, Nat.mul_one])
        have hE : (f.safe : Int) + (if (f.bs.length : Int) - f.safe < (if 0 > kk then 0 else kk) then (f.bs.length : Int) - f.safe else (if 0 > kk then 0 else kk)) = ((f.safe + min (max kk 0).toNat (f.bs.length - f.safe) : Nat) : Int) := by omega
        simp only [hE, Int.toNat_natCast]
        have hN : f.safe + min (max kk 0).toNat (f.bs.length - f.safe) ≤ f.bs.length := by omega
        refine st_store S rfl rfl (Nat.le_of_ble_eq_true rfl) ?_
        clear S F Fb Sb
        intro h S
        (try simp only [splice_cons, splice_nil, List.set_cons_zero, List.set_cons_succ, Nat.zero_add, Nat.reduceAdd, List.cons_append, List.nil_append] at S)
        (try simp (maxSteps := 1000000) (disch := first | omega | assumption | exact Nat.le_of_ble_eq_true rfl) only [go_sem, ↓mwp_block, simprocAttr])
        refine st_store S rfl rfl (Nat.le_of_ble_eq_true rfl) ?_
        clear S
        intro h S
        (try simp only [splice_cons, splice_nil, List.set_cons_zero, List.set_cons_succ, Nat.zero_add, Nat.reduceAdd, List.cons_append, List.nil_append] at S)
        rw [hE] at S
        have S := slot_put (zs := ws) (z := some (p, restF kk f)) hlt (fileA_open.2 ⟨_, (S.p1.cut hN).p1⟩)
        (try simp (maxSteps := 1000000) (disch := first | omega | assumption | exact Nat.le_of_ble_eq_true rfl) only [go_sem, ↓mwp_block, simprocAttr, e19])
        refine hJ _ _ ?_ ?_
        · (try simp (maxSteps := 1000000) (disch := first | omega | assumption | exact Nat.le_of_ble_eq_true rfl) only [go_sem, ↓mwp_block, simprocAttr, e3, e18, e19])
          refine ⟨i + 1, ws.set i (some (p, restF kk f)), rfl, by omega, by simpa using hw8, ?_, ?_, S⟩
          · rw [← hwp, List.map_set]
            have h1 : (ws.set i (some (p, f))).map ptrOf = ws.map ptrOf := by rw [hset0]
            rw [List.map_set] at h1
            exact h1
          · rw [List.map_set]
            exact hstep
        · (try simp (maxSteps := 1000000) (disch := first | omega | assumption | exact Nat.le_of_ble_eq_true rfl) only [go_sem, ↓mwp_block, simprocAttr, e19])
          omega
    · obtain rfl : i = 8 := by omega
      (try simp (maxSteps := 1000000) (disch := first | omega | assumption | exact Nat.le_of_ble_eq_true rfl) only [go_sem, ↓mwp_block, simprocAttr])
      refine hK _ _ (diskA_open.2 ⟨ws, ?_, hw8, ?_⟩)
      · apply List.ext_getElem?
        intro j
        rw [hw j]
        by_cases hj : j < 8
        · rw [if_pos hj]
          rfl
        · rw [if_neg hj, List.getElem?_eq_none (by omega)]
          exact (List.getElem?_eq_none (by simp [restartD]; omega)).symm
      · have S2 : St h0 h (cellA b (k8 ks) 46 :: cellA d (dcells D.cap zs (-1) false) 99 :: (ws.map slotA ++ l)) := S.perm ((List.Perm.cons _ List.perm_middle).trans (List.Perm.swap _ _ _))
        have S3 := S2.tl
        have e1 : dcells D.cap zs (-1) false = dcells D.cap ws (-1) false := by rw [dcells, dcells, hwp]
        rw [e1] at S3
        exact S3
end Go.Proofs.Ytackopkhelochaa.MX
