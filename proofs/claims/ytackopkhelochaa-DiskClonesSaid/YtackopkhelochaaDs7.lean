/- The disk's Clone. -/
import Derived.Test.YtackopkhelochaaDs6
namespace Go.Proofs.Ytackopkhelochaa.MX
open Go Go.Proofs
set_option linter.unusedSimpArgs false
set_option linter.unusedVariables false

/-- One more thing behind a row. -/
theorem row_add {α : Type} {F : α → HP} {h0 h : Heap} {l : List HP} (R : List HP) {B : HP} {us : List α} {z : α} (S : St h0 h (F z :: (R ++ (B :: (us.map F ++ l))))) : St h0 h (R ++ (B :: ((us ++ [z]).map F ++ l))) := by
  refine S.perm ?_
  rw [List.map_append, List.append_assoc]
  exact List.perm_middle.symm.trans (List.Perm.append_left R ((List.Perm.swap _ _ _).trans (List.Perm.cons B List.perm_middle.symm)))
set_option maxHeartbeats 4000000 in
theorem CloneD_ok {h0 h : Heap} {l : List HP} {d : Nat} {D : Dk} (S : St h0 h (diskA d D :: l)) (ok : D.ok) :
    CallsH Try.prog 49 [.pointer (some ⟨d, 0, none⟩)] h fun v h' => ∃ x, v = .pointer (some ⟨x, 0, none⟩) ∧ St h0 h' (diskA x D :: diskA d D :: l) := by
  obtain ⟨zs, hz, h8, S⟩ := diskA_open.1 S
  have hdl := dcells_len (cap := D.cap) (fuse := D.fuse) (lost := D.lost) h8
  have hps : ((dcells D.cap zs D.fuse D.lost).drop 1).take 8 = zs.map ptrOf := by
    rw [dcells, List.drop_succ_cons, List.drop_zero, List.take_append_of_le_length (by simp [h8]), List.take_of_length_le (by simp [h8])]
  have hall : (dcells D.cap zs D.fuse D.lost).take 11 = dcells D.cap zs D.fuse D.lost := List.take_of_length_le (by omega)
  have hpl : plainCells (dcells D.cap zs D.fuse D.lost) = true := by
    have : ∀ (zs : List Slot) (cs : List Value), plainCells cs = true → plainCells (zs.map ptrOf ++ cs) = true := by
      intro zs cs hc
      induction zs with
      | nil => exact hc
      | cons z zs ih => cases z <;> exact ih
    exact this zs _ rfl
  (refine enterK c_disk_Disk_Clone (Nat.le_of_ble_eq_true rfl) fun K hK => ?_; (try simp (maxSteps := 1000000) (disch := first | omega | assumption | exact Nat.le_of_ble_eq_true rfl) only [go_sem, ↓mwp_block, simprocAttr, ir_disk_Disk_Clone]))
  ((try clear F); have F := S.all; (try simp only [all_cons, all_nil, says_cell, and_true] at F))
  (try simp (maxSteps := 1000000) (disch := first | omega | assumption | exact Nat.le_of_ble_eq_true rfl) only [go_sem, ↓mwp_block, simprocAttr, F, hall])
  (refine st_alloc S ?_; clear S; intro x h S; (try simp only [splice_cons, splice_nil, List.set_cons_zero, List.set_cons_succ, Nat.zero_add, Nat.reduceAdd, List.cons_append, List.nil_append] at S); ((try clear F); have F := S.all; (try simp only [all_cons, all_nil, says_cell, and_true] at F)))
  (try simp (maxSteps := 1000000) (disch := first | omega | assumption | exact Nat.le_of_ble_eq_true rfl) only [go_sem, ↓mwp_block, simprocAttr])
  refine st_store S hdl hpl (by simp) ?_
  clear S F
  intro h S
  have hsp2 : splice [.int .i64 0, .pointer none, .pointer none, .pointer none, .pointer none, .pointer none, .pointer none, .pointer none, .pointer none, .int .i64 0, .bool false] 0 (dcells D.cap zs D.fuse D.lost) = dcells D.cap zs D.fuse D.lost := by
    match zs, h8 with
    | [z0, z1, z2, z3, z4, z5, z6, z7], _ => rfl
  rw [hsp2] at S
  have S := S.p1
  ((try clear F); have F := S.all; (try simp only [all_cons, all_nil, says_cell, and_true] at F))
  (try simp (maxSteps := 1000000) (disch := first | omega | assumption | exact Nat.le_of_ble_eq_true rfl) only [go_sem, ↓mwp_block, simprocAttr, F, hps])
  have S : St h0 h (cellA d (dcells D.cap zs D.fuse D.lost) 99 :: (zs.map slotA ++ (cellA x (dcells D.cap zs D.fuse D.lost) 99 :: l))) := S.perm (List.Perm.cons _ List.perm_middle.symm)
  refine loop_intro (fun ρ h' => ρ 3 = .pointer (some ⟨x, 0, none⟩) ∧ ρ 14 = .agg (zs.map ptrOf).toArray ∧ ∃ (i : Nat) (us : List Slot), ρ 15 = .int .i64 i ∧ i ≤ 8 ∧ us.length = i ∧ us.map dfOf = D.fs.take i ∧
    St h0 h' (cellA d (dcells D.cap zs D.fuse D.lost) 99 :: (zs.map slotA ++ (cellA x (dcells D.cap (us ++ zs.drop i) D.fuse D.lost) 99 :: (us.map slotA ++ l))))) (fun ρ _ => 8 - (iv (ρ 15)).toNat) ?_ ?_
  · (try simp (maxSteps := 1000000) (disch := first | omega | assumption | exact Nat.le_of_ble_eq_true rfl) only [go_sem, ↓mwp_block, simprocAttr])
    exact ⟨0, [], rfl, by omega, rfl, by simp, S⟩
  · clear S F
    rintro ρ h J hJ ⟨e3, e14, i, us, e15, hi, hul, huf, S⟩
    (try simp (maxSteps := 1000000) (disch := first | omega | assumption | exact Nat.le_of_ble_eq_true rfl) only [go_sem, ↓mwp_block, simprocAttr, e15])
    refine cond_dec (fun hg => ?_) (fun hg => ?_)
    · have hi8 : i < 8 := by omega
      have hlt : i < zs.length := by omega
      have hpi : (zs.map ptrOf)[i]? = some (ptrOf zs[i]) := by rw [List.getElem?_map, List.getElem?_eq_getElem hlt]; rfl
      have hfi : D.fs[i]'(by have := ok.len; omega) = dfOf zs[i] := by
        have : (zs.map dfOf)[i]? = some (dfOf zs[i]) := by rw [List.getElem?_map, List.getElem?_eq_getElem hlt]; rfl
        rw [hz, List.getElem?_eq_getElem (by have := ok.len; omega)] at this
        exact Option.some.inj this
      have hf8 := ok.len
      have htk : D.fs.take (i + 1) = D.fs.take i ++ [dfOf zs[i]] := by
        rw [List.take_succ_eq_append_getElem (by omega), hfi]
      have hdr : zs.drop i = zs[i] :: zs.drop (i + 1) := List.drop_eq_getElem_cons hlt
      have hsz := used_get (fs := D.fs) (k := i) (by omega)
      rw [hfi] at hsz
      have hro := ok.room
      have hcp := ok.cap
      have Sp := slot_pick hlt S
      rw [hdr] at S Sp
      have hset0 : zs.set i zs[i] = zs := List.set_getElem_self hlt
      generalize zs[i] = z at hpi htk S Sp hset0 hsz
      cases z with
      | none =>
        (try simp (maxSteps := 1000000) (disch := first | omega | assumption | exact Nat.le_of_ble_eq_true rfl) only [go_sem, ↓mwp_block, simprocAttr, e14, e15, hpi, Nat.mul_one, ptrOf])
        refine hJ _ _ ?_ ?_
        · (try simp (maxSteps := 1000000) (disch := first | omega | assumption | exact Nat.le_of_ble_eq_true rfl) only [go_sem, ↓mwp_block, simprocAttr, e3, e14, e15])
          refine ⟨i + 1, us ++ [none], rfl, by omega, by simp [hul], ?_, ?_⟩
          · rw [List.map_append, huf, htk]
            rfl
          · rw [show us ++ none :: zs.drop (i + 1) = us ++ [none] ++ zs.drop (i + 1) by simp] at S
            exact row_add (F := slotA) (z := none) (cellA d (dcells D.cap zs D.fuse D.lost) 99 :: zs.map slotA) (St.emp.2 S)
        · (try simp (maxSteps := 1000000) (disch := first | omega | assumption | exact Nat.le_of_ble_eq_true rfl) only [go_sem, ↓mwp_block, simprocAttr, e15])
          omega
      | some z =>
        obtain ⟨p, f⟩ := z
        obtain ⟨s, Sp⟩ := fileA_open.1 Sp
        obtain ⟨B, e, rfl⟩ := Sp.p1.sl
        have hbl : f.bs.length ≤ used D.fs := hsz
        (try simp (maxSteps := 1000000) (disch := first | omega | assumption | exact Nat.le_of_ble_eq_true rfl) only [go_sem, ↓mwp_block, simprocAttr, e3, e14, e15, hpi, Nat.mul_one, ptrOf])
        refine draw_st Sp ?_
        have rx : ∀ off K t, readT (fun h' => St h0 h' _) (fun h' => rd1 h' (.pointer (some ⟨p, off, none⟩))) K t = bindT ([.slice B f.bs.length e, .int .i64 f.safe][off]?) K ⟨⟩ := fun off K t => reads_of Sp (fun h' s => st_rd1 s)
        (try simp (maxSteps := 1000000) (disch := first | omega | assumption | exact Nat.le_of_ble_eq_true rfl) only [go_sem, ↓mwp_block, simprocAttr, e3, e15, rx])
        refine call_intro (CloneB_ok Sp (Sp.p1.arr bEnc_len) rfl (ownNilA Sp.p1.own) (by omega)) ?_
        rintro v h ⟨S, _⟩
        obtain ⟨B2, e2, rfl⟩ := S.sl
        refine chk_st S.tl ?_
        (try simp (maxSteps := 1000000) (disch := first | omega | assumption | exact Nat.le_of_ble_eq_true rfl) only [go_sem, ↓mwp_block, simprocAttr])
        (refine st_alloc S ?_; clear S; intro q h S; (try simp only [splice_cons, splice_nil, List.set_cons_zero, List.set_cons_succ, Nat.zero_add, Nat.reduceAdd, List.cons_append, List.nil_append] at S); ((try clear F); have F := S.all; (try simp only [all_cons, all_nil, says_cell, and_true] at F)))
        refine chk_st S.d1.tl ?_
        (try simp (maxSteps := 1000000) (disch := first | omega | assumption | exact Nat.le_of_ble_eq_true rfl) only [go_sem, ↓mwp_block, simprocAttr, e3, e15])
        have S := row_add (F := slotA) (z := some (q, f)) (cellA p [.slice B f.bs.length e, .int .i64 f.safe] 101 :: ownA bEnc 1 5 (.slice B f.bs.length e) f.bs :: cellA d (dcells D.cap zs D.fuse D.lost) 99 :: (zs.take i ++ zs.drop (i + 1)).map slotA) (fileA_open.2 ⟨_, S⟩)
        have S := S.perm List.perm_middle
        have hlen : (us ++ some (p, f) :: zs.drop (i + 1)).length = 8 := by simp; omega
        refine st_store S rfl rfl (by rw [dcells_len hlen]; omega) ?_
        clear S F
        intro h S
        have hst := dcells_setP (cap := D.cap) (fuse := D.fuse) (lost := D.lost) (zs := us ++ some (p, f) :: zs.drop (i + 1)) (n := i) (by omega) (some (q, f))
        rw [show (us ++ some (p, f) :: zs.drop (i + 1)).set i (some (q, f)) = us ++ [some (q, f)] ++ zs.drop (i + 1) by rw [List.set_append_right _ _ (by omega), hul]; simp] at hst
        simp only [ptrOf] at hst
        rw [Nat.mul_one, hst] at S
        have S := S.perm (List.perm_middle.symm)
        have S := slot_put (zs := zs) (z := some (p, f)) hlt (fileA_open.2 ⟨_, S⟩)
        rw [hset0] at S
        (try simp (maxSteps := 1000000) (disch := first | omega | assumption | exact Nat.le_of_ble_eq_true rfl) only [go_sem, ↓mwp_block, simprocAttr, e15])
        refine hJ _ _ ?_ ?_
        · (try simp (maxSteps := 1000000) (disch := first | omega | assumption | exact Nat.le_of_ble_eq_true rfl) only [go_sem, ↓mwp_block, simprocAttr, e3, e14, e15])
          refine ⟨i + 1, us ++ [some (q, f)], rfl, by omega, by simp [hul], ?_, S⟩
          rw [List.map_append, huf, htk]
          rfl
        · (try simp (maxSteps := 1000000) (disch := first | omega | assumption | exact Nat.le_of_ble_eq_true rfl) only [go_sem, ↓mwp_block, simprocAttr, e15])
          omega
    · obtain rfl : i = 8 := by omega
      (try simp (maxSteps := 1000000) (disch := first | omega | assumption | exact Nat.le_of_ble_eq_true rfl) only [go_sem, ↓mwp_block, simprocAttr, e3])
      have e1 : us.map dfOf = D.fs := by rw [huf, List.take_of_length_le (by have := ok.len; omega)]
      rw [show zs.drop 8 = [] from List.drop_eq_nil_of_le (by omega), List.append_nil] at S
      refine hK _ _ ⟨x, rfl, diskA_open.2 ⟨us, e1, hul, ?_⟩⟩
      have S : St h0 h (diskA d D :: ((cellA x (dcells D.cap us D.fuse D.lost) 99 :: us.map slotA) ++ l)) := diskA_open.2 ⟨zs, hz, h8, S⟩
      exact S.perm List.perm_middle.symm
end Go.Proofs.Ytackopkhelochaa.MX
