/- The disk: Append. -/
import Derived.Test.YtackopkhelochaaDk2
import Derived.Test.YtackopkhelochaaIn1
namespace Go.Proofs.Ytackopkhelochaa.MX
open Go Go.Proofs
set_option linter.unusedSimpArgs false
set_option linter.unusedVariables false

def appendD (D : Dk) (n : Int) (bs : List UInt8) : Dk × Int :=
  if askE D n ≠ 0 then (D, askE D n)
  else if (bs.length : Int) > D.cap - used D.fs then (D, 5)
  else if D.fuse = 0 then ({ D with fs := D.fs.set n.toNat (some ⟨((fileOf D n).getD ⟨[], 0⟩).bs ++ bs.take (bs.length / 2), ((fileOf D n).getD ⟨[], 0⟩).safe⟩), lost := true }, 6)
  else ({ D with fs := D.fs.set n.toNat (some ⟨((fileOf D n).getD ⟨[], 0⟩).bs ++ bs, ((fileOf D n).getD ⟨[], 0⟩).safe⟩), fuse := burnF D.fuse }, 0)
theorem ask_in {D : Dk} {n : Int} (ha : askE D n = 0) : D.lost = false ∧ 0 ≤ n ∧ n < 8 := by
  unfold askE at ha
  cases hd : D.lost
  · rw [hd] at ha
    by_cases h : 0 ≤ n ∧ n < 8
    · exact ⟨rfl, h⟩
    · simp [h] at ha
  · rw [hd] at ha
    simp at ha
theorem used_get {fs : List (Option DF)} {k : Nat} (hk : k < fs.length) : szF fs[k] ≤ used fs := by
  have h1 := used_take fs hk
  have h2 := used_take_le fs (k + 1)
  omega
/-- A slot that is taken out, turned, and put back. -/
theorem disk_close {h0 h : Heap} {l : List HP} {d : Nat} {cap fuse : Int} {lost : Bool} {zs : List Slot} {fs : List (Option DF)} {n p : Nat} {f : DF} (hz : zs.map dfOf = fs) (h8 : zs.length = 8) (hn : n < zs.length)
    (S : St h0 h (fileA p f :: cellA d (dcells cap (zs.set n (some (p, f))) fuse lost) 99 :: ((zs.take n ++ zs.drop (n + 1)).map slotA ++ l))) : St h0 h (diskA d ⟨cap, fs.set n (some f), fuse, lost⟩ :: l) := by
  refine diskA_open.2 ⟨zs.set n (some (p, f)), ?_, by simpa using h8, slot_put (z := some (p, f)) hn S⟩
  simp only [List.map_set, hz]
  rfl

theorem St.dropL {h0 h : Heap} {l : List HP} : ∀ {ps : List HP}, St h0 h (ps ++ l) → St h0 h l
  | [], S => S
  | _ :: ps, S => St.dropL (ps := ps) S.tl
theorem dcells_same {cap fuse : Int} {lost : Bool} {zs : List Slot} {n p : Nat} (f f' : DF) : dcells cap (zs.set n (some (p, f))) fuse lost = dcells cap (zs.set n (some (p, f'))) fuse lost := by
  simp [dcells, List.map_set, ptrOf]
set_option maxHeartbeats 4000000 in
theorem Append_ok (n : Int) {h0 h : Heap} {l : List HP} {d : Nat} {D : Dk} {A : Option Addr} {c : Nat} {bs : List UInt8} (S : St h0 h (diskA d D :: l)) (ok : D.ok) (ha : ∀ h', St h0 h' l → Arr bEnc 1 h' A bs) (hc : bs.length ≤ c) (hb : bs.length < 9223372036854775808) :
    CallsH Try.prog 29 [.pointer (some ⟨d, 0, none⟩), .int .i64 n, .slice A bs.length c] h fun v h' => v = .int .i64 (appendD D n bs).2 ∧ St h0 h' (diskA d (appendD D n bs).1 :: l) := by
  (refine enterK c_disk_Disk_Append (Nat.le_of_ble_eq_true rfl) fun K hK => ?_; (try simp (maxSteps := 1000000) (disch := first | omega | assumption | exact Nat.le_of_ble_eq_true rfl) only [go_sem, ↓mwp_block, simprocAttr, ir_disk_Disk_Append]))
  refine call_intro (ask_ok n S) ?_
  rintro _ _ ⟨rfl, rfl⟩
  by_cases hae : askE D n = 0
  · obtain ⟨hlo, hn1, hn2⟩ := ask_in hae
    (try simp (maxSteps := 1000000) (disch := first | omega | assumption | exact Nat.le_of_ble_eq_true rfl) only [go_sem, ↓mwp_block, simprocAttr, hae])
    refine call_intro (Room_ok S ok) ?_
    rintro _ _ ⟨rfl, rfl⟩
    by_cases hr : (bs.length : Int) > D.cap - used D.fs
    · (try simp (maxSteps := 1000000) (disch := first | omega | assumption | exact Nat.le_of_ble_eq_true rfl) only [go_sem, ↓mwp_block, simprocAttr])
      refine hK _ _ ?_
      simp only [appendD, hae, ne_eq, not_true_eq_false, if_false, if_pos hr]
      exact ⟨trivial, S⟩
    · obtain ⟨zs, hz, h8, S⟩ := diskA_open.1 S
      have hlt : n.toNat < zs.length := by omega
      have hc0 := dcells_at (cap := D.cap) (fuse := D.fuse) (lost := D.lost) hlt
      have hf := fileOf_at hz ⟨hn1, hn2⟩ hlt
      have hfl : n.toNat < D.fs.length := by have := ok.len; omega
      have hsz := used_get hfl
      have hro := ok.room
      have hcp := ok.cap
      have hfs : D.fs[n.toNat] = dfOf zs[n.toNat] := by
        have : D.fs[n.toNat]? = (zs.map dfOf)[n.toNat]? := by rw [hz]
        rw [List.getElem?_map, List.getElem?_eq_getElem hfl, List.getElem?_eq_getElem hlt] at this
        exact Option.some.inj this
      rw [hfs] at hsz
      have S := slot_pick hlt S
      have hset : ∀ z, zs.set n.toNat zs[n.toNat] = zs := fun _ => List.set_getElem_self hlt
      have hset0 : zs.set n.toNat zs[n.toNat] = zs := List.set_getElem_self hlt
      generalize hzz : zs[n.toNat] = z at hc0 hf S hsz hset0
      have hq : ((bs.length : Int)).tdiv 2 = ((bs.length / 2 : Nat) : Int) := by rw [Int.tdiv_eq_ediv_of_nonneg (by omega)]; omega
      ((try clear F); have F := S.all; (try simp only [all_cons, all_nil, says_cell, and_true] at F))
      cases z with
      | none =>
        (try simp (maxSteps := 1000000) (disch := first | omega | assumption | exact Nat.le_of_ble_eq_true rfl) only [go_sem, ↓mwp_block, simprocAttr, F, hc0, Nat.mul_one, ptrOf])
        (refine st_alloc S ?_; clear S; intro p h S; (try simp only [splice_cons, splice_nil, List.set_cons_zero, List.set_cons_succ, Nat.zero_add, Nat.reduceAdd, List.cons_append, List.nil_append] at S); ((try clear F); have F := S.all; (try simp only [all_cons, all_nil, says_cell, and_true] at F)))
        (try simp (maxSteps := 1000000) (disch := first | omega | assumption | exact Nat.le_of_ble_eq_true rfl) only [go_sem, ↓mwp_block, simprocAttr])
        refine st_store S.p2 rfl rfl (by rw [dcells_len h8]; omega) ?_
        clear F
        intro h S2
        have hst := dcells_setP (cap := D.cap) (fuse := D.fuse) (lost := D.lost) hlt (some (p, ⟨[], 0⟩))
        simp only [Nat.mul_one] at S2
        rw [show [Value.pointer (some ⟨p, 0, none⟩)] = [ptrOf (some (p, ⟨[], 0⟩))] from rfl, hst] at S2
        obtain ⟨f, hfe⟩ : ∃ f : DF, f = ⟨[], 0⟩ := ⟨_, rfl⟩
        obtain ⟨s, S⟩ : ∃ s, St h0 h (cellA p [s, .int .i64 f.safe] 101 :: ownA bEnc 1 5 s f.bs :: cellA d (dcells D.cap (zs.set n.toNat (some (p, f))) D.fuse D.lost) 99 :: ((zs.take n.toNat ++ zs.drop (n.toNat + 1)).map slotA ++ l)) := by
          subst hfe
          exact ⟨_, S2.p2.tl.p1.nilS.p1⟩
        have hgf : (fileOf D n).getD ⟨[], 0⟩ = f := by rw [hf, hfe]; rfl
        have hbl : f.bs.length ≤ 1048576 := by rw [hfe]; simp
        have hc1 := dcells_at (cap := D.cap) (fuse := D.fuse) (lost := D.lost) (zs := zs.set n.toNat (some (p, f))) (n := n.toNat) (by simpa using hlt)
        rw [List.getElem_set_self] at hc1
        clear S2 hfe hst hf hsz hc0
        ((try clear F); have F := S.all; (try simp only [all_cons, all_nil, says_cell, and_true] at F))
        (try simp (maxSteps := 1000000) (disch := first | omega | assumption | exact Nat.le_of_ble_eq_true rfl) only [go_sem, ↓mwp_block, simprocAttr, F, hc1, Nat.mul_one, ptrOf])
        obtain ⟨B, e, rfl⟩ := S.p1.sl
        (try simp (maxSteps := 1000000) (disch := first | omega | assumption | exact Nat.le_of_ble_eq_true rfl) only [go_sem, ↓mwp_block, simprocAttr, hc1, Nat.mul_one, ptrOf])
        refine call_intro (burn_ok S.p2 (by simpa using h8) ok.fuse) ?_
        rintro _ h (⟨hz0, rfl, S⟩ | ⟨hz0, rfl, S⟩)
        · (try simp (maxSteps := 1000000) (disch := first | omega | assumption | exact Nat.le_of_ble_eq_true rfl) only [go_sem, ↓mwp_block, simprocAttr])
          have rx : ∀ off K t, readT (fun h' => St h0 h' _) (fun h' => rd1 h' (.pointer (some ⟨p, off, none⟩))) K t = bindT ([Value.slice B f.bs.length e, Value.int .i64 f.safe][off]?) K ⟨⟩ := fun off K t => reads_of S.p2.tl (fun h' s => st_rd1 s.p1)
          refine draw_st S.p2.tl ?_
          (try simp (maxSteps := 1000000) (disch := first | omega | assumption | exact Nat.le_of_ble_eq_true rfl) only [go_sem, ↓mwp_block, simprocAttr, rx, hq])
          refine st_append (bytes := 1) (ys := bs.take (bs.length / 2)) bEnc_len (by omega) bEnc_plain rfl S.p2 (by simp [srcLen]; omega) (src_arr bEnc_len (arr_take (ha _ S.tl.tl.tl.dropL) _) (by simp; omega)) (by simp; omega) (by simp; omega) ?_
          clear S F
          intro v' h S
          obtain ⟨B2, e2, rfl⟩ := S.sl
          refine chk_st S.tl ?_
          (try simp (maxSteps := 1000000) (disch := first | omega | assumption | exact Nat.le_of_ble_eq_true rfl) only [go_sem, ↓mwp_block, simprocAttr])
          refine st_store S.p2 rfl rfl (Nat.le_of_ble_eq_true rfl) ?_
          clear S
          intro h S
          (try simp only [splice_cons, splice_nil, List.set_cons_zero, List.set_cons_succ, Nat.zero_add, Nat.reduceAdd, List.cons_append, List.nil_append] at S)
          (try simp (maxSteps := 1000000) (disch := first | omega | assumption | exact Nat.le_of_ble_eq_true rfl) only [go_sem, ↓mwp_block, simprocAttr])
          refine hK _ _ ?_
          simp only [appendD, hae, ne_eq, not_true_eq_false, if_false, if_neg hr, if_pos hz0, hgf]
          refine ⟨trivial, disk_close hz h8 hlt (p := p) ?_⟩
          rw [dcells_same _ f]
          exact fileA_open.2 ⟨_, S⟩
        · ((try clear F); have F := S.all; (try simp only [all_cons, all_nil, says_cell, and_true] at F))
          (try simp (maxSteps := 1000000) (disch := first | omega | assumption | exact Nat.le_of_ble_eq_true rfl) only [go_sem, ↓mwp_block, simprocAttr, F])
          refine st_append (bytes := 1) (ys := bs) bEnc_len (by omega) bEnc_plain rfl S.p2 rfl (src_arr bEnc_len (ha _ S.tl.tl.tl.dropL) rfl) (by omega) (by omega) ?_
          clear S F
          intro v' h S
          obtain ⟨B2, e2, rfl⟩ := S.sl
          (try simp (maxSteps := 1000000) (disch := first | omega | assumption | exact Nat.le_of_ble_eq_true rfl) only [go_sem, ↓mwp_block, simprocAttr])
          refine st_store S.p2 rfl rfl (Nat.le_of_ble_eq_true rfl) ?_
          clear S
          intro h S
          (try simp only [splice_cons, splice_nil, List.set_cons_zero, List.set_cons_succ, Nat.zero_add, Nat.reduceAdd, List.cons_append, List.nil_append] at S)
          (try simp (maxSteps := 1000000) (disch := first | omega | assumption | exact Nat.le_of_ble_eq_true rfl) only [go_sem, ↓mwp_block, simprocAttr])
          refine hK _ _ ?_
          simp only [appendD, hae, ne_eq, not_true_eq_false, if_false, if_neg hr, if_neg hz0, hgf]
          refine ⟨trivial, disk_close hz h8 hlt (p := p) ?_⟩
          rw [dcells_same _ f]
          exact fileA_open.2 ⟨_, S⟩
      | some z =>
        obtain ⟨p, f⟩ := z
        (try simp (maxSteps := 1000000) (disch := first | omega | assumption | exact Nat.le_of_ble_eq_true rfl) only [go_sem, ↓mwp_block, simprocAttr, F, hc0, Nat.mul_one, ptrOf])
        have hgf : (fileOf D n).getD ⟨[], 0⟩ = f := by rw [hf]; rfl
        have hbl : f.bs.length ≤ 1048576 := by
          have : szF (dfOf (some (p, f))) = f.bs.length := rfl
          omega
        obtain ⟨s, S⟩ := fileA_open.1 S
        have e0 : dcells D.cap zs D.fuse D.lost = dcells D.cap (zs.set n.toNat (some (p, f))) D.fuse D.lost := by rw [hset0]
        rw [e0] at S
        have hc1 := dcells_at (cap := D.cap) (fuse := D.fuse) (lost := D.lost) (zs := zs.set n.toNat (some (p, f))) (n := n.toNat) (by simpa using hlt)
        rw [List.getElem_set_self] at hc1
        obtain ⟨B, e, rfl⟩ := S.p1.sl
        (try simp (maxSteps := 1000000) (disch := first | omega | assumption | exact Nat.le_of_ble_eq_true rfl) only [go_sem, ↓mwp_block, simprocAttr, hc1, Nat.mul_one, ptrOf])
        refine call_intro (burn_ok S.p2 (by simpa using h8) ok.fuse) ?_
        rintro _ h (⟨hz0, rfl, S⟩ | ⟨hz0, rfl, S⟩)
        · (try simp (maxSteps := 1000000) (disch := first | omega | assumption | exact Nat.le_of_ble_eq_true rfl) only [go_sem, ↓mwp_block, simprocAttr])
          have rx : ∀ off K t, readT (fun h' => St h0 h' _) (fun h' => rd1 h' (.pointer (some ⟨p, off, none⟩))) K t = bindT ([Value.slice B f.bs.length e, Value.int .i64 f.safe][off]?) K ⟨⟩ := fun off K t => reads_of S.p2.tl (fun h' s => st_rd1 s.p1)
          refine draw_st S.p2.tl ?_
          (try simp (maxSteps := 1000000) (disch := first | omega | assumption | exact Nat.le_of_ble_eq_true rfl) only [go_sem, ↓mwp_block, simprocAttr, rx, hq])
          refine st_append (bytes := 1) (ys := bs.take (bs.length / 2)) bEnc_len (by omega) bEnc_plain rfl S.p2 (by simp [srcLen]; omega) (src_arr bEnc_len (arr_take (ha _ S.tl.tl.tl.dropL) _) (by simp; omega)) (by simp; omega) (by simp; omega) ?_
          clear S F
          intro v' h S
          obtain ⟨B2, e2, rfl⟩ := S.sl
          refine chk_st S.tl ?_
          (try simp (maxSteps := 1000000) (disch := first | omega | assumption | exact Nat.le_of_ble_eq_true rfl) only [go_sem, ↓mwp_block, simprocAttr])
          refine st_store S.p2 rfl rfl (Nat.le_of_ble_eq_true rfl) ?_
          clear S
          intro h S
          (try simp only [splice_cons, splice_nil, List.set_cons_zero, List.set_cons_succ, Nat.zero_add, Nat.reduceAdd, List.cons_append, List.nil_append] at S)
          (try simp (maxSteps := 1000000) (disch := first | omega | assumption | exact Nat.le_of_ble_eq_true rfl) only [go_sem, ↓mwp_block, simprocAttr])
          refine hK _ _ ?_
          simp only [appendD, hae, ne_eq, not_true_eq_false, if_false, if_neg hr, if_pos hz0, hgf]
          refine ⟨trivial, disk_close hz h8 hlt (p := p) ?_⟩
          rw [dcells_same _ f]
          exact fileA_open.2 ⟨_, S⟩
        · ((try clear F); have F := S.all; (try simp only [all_cons, all_nil, says_cell, and_true] at F))
          (try simp (maxSteps := 1000000) (disch := first | omega | assumption | exact Nat.le_of_ble_eq_true rfl) only [go_sem, ↓mwp_block, simprocAttr, F])
          refine st_append (bytes := 1) (ys := bs) bEnc_len (by omega) bEnc_plain rfl S.p2 rfl (src_arr bEnc_len (ha _ S.tl.tl.tl.dropL) rfl) (by omega) (by omega) ?_
          clear S F
          intro v' h S
          obtain ⟨B2, e2, rfl⟩ := S.sl
          (try simp (maxSteps := 1000000) (disch := first | omega | assumption | exact Nat.le_of_ble_eq_true rfl) only [go_sem, ↓mwp_block, simprocAttr])
          refine st_store S.p2 rfl rfl (Nat.le_of_ble_eq_true rfl) ?_
          clear S
          intro h S
          (try simp only [splice_cons, splice_nil, List.set_cons_zero, List.set_cons_succ, Nat.zero_add, Nat.reduceAdd, List.cons_append, List.nil_append] at S)
          (try simp (maxSteps := 1000000) (disch := first | omega | assumption | exact Nat.le_of_ble_eq_true rfl) only [go_sem, ↓mwp_block, simprocAttr])
          refine hK _ _ ?_
          simp only [appendD, hae, ne_eq, not_true_eq_false, if_false, if_neg hr, if_neg hz0, hgf]
          refine ⟨trivial, disk_close hz h8 hlt (p := p) ?_⟩
          rw [dcells_same _ f]
          exact fileA_open.2 ⟨_, S⟩
  · (try simp (maxSteps := 1000000) (disch := first | omega | assumption | exact Nat.le_of_ble_eq_true rfl) only [go_sem, ↓mwp_block, simprocAttr])
    refine hK _ _ ?_
    simp only [appendD, ne_eq, hae, not_false_eq_true, if_true]
    exact ⟨trivial, S⟩
end Go.Proofs.Ytackopkhelochaa.MX
