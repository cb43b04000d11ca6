/- Texts in one file: Dk2, Dk3, Dk5. -/
import Derived.Test.YtnjjdpeglkiifaaK15
import Derived.Test.YtnjjdpeglkiifaaK12
import Derived.Test.YtnjjdpeglkiifaaK13

/- The disk: the methods that turn it. -/
namespace Go.Proofs.Ytnjjdpeglkiifaa.MX
open Go Go.Proofs
set_option linter.unusedSimpArgs false
set_option linter.unusedVariables false

theorem New_ok (c : Int) {h0 h : Heap} {l : List HP} (S : St h0 h l) :
    CallsH Try.prog 35 [.int .i64 c] h fun v h' => (0 ≤ c ∧ c ≤ 1048576 ∧ ∃ d, v = .tuple #[.pointer (some ⟨d, 0, none⟩), .int .i64 0] ∧ St h0 h' (diskA d ⟨c, List.replicate 8 none, -1, false⟩ :: l)) ∨ (¬ (0 ≤ c ∧ c ≤ 1048576) ∧ v = .tuple #[.pointer none, .int .i64 1] ∧ St h0 h' l) := by
  by_cases h0 : 0 ≤ c
  · by_cases h1 : c ≤ 1048576
    · (refine enterK c_disk_New (Nat.le_of_ble_eq_true rfl) fun K hK => ?_; (try simp (maxSteps := 1000000) (disch := first | omega | assumption | exact Nat.le_of_ble_eq_true rfl) only [go_sem, ↓mwp_block, simprocAttr, ir_disk_New]))
      (refine st_alloc S ?_; clear S; intro d h S; (try simp only [splice_cons, splice_nil, List.set_cons_zero, List.set_cons_succ, Nat.zero_add, Nat.reduceAdd, List.cons_append, List.nil_append] at S); ((try clear F); have F := S.all; (try simp only [all_cons, all_nil, says_cell, and_true] at F)))
      (try simp (maxSteps := 1000000) (disch := first | omega | assumption | exact Nat.le_of_ble_eq_true rfl) only [go_sem, ↓mwp_block, simprocAttr])
      refine hK _ _ (.inl ⟨h0, h1, d, rfl, diskA_open.2 ⟨List.replicate 8 none, rfl, rfl, ?_⟩⟩)
      have S := St.emp.2 (St.emp.2 (St.emp.2 (St.emp.2 (St.emp.2 (St.emp.2 (St.emp.2 (St.emp.2 S)))))))
      exact S.p8
    · (refine enterK c_disk_New (Nat.le_of_ble_eq_true rfl) fun K hK => ?_; (try simp (maxSteps := 1000000) (disch := first | omega | assumption | exact Nat.le_of_ble_eq_true rfl) only [go_sem, ↓mwp_block, simprocAttr, ir_disk_New]))
      exact hK _ _ (.inr ⟨fun h => h1 h.2, rfl, S⟩)
  · (refine enterK c_disk_New (Nat.le_of_ble_eq_true rfl) fun K hK => ?_; (try simp (maxSteps := 1000000) (disch := first | omega | assumption | exact Nat.le_of_ble_eq_true rfl) only [go_sem, ↓mwp_block, simprocAttr, ir_disk_New]))
    exact hK _ _ (.inr ⟨fun h => h0 h.1, rfl, S⟩)

/-- A change is counted. -/
def burnF (fuse : Int) : Int := if fuse > 0 then fuse - 1 else fuse
theorem burn_ok {h0 h : Heap} {l : List HP} {d : Nat} {cap fuse : Int} {lost : Bool} {zs : List Slot} (S : St h0 h (cellA d (dcells cap zs fuse lost) 113 :: l)) (h8 : zs.length = 8) (hf : -1 ≤ fuse ∧ fuse < 9223372036854775808) :
    CallsH Try.prog 87 [.pointer (some ⟨d, 0, none⟩)] h fun v h' => (fuse = 0 ∧ v = .bool false ∧ St h0 h' (cellA d (dcells cap zs fuse true) 113 :: l)) ∨ (fuse ≠ 0 ∧ v = .bool true ∧ St h0 h' (cellA d (dcells cap zs (burnF fuse) lost) 113 :: l)) := by
  have hfu := dcells_fuse (cap := cap) (fuse := fuse) (lost := lost) h8
  (refine enterK c_disk_Disk_burn (Nat.le_of_ble_eq_true rfl) fun K hK => ?_; (try simp (maxSteps := 1000000) (disch := first | omega | assumption | exact Nat.le_of_ble_eq_true rfl) only [go_sem, ↓mwp_block, simprocAttr, ir_disk_Disk_burn]))
  ((try clear F); have F := S.all; (try simp only [all_cons, all_nil, says_cell, and_true] at F))
  (try simp (maxSteps := 1000000) (disch := first | omega | assumption | exact Nat.le_of_ble_eq_true rfl) only [go_sem, ↓mwp_block, simprocAttr, F, hfu])
  by_cases hz : fuse = 0
  · (try simp (maxSteps := 1000000) (disch := first | omega | assumption | exact Nat.le_of_ble_eq_true rfl) only [go_sem, ↓mwp_block, simprocAttr])
    refine st_store S rfl rfl (by rw [dcells_len h8]; omega) ?_
    clear S F
    intro h S
    rw [dcells_setL h8] at S
    (try simp (maxSteps := 1000000) (disch := first | omega | assumption | exact Nat.le_of_ble_eq_true rfl) only [go_sem, ↓mwp_block, simprocAttr])
    exact hK _ _ (.inl ⟨hz, rfl, S⟩)
  · (try simp (maxSteps := 1000000) (disch := first | omega | assumption | exact Nat.le_of_ble_eq_true rfl) only [go_sem, ↓mwp_block, simprocAttr, F, hfu])
    by_cases hp : 0 < fuse
    · (try simp (maxSteps := 1000000) (disch := first | omega | assumption | exact Nat.le_of_ble_eq_true rfl) only [go_sem, ↓mwp_block, simprocAttr, F, hfu])
      refine st_store S rfl rfl (by rw [dcells_len h8]; omega) ?_
      clear S F
      intro h S
      rw [dcells_setF h8] at S
      (try simp (maxSteps := 1000000) (disch := first | omega | assumption | exact Nat.le_of_ble_eq_true rfl) only [go_sem, ↓mwp_block, simprocAttr])
      refine hK _ _ (.inr ⟨hz, rfl, ?_⟩)
      rw [burnF, if_pos hp]
      exact S
    · (try simp (maxSteps := 1000000) (disch := first | omega | assumption | exact Nat.le_of_ble_eq_true rfl) only [go_sem, ↓mwp_block, simprocAttr, F, hfu])
      refine hK _ _ (.inr ⟨hz, rfl, ?_⟩)
      rw [burnF, if_neg hp]
      exact S
theorem Fuse_nil (n : Int) (h : Heap) : CallsH Try.prog 55 [.pointer none, .int .i64 n] h fun v h' => v = .int .i64 1 ∧ h' = h := by
  (refine enterK c_disk_Disk_Fuse (Nat.le_of_ble_eq_true rfl) fun K hK => ?_; (try simp (maxSteps := 1000000) (disch := first | omega | assumption | exact Nat.le_of_ble_eq_true rfl) only [go_sem, ↓mwp_block, simprocAttr, ir_disk_Disk_Fuse]))
  exact hK _ _ ⟨rfl, rfl⟩
def fuseD (D : Dk) (n : Int) : Dk × Int := if D.lost then (D, 6) else if n < 0 then (D, 1) else ({ D with fuse := n }, 0)
theorem Fuse_ok (n : Int) {h0 h : Heap} {l : List HP} {d : Nat} {D : Dk} (S : St h0 h (diskA d D :: l)) :
    CallsH Try.prog 55 [.pointer (some ⟨d, 0, none⟩), .int .i64 n] h fun v h' => v = .int .i64 (fuseD D n).2 ∧ St h0 h' (diskA d (fuseD D n).1 :: l) := by
  obtain ⟨zs, hz, h8, S⟩ := diskA_open.1 S
  have hlo := dcells_lost (cap := D.cap) (fuse := D.fuse) (lost := D.lost) h8
  obtain ⟨cap, fs, fuse, lost⟩ := D
  simp only at hz S hlo
  (refine enterK c_disk_Disk_Fuse (Nat.le_of_ble_eq_true rfl) fun K hK => ?_; (try simp (maxSteps := 1000000) (disch := first | omega | assumption | exact Nat.le_of_ble_eq_true rfl) only [go_sem, ↓mwp_block, simprocAttr, ir_disk_Disk_Fuse]))
  ((try clear F); have F := S.all; (try simp only [all_cons, all_nil, says_cell, and_true] at F))
  (try simp (maxSteps := 1000000) (disch := first | omega | assumption | exact Nat.le_of_ble_eq_true rfl) only [go_sem, ↓mwp_block, simprocAttr, F, hlo])
  cases lost
  · by_cases hn : n < 0
    · (try simp (maxSteps := 1000000) (disch := first | omega | assumption | exact Nat.le_of_ble_eq_true rfl) only [go_sem, ↓mwp_block, simprocAttr])
      refine hK _ _ ?_
      simp only [fuseD, Bool.false_eq_true, if_false, if_pos hn]
      exact ⟨trivial, diskA_open.2 ⟨zs, hz, h8, S⟩⟩
    · (try simp (maxSteps := 1000000) (disch := first | omega | assumption | exact Nat.le_of_ble_eq_true rfl) only [go_sem, ↓mwp_block, simprocAttr])
      refine st_store S rfl rfl (by rw [dcells_len h8]; omega) ?_
      clear S F
      intro h S
      rw [dcells_setF h8] at S
      (try simp (maxSteps := 1000000) (disch := first | omega | assumption | exact Nat.le_of_ble_eq_true rfl) only [go_sem, ↓mwp_block, simprocAttr])
      refine hK _ _ ?_
      simp only [fuseD, Bool.false_eq_true, if_false, if_neg hn]
      exact ⟨trivial, diskA_open.2 ⟨zs, hz, h8, S⟩⟩
  · (try simp (maxSteps := 1000000) (disch := first | omega | assumption | exact Nat.le_of_ble_eq_true rfl) only [go_sem, ↓mwp_block, simprocAttr])
    refine hK _ _ ?_
    simp only [fuseD, if_true]
    exact ⟨trivial, diskA_open.2 ⟨zs, hz, h8, S⟩⟩
theorem there_nil (n : Int) (h : Heap) : CallsH Try.prog 89 [.pointer none, .int .i64 n] h fun v h' => v = .int .i64 1 ∧ h' = h := by
  (refine enterK c_disk_Disk_there (Nat.le_of_ble_eq_true rfl) fun K hK => ?_; (try simp (maxSteps := 1000000) (disch := first | omega | assumption | exact Nat.le_of_ble_eq_true rfl) only [go_sem, ↓mwp_block, simprocAttr, ir_disk_Disk_there]))
  refine call_intro (ask_nil n _) ?_
  rintro _ _ ⟨rfl, rfl⟩
  (try simp (maxSteps := 1000000) (disch := first | omega | assumption | exact Nat.le_of_ble_eq_true rfl) only [go_sem, ↓mwp_block, simprocAttr])
  exact hK _ _ ⟨rfl, rfl⟩
def thereE (D : Dk) (n : Int) : Int := if askE D n ≠ 0 then askE D n else if (fileOf D n).isNone then 7 else 0
theorem there_ok (n : Int) {h0 h : Heap} {l : List HP} {d : Nat} {D : Dk} (S : St h0 h (diskA d D :: l)) :
    CallsH Try.prog 89 [.pointer (some ⟨d, 0, none⟩), .int .i64 n] h fun v h' => v = .int .i64 (thereE D n) ∧ h' = h := by
  (refine enterK c_disk_Disk_there (Nat.le_of_ble_eq_true rfl) fun K hK => ?_; (try simp (maxSteps := 1000000) (disch := first | omega | assumption | exact Nat.le_of_ble_eq_true rfl) only [go_sem, ↓mwp_block, simprocAttr, ir_disk_Disk_there]))
  refine call_intro (ask_ok n S) ?_
  rintro _ _ ⟨rfl, rfl⟩
  obtain ⟨zs, hz, h8, S⟩ := diskA_open.1 S
  by_cases ha : askE D n = 0
  · have hn : 0 ≤ n ∧ n < 8 := by
      unfold askE at ha
      by_cases h : 0 ≤ n ∧ n < 8
      · exact h
      · rw [if_neg h] at ha
        split at ha <;> omega
    have hlt : n.toNat < zs.length := by omega
    have hc := dcells_at (cap := D.cap) (fuse := D.fuse) (lost := D.lost) hlt
    have hf := fileOf_at hz hn hlt
    unfold thereE at hK
    rw [hf, if_neg (by simp [ha])] at hK
    generalize zs[n.toNat] = z at hc hK
    obtain ⟨hn1, hn2⟩ := id hn
    ((try clear F); have F := S.all; (try simp only [all_cons, all_nil, says_cell, and_true] at F))
    cases z with
    | none =>
      (try simp (maxSteps := 1000000) (disch := first | omega | assumption | exact Nat.le_of_ble_eq_true rfl) only [go_sem, ↓mwp_block, simprocAttr, F, hc, Nat.mul_one, ptrOf, ha])
      exact hK _ _ ⟨rfl, rfl⟩
    | some z =>
      (try simp (maxSteps := 1000000) (disch := first | omega | assumption | exact Nat.le_of_ble_eq_true rfl) only [go_sem, ↓mwp_block, simprocAttr, F, hc, Nat.mul_one, ptrOf, ha])
      exact hK _ _ ⟨rfl, rfl⟩
  · (try simp (maxSteps := 1000000) (disch := first | omega | assumption | exact Nat.le_of_ble_eq_true rfl) only [go_sem, ↓mwp_block, simprocAttr])
    exact hK _ _ ⟨by rw [thereE, if_pos ha], rfl⟩
theorem Append_nil (n : Int) (v : Value) (h : Heap) : CallsH Try.prog 48 [.pointer none, .int .i64 n, v] h fun v h' => v = .int .i64 1 ∧ h' = h := by
  (refine enterK c_disk_Disk_Append (Nat.le_of_ble_eq_true rfl) fun K hK => ?_; (try simp (maxSteps := 1000000) (disch := first | omega | assumption | exact Nat.le_of_ble_eq_true rfl) only [go_sem, ↓mwp_block, simprocAttr, ir_disk_Disk_Append]))
  refine call_intro (ask_nil n _) ?_
  rintro _ _ ⟨rfl, rfl⟩
  (try simp (maxSteps := 1000000) (disch := first | omega | assumption | exact Nat.le_of_ble_eq_true rfl) only [go_sem, ↓mwp_block, simprocAttr])
  exact hK _ _ ⟨rfl, rfl⟩
end Go.Proofs.Ytnjjdpeglkiifaa.MX

/- The disk: Append. -/
namespace Go.Proofs.Ytnjjdpeglkiifaa.MX
open Go Go.Proofs
set_option linter.unusedSimpArgs false
set_option linter.unusedVariables false

def appendD (D : Dk) (n : Int) (bs : List UInt8) : Dk × Int :=
  if askE D n ≠ 0 then (D, askE D n)
  else if (bs.length : Int) > D.cap - used D.fs then (D, 5)
  else if D.fuse = 0 then ({ D with fs := D.fs.set n.toNat (some ⟨((fileOf D n).getD ⟨[], 0⟩).bs ++ bs.take (bs.length / 2), ((fileOf D n).getD ⟨[], 0⟩).safe⟩), lost := true }, 6)
  else ({ D with fs := D.fs.set n.toNat (some ⟨((fileOf D n).getD ⟨[], 0⟩).bs ++ bs, ((fileOf D n).getD ⟨[], 0⟩).safe⟩), fuse := burnF D.fuse }, 0)
theorem ask_in {D : Dk} {n : Int} (ha : askE D n = 0) : D.lost = false ∧ 0 ≤ n ∧ n < 8 := by
  unfold askE at ha
  cases hd : D.lost
  · rw [hd] at ha
    by_cases h : 0 ≤ n ∧ n < 8
    · exact ⟨rfl, h⟩
    · simp [h] at ha
  · rw [hd] at ha
    simp at ha
theorem used_get {fs : List (Option DF)} {k : Nat} (hk : k < fs.length) : szF fs[k] ≤ used fs := by
  have h1 := used_take fs hk
  have h2 := used_take_le fs (k + 1)
  omega
/-- A slot that is taken out, turned, and put back. -/
theorem disk_close {h0 h : Heap} {l : List HP} {d : Nat} {cap fuse : Int} {lost : Bool} {zs : List Slot} {fs : List (Option DF)} {n p : Nat} {f : DF} (hz : zs.map dfOf = fs) (h8 : zs.length = 8) (hn : n < zs.length)
    (S : St h0 h (fileA p f :: cellA d (dcells cap (zs.set n (some (p, f))) fuse lost) 113 :: ((zs.take n ++ zs.drop (n + 1)).map slotA ++ l))) : St h0 h (diskA d ⟨cap, fs.set n (some f), fuse, lost⟩ :: l) := by
  refine diskA_open.2 ⟨zs.set n (some (p, f)), ?_, by simpa using h8, slot_put (z := some (p, f)) hn S⟩
  simp only [List.map_set, hz]
  rfl

theorem dcells_same {cap fuse : Int} {lost : Bool} {zs : List Slot} {n p : Nat} (f f' : DF) : dcells cap (zs.set n (some (p, f))) fuse lost = dcells cap (zs.set n (some (p, f'))) fuse lost := by
  simp [dcells, List.map_set, ptrOf]
set_option maxHeartbeats 4000000 in
theorem Append_ok (n : Int) {h0 h : Heap} {l : List HP} {d : Nat} {D : Dk} {A : Option Addr} {c : Nat} {bs : List UInt8} (S : St h0 h (diskA d D :: l)) (ok : D.ok) (ha : ∀ h', St h0 h' l → Arr bEnc 1 h' A bs) (hc : bs.length ≤ c) (hb : bs.length < 9223372036854775808) :
    CallsH Try.prog 48 [.pointer (some ⟨d, 0, none⟩), .int .i64 n, .slice A bs.length c] h fun v h' => v = .int .i64 (appendD D n bs).2 ∧ St h0 h' (diskA d (appendD D n bs).1 :: l) := by
  (refine enterK c_disk_Disk_Append (Nat.le_of_ble_eq_true rfl) fun K hK => ?_; (try simp (maxSteps := 1000000) (disch := first | omega | assumption | exact Nat.le_of_ble_eq_true rfl) only [go_sem, ↓mwp_block, simprocAttr, ir_disk_Disk_Append]))
  refine call_intro (ask_ok n S) ?_
  rintro _ _ ⟨rfl, rfl⟩
  by_cases hae : askE D n = 0
  · obtain ⟨hlo, hn1, hn2⟩ := ask_in hae
    (try simp (maxSteps := 1000000) (disch := first | omega | assumption | exact Nat.le_of_ble_eq_true rfl) only [go_sem, ↓mwp_block, simprocAttr, hae])
    refine call_intro (Room_ok S ok) ?_
    rintro _ _ ⟨rfl, rfl⟩
    by_cases hr : (bs.length : Int) > D.cap - used D.fs
    · (try simp (maxSteps := 1000000) (disch := first | omega | assumption | exact Nat.le_of_ble_eq_true rfl) only [go_sem, ↓mwp_block, simprocAttr])
      refine hK _ _ ?_
      simp only [appendD, hae, ne_eq, not_true_eq_false, if_false, if_pos hr]
      exact ⟨trivial, S⟩
    · obtain ⟨zs, hz, h8, S⟩ := diskA_open.1 S
      have hlt : n.toNat < zs.length := by omega
      have hc0 := dcells_at (cap := D.cap) (fuse := D.fuse) (lost := D.lost) hlt
      have hf := fileOf_at hz ⟨hn1, hn2⟩ hlt
      have hfl : n.toNat < D.fs.length := by have := ok.len; omega
      have hsz := used_get hfl
      have hro := ok.room
      have hcp := ok.cap
      have hfs : D.fs[n.toNat] = dfOf zs[n.toNat] := by
        have : D.fs[n.toNat]? = (zs.map dfOf)[n.toNat]? := by rw [hz]
        rw [List.getElem?_map, List.getElem?_eq_getElem hfl, List.getElem?_eq_getElem hlt] at this
        exact Option.some.inj this
      rw [hfs] at hsz
      have S := slot_pick hlt S
      have hset : ∀ z, zs.set n.toNat zs[n.toNat] = zs := fun _ => List.set_getElem_self hlt
      have hset0 : zs.set n.toNat zs[n.toNat] = zs := List.set_getElem_self hlt
      generalize hzz : zs[n.toNat] = z at hc0 hf S hsz hset0
      have hq : ((bs.length : Int)).tdiv 2 = ((bs.length / 2 : Nat) : Int) := by rw [Int.tdiv_eq_ediv_of_nonneg (by omega)]; omega
      ((try clear F); have F := S.all; (try simp only [all_cons, all_nil, says_cell, and_true] at F))
      cases z with
      | none =>
        (try simp (maxSteps := 1000000) (disch := first | omega | assumption | exact Nat.le_of_ble_eq_true rfl) only [go_sem, ↓mwp_block, simprocAttr, F, hc0, Nat.mul_one, ptrOf])
        (refine st_alloc S ?_; clear S; intro p h S; (try simp only [splice_cons, splice_nil, List.set_cons_zero, List.set_cons_succ, Nat.zero_add, Nat.reduceAdd, List.cons_append, List.nil_append] at S); ((try clear F); have F := S.all; (try simp only [all_cons, all_nil, says_cell, and_true] at F)))
        (try simp (maxSteps := 1000000) (disch := first | omega | assumption | exact Nat.le_of_ble_eq_true rfl) only [go_sem, ↓mwp_block, simprocAttr])
        refine st_store S.p2 rfl rfl (by rw [dcells_len h8]; omega) ?_
        clear F
        intro h S2
        have hst := dcells_setP (cap := D.cap) (fuse := D.fuse) (lost := D.lost) hlt (some (p, ⟨[], 0⟩))
        simp only [Nat.mul_one] at S2
        rw [show [Value.pointer (some ⟨p, 0, none⟩)] = [ptrOf (some (p, ⟨[], 0⟩))] from rfl, hst] at S2
        obtain ⟨f, hfe⟩ : ∃ f : DF, f = ⟨[], 0⟩ := ⟨_, rfl⟩
        obtain ⟨s, S⟩ : ∃ s, St h0 h (cellA p [s, .int .i64 f.safe] 121 :: ownA bEnc 1 5 s f.bs :: cellA d (dcells D.cap (zs.set n.toNat (some (p, f))) D.fuse D.lost) 113 :: ((zs.take n.toNat ++ zs.drop (n.toNat + 1)).map slotA ++ l)) := by
          subst hfe
          exact ⟨_, S2.p2.tl.p1.nilS.p1⟩
        have hgf : (fileOf D n).getD ⟨[], 0⟩ = f := by rw [hf, hfe]; rfl
        have hbl : f.bs.length ≤ 1048576 := by rw [hfe]; simp
        have hc1 := dcells_at (cap := D.cap) (fuse := D.fuse) (lost := D.lost) (zs := zs.set n.toNat (some (p, f))) (n := n.toNat) (by simpa using hlt)
        rw [List.getElem_set_self] at hc1
        clear S2 hfe hst hf hsz hc0
        ((try clear F); have F := S.all; (try simp only [all_cons, all_nil, says_cell, and_true] at F))
        (try simp (maxSteps := 1000000) (disch := first | omega | assumption | exact Nat.le_of_ble_eq_true rfl) only [go_sem, ↓mwp_block, simprocAttr, F, hc1, Nat.mul_one, ptrOf])
        obtain ⟨B, e, rfl⟩ := S.p1.sl
        (try simp (maxSteps := 1000000) (disch := first | omega | assumption | exact Nat.le_of_ble_eq_true rfl) only [go_sem, ↓mwp_block, simprocAttr, hc1, Nat.mul_one, ptrOf])
        refine call_intro (burn_ok S.p2 (by simpa using h8) ok.fuse) ?_
        rintro _ h (⟨hz0, rfl, S⟩ | ⟨hz0, rfl, S⟩)
        · (try simp (maxSteps := 1000000) (disch := first | omega | assumption | exact Nat.le_of_ble_eq_true rfl) only [go_sem, ↓mwp_block, simprocAttr])
          have rx : ∀ off K t, readT (fun h' => St h0 h' _) (fun h' => rd1 h' (.pointer (some ⟨p, off, none⟩))) K t = bindT ([Value.slice B f.bs.length e, Value.int .i64 f.safe][off]?) K ⟨⟩ := fun off K t => reads_of S.p2.tl (fun h' s => st_rd1 s.p1)
          refine draw_st S.p2.tl ?_
          (try simp (maxSteps := 1000000) (disch := first | omega | assumption | exact Nat.le_of_ble_eq_true rfl) only [go_sem, ↓mwp_block, simprocAttr, rx, hq])
          refine st_append (bytes := 1) (ys := bs.take (bs.length / 2)) bEnc_len (by omega) bEnc_plain rfl S.p2 (by simp [srcLen]; omega) (src_arr bEnc_len (arr_take (ha _ S.tl.tl.tl.dropL) _) (by simp; omega)) (by simp; omega) (by simp; omega) ?_
          clear S F
          intro v' h S
          obtain ⟨B2, e2, rfl⟩ := S.sl
          try refine chk_st S.tl ?_
          (try simp (maxSteps := 1000000) (disch := first | omega | assumption | exact Nat.le_of_ble_eq_true rfl) only [go_sem, ↓mwp_block, simprocAttr])
          refine st_store S.p2 rfl rfl (Nat.le_of_ble_eq_true rfl) ?_
          clear S
          intro h S
          (try simp only [splice_cons, splice_nil, List.set_cons_zero, List.set_cons_succ, Nat.zero_add, Nat.reduceAdd, List.cons_append, List.nil_append] at S)
          (try simp (maxSteps := 1000000) (disch := first | omega | assumption | exact Nat.le_of_ble_eq_true rfl) only [go_sem, ↓mwp_block, simprocAttr])
          refine hK _ _ ?_
          simp only [appendD, hae, ne_eq, not_true_eq_false, if_false, if_neg hr, if_pos hz0, hgf]
          refine ⟨trivial, disk_close hz h8 hlt (p := p) ?_⟩
          rw [dcells_same _ f]
          exact fileA_open.2 ⟨_, S⟩
        · ((try clear F); have F := S.all; (try simp only [all_cons, all_nil, says_cell, and_true] at F))
          (try simp (maxSteps := 1000000) (disch := first | omega | assumption | exact Nat.le_of_ble_eq_true rfl) only [go_sem, ↓mwp_block, simprocAttr, F])
          refine st_append (bytes := 1) (ys := bs) bEnc_len (by omega) bEnc_plain rfl S.p2 rfl (src_arr bEnc_len (ha _ S.tl.tl.tl.dropL) rfl) (by omega) (by omega) ?_
          clear S F
          intro v' h S
          obtain ⟨B2, e2, rfl⟩ := S.sl
          (try simp (maxSteps := 1000000) (disch := first | omega | assumption | exact Nat.le_of_ble_eq_true rfl) only [go_sem, ↓mwp_block, simprocAttr])
          refine st_store S.p2 rfl rfl (Nat.le_of_ble_eq_true rfl) ?_
          clear S
          intro h S
          (try simp only [splice_cons, splice_nil, List.set_cons_zero, List.set_cons_succ, Nat.zero_add, Nat.reduceAdd, List.cons_append, List.nil_append] at S)
          (try simp (maxSteps := 1000000) (disch := first | omega | assumption | exact Nat.le_of_ble_eq_true rfl) only [go_sem, ↓mwp_block, simprocAttr])
          refine hK _ _ ?_
          simp only [appendD, hae, ne_eq, not_true_eq_false, if_false, if_neg hr, if_neg hz0, hgf]
          refine ⟨trivial, disk_close hz h8 hlt (p := p) ?_⟩
          rw [dcells_same _ f]
          exact fileA_open.2 ⟨_, S⟩
      | some z =>
        obtain ⟨p, f⟩ := z
        (try simp (maxSteps := 1000000) (disch := first | omega | assumption | exact Nat.le_of_ble_eq_true rfl) only [go_sem, ↓mwp_block, simprocAttr, F, hc0, Nat.mul_one, ptrOf])
        have hgf : (fileOf D n).getD ⟨[], 0⟩ = f := by rw [hf]; rfl
        have hbl : f.bs.length ≤ 1048576 := by
          have : szF (dfOf (some (p, f))) = f.bs.length := rfl
          omega
        obtain ⟨s, S⟩ := fileA_open.1 S
        have e0 : dcells D.cap zs D.fuse D.lost = dcells D.cap (zs.set n.toNat (some (p, f))) D.fuse D.lost := by rw [hset0]
        rw [e0] at S
        have hc1 := dcells_at (cap := D.cap) (fuse := D.fuse) (lost := D.lost) (zs := zs.set n.toNat (some (p, f))) (n := n.toNat) (by simpa using hlt)
        rw [List.getElem_set_self] at hc1
        obtain ⟨B, e, rfl⟩ := S.p1.sl
        (try simp (maxSteps := 1000000) (disch := first | omega | assumption | exact Nat.le_of_ble_eq_true rfl) only [go_sem, ↓mwp_block, simprocAttr, hc1, Nat.mul_one, ptrOf])
        refine call_intro (burn_ok S.p2 (by simpa using h8) ok.fuse) ?_
        rintro _ h (⟨hz0, rfl, S⟩ | ⟨hz0, rfl, S⟩)
        · (try simp (maxSteps := 1000000) (disch := first | omega | assumption | exact Nat.le_of_ble_eq_true rfl) only [go_sem, ↓mwp_block, simprocAttr])
          have rx : ∀ off K t, readT (fun h' => St h0 h' _) (fun h' => rd1 h' (.pointer (some ⟨p, off, none⟩))) K t = bindT ([Value.slice B f.bs.length e, Value.int .i64 f.safe][off]?) K ⟨⟩ := fun off K t => reads_of S.p2.tl (fun h' s => st_rd1 s.p1)
          refine draw_st S.p2.tl ?_
          (try simp (maxSteps := 1000000) (disch := first | omega | assumption | exact Nat.le_of_ble_eq_true rfl) only [go_sem, ↓mwp_block, simprocAttr, rx, hq])
          refine st_append (bytes := 1) (ys := bs.take (bs.length / 2)) bEnc_len (by omega) bEnc_plain rfl S.p2 (by simp [srcLen]; omega) (src_arr bEnc_len (arr_take (ha _ S.tl.tl.tl.dropL) _) (by simp; omega)) (by simp; omega) (by simp; omega) ?_
          clear S F
          intro v' h S
          obtain ⟨B2, e2, rfl⟩ := S.sl
          try refine chk_st S.tl ?_
          (try simp (maxSteps := 1000000) (disch := first | omega | assumption | exact Nat.le_of_ble_eq_true rfl) only [go_sem, ↓mwp_block, simprocAttr])
          refine st_store S.p2 rfl rfl (Nat.le_of_ble_eq_true rfl) ?_
          clear S
          intro h S
          (try simp only [splice_cons, splice_nil, List.set_cons_zero, List.set_cons_succ, Nat.zero_add, Nat.reduceAdd, List.cons_append, List.nil_append] at S)
          (try simp (maxSteps := 1000000) (disch := first | omega | assumption | exact Nat.le_of_ble_eq_true rfl) only [go_sem, ↓mwp_block, simprocAttr])
          refine hK _ _ ?_
          simp only [appendD, hae, ne_eq, not_true_eq_false, if_false, if_neg hr, if_pos hz0, hgf]
          refine ⟨trivial, disk_close hz h8 hlt (p := p) ?_⟩
          rw [dcells_same _ f]
          exact fileA_open.2 ⟨_, S⟩
        · ((try clear F); have F := S.all; (try simp only [all_cons, all_nil, says_cell, and_true] at F))
          (try simp (maxSteps := 1000000) (disch := first | omega | assumption | exact Nat.le_of_ble_eq_true rfl) only [go_sem, ↓mwp_block, simprocAttr, F])
          refine st_append (bytes := 1) (ys := bs) bEnc_len (by omega) bEnc_plain rfl S.p2 rfl (src_arr bEnc_len (ha _ S.tl.tl.tl.dropL) rfl) (by omega) (by omega) ?_
          clear S F
          intro v' h S
          obtain ⟨B2, e2, rfl⟩ := S.sl
          (try simp (maxSteps := 1000000) (disch := first | omega | assumption | exact Nat.le_of_ble_eq_true rfl) only [go_sem, ↓mwp_block, simprocAttr])
          refine st_store S.p2 rfl rfl (Nat.le_of_ble_eq_true rfl) ?_
          clear S
          intro h S
          (try simp only [splice_cons, splice_nil, List.set_cons_zero, List.set_cons_succ, Nat.zero_add, Nat.reduceAdd, List.cons_append, List.nil_append] at S)
          (try simp (maxSteps := 1000000) (disch := first | omega | assumption | exact Nat.le_of_ble_eq_true rfl) only [go_sem, ↓mwp_block, simprocAttr])
          refine hK _ _ ?_
          simp only [appendD, hae, ne_eq, not_true_eq_false, if_false, if_neg hr, if_neg hz0, hgf]
          refine ⟨trivial, disk_close hz h8 hlt (p := p) ?_⟩
          rw [dcells_same _ f]
          exact fileA_open.2 ⟨_, S⟩
  · (try simp (maxSteps := 1000000) (disch := first | omega | assumption | exact Nat.le_of_ble_eq_true rfl) only [go_sem, ↓mwp_block, simprocAttr])
    refine hK _ _ ?_
    simp only [appendD, ne_eq, hae, not_false_eq_true, if_true]
    exact ⟨trivial, S⟩
end Go.Proofs.Ytnjjdpeglkiifaa.MX

/- The disk: Sync, Cut, Remove, Read. -/
namespace Go.Proofs.Ytnjjdpeglkiifaa.MX
open Go Go.Proofs
set_option linter.unusedSimpArgs false
set_option linter.unusedVariables false

theorem there_in {D : Dk} {n : Int} (ht : thereE D n = 0) : askE D n = 0 ∧ D.lost = false ∧ (0 ≤ n ∧ n < 8) ∧ ∃ f, fileOf D n = some f := by
  unfold thereE at ht
  by_cases ha : askE D n = 0
  · rw [if_neg (by simp [ha])] at ht
    obtain ⟨h1, h2⟩ := ask_in ha
    refine ⟨ha, h1, h2, ?_⟩
    cases hf : fileOf D n with
    | none => rw [hf] at ht; simp at ht
    | some f => exact ⟨f, rfl⟩
  · rw [if_pos ha] at ht
    exact absurd ht ha
/-- A file that is there, taken out of its slot. -/
theorem disk_take {h0 h : Heap} {l : List HP} {d : Nat} {D : Dk} {n : Int} (S : St h0 h (diskA d D :: l)) (ht : thereE D n = 0) :
    ∃ (zs : List Slot) (p : Nat) (f : DF) (s : Value), zs.map dfOf = D.fs ∧ zs.length = 8 ∧ 0 ≤ n ∧ n < 8 ∧ fileOf D n = some f ∧ some f ∈ D.fs ∧ zs.set n.toNat (some (p, f)) = zs ∧
      (dcells D.cap zs D.fuse D.lost)[1 + n.toNat]? = some (.pointer (some ⟨p, 0, none⟩)) ∧ (∀ fu lo, (dcells D.cap zs fu lo)[1 + n.toNat]? = some (.pointer (some ⟨p, 0, none⟩))) ∧
      St h0 h (cellA p [s, .int .i64 f.safe] 121 :: ownA bEnc 1 5 s f.bs :: cellA d (dcells D.cap zs D.fuse D.lost) 113 :: ((zs.take n.toNat ++ zs.drop (n.toNat + 1)).map slotA ++ l)) := by
  obtain ⟨_, hlo, ⟨hn1, hn2⟩, f, hf⟩ := there_in ht
  obtain ⟨zs, hz, h8, S⟩ := diskA_open.1 S
  have hlt : n.toNat < zs.length := by omega
  have hfz := fileOf_at hz ⟨hn1, hn2⟩ hlt
  rw [hf] at hfz
  have hc := fun fu lo => dcells_at (cap := D.cap) (fuse := fu) (lost := lo) hlt
  have S := slot_pick hlt S
  have hset : zs.set n.toNat zs[n.toNat] = zs := List.set_getElem_self hlt
  have hmem : dfOf zs[n.toNat] ∈ D.fs := by rw [← hz]; exact List.mem_map_of_mem (List.getElem_mem hlt)
  generalize zs[n.toNat] = z at hfz hc S hset hmem
  cases z with
  | none => cases hfz
  | some z =>
    obtain ⟨p, f'⟩ := z
    cases hfz
    obtain ⟨s, S⟩ := fileA_open.1 S
    exact ⟨zs, p, f', s, hz, h8, hn1, hn2, hf, hmem, hset, hc _ _, hc, S⟩
theorem disk_back {h0 h : Heap} {l : List HP} {d : Nat} {cap fuse : Int} {lost : Bool} {zs : List Slot} {fs : List (Option DF)} {n p : Nat} {f f' : DF} {s : Value} (hz : zs.map dfOf = fs) (h8 : zs.length = 8) (hn : n < 8) (hset : zs.set n (some (p, f)) = zs)
    (S : St h0 h (cellA p [s, .int .i64 f'.safe] 121 :: ownA bEnc 1 5 s f'.bs :: cellA d (dcells cap zs fuse lost) 113 :: ((zs.take n ++ zs.drop (n + 1)).map slotA ++ l))) : St h0 h (diskA d ⟨cap, fs.set n (some f'), fuse, lost⟩ :: l) := by
  refine disk_close (p := p) (f := f') hz h8 (by omega) ?_
  rw [dcells_same _ f, hset]
  exact fileA_open.2 ⟨_, S⟩
theorem set_same {D : Dk} {n : Int} {f : DF} (hn1 : 0 ≤ n) (hn2 : n < 8) (hf : fileOf D n = some f) : D.fs.set n.toNat (some f) = D.fs := by
  rw [fileOf, if_pos ⟨hn1, hn2⟩, List.getD_eq_getElem?_getD] at hf
  rcases Nat.lt_or_ge n.toNat D.fs.length with h | h
  · rw [List.getElem?_eq_getElem h] at hf
    have : D.fs[n.toNat] = some f := hf
    rw [← this, List.set_getElem_self]
  · rw [List.getElem?_eq_none h] at hf
    cases hf

def syncD (D : Dk) (n : Int) : Dk × Int :=
  if thereE D n ≠ 0 then (D, thereE D n)
  else if D.fuse = 0 then ({ D with lost := true }, 6)
  else ({ D with fs := D.fs.set n.toNat (some ⟨((fileOf D n).getD ⟨[], 0⟩).bs, ((fileOf D n).getD ⟨[], 0⟩).bs.length⟩), fuse := burnF D.fuse }, 0)
theorem Sync_ok (n : Int) {h0 h : Heap} {l : List HP} {d : Nat} {D : Dk} (S : St h0 h (diskA d D :: l)) (ok : D.ok) :
    CallsH Try.prog 50 [.pointer (some ⟨d, 0, none⟩), .int .i64 n] h fun v h' => v = .int .i64 (syncD D n).2 ∧ St h0 h' (diskA d (syncD D n).1 :: l) := by
  (refine enterK c_disk_Disk_Sync (Nat.le_of_ble_eq_true rfl) fun K hK => ?_; (try simp (maxSteps := 1000000) (disch := first | omega | assumption | exact Nat.le_of_ble_eq_true rfl) only [go_sem, ↓mwp_block, simprocAttr, ir_disk_Disk_Sync]))
  refine call_intro (there_ok n S) ?_
  rintro _ _ ⟨rfl, rfl⟩
  by_cases ht : thereE D n = 0
  · obtain ⟨zs, p, f, s, hz, h8, hn1, hn2, hf, hm, hset, _, hc, S⟩ := disk_take S ht
    obtain ⟨B, e, rfl⟩ := S.p1.sl
    (try simp (maxSteps := 1000000) (disch := first | omega | assumption | exact Nat.le_of_ble_eq_true rfl) only [go_sem, ↓mwp_block, simprocAttr, ht])
    refine call_intro (burn_ok S.p2 h8 ok.fuse) ?_
    rintro _ h (⟨hz0, rfl, S⟩ | ⟨hz0, rfl, S⟩)
    · (try simp (maxSteps := 1000000) (disch := first | omega | assumption | exact Nat.le_of_ble_eq_true rfl) only [go_sem, ↓mwp_block, simprocAttr])
      refine hK _ _ ?_
      simp only [syncD, ht, ne_eq, not_true_eq_false, if_false, if_pos hz0]
      refine ⟨trivial, ?_⟩
      have := disk_back (f' := f) hz h8 (by omega) hset S.p1.p2.p1
      rwa [set_same hn1 hn2 hf] at this
    · ((try clear F); have F := S.all; (try simp only [all_cons, all_nil, says_cell, and_true] at F))
      (try simp (maxSteps := 1000000) (disch := first | omega | assumption | exact Nat.le_of_ble_eq_true rfl) only [go_sem, ↓mwp_block, simprocAttr])
      refine draw_eq ?_
      (try simp (maxSteps := 1000000) (disch := first | omega | assumption | exact Nat.le_of_ble_eq_true rfl) only [go_sem, ↓mwp_block, simprocAttr, F, hc, Nat.mul_one])
      refine st_store S.p1 rfl rfl (Nat.le_of_ble_eq_true rfl) ?_
      clear S F
      intro h S
      (try simp only [splice_cons, splice_nil, List.set_cons_zero, List.set_cons_succ, Nat.zero_add, Nat.reduceAdd, List.cons_append, List.nil_append] at S)
      (try simp (maxSteps := 1000000) (disch := first | omega | assumption | exact Nat.le_of_ble_eq_true rfl) only [go_sem, ↓mwp_block, simprocAttr])
      refine hK _ _ ?_
      simp only [syncD, ht, ne_eq, not_true_eq_false, if_false, if_neg hz0, hf, Option.getD_some]
      exact ⟨trivial, disk_back (f' := ⟨f.bs, f.bs.length⟩) hz h8 (by omega) hset S.p2.p1⟩
  · (try simp (maxSteps := 1000000) (disch := first | omega | assumption | exact Nat.le_of_ble_eq_true rfl) only [go_sem, ↓mwp_block, simprocAttr])
    refine hK _ _ ?_
    simp only [syncD, ne_eq, ht, not_false_eq_true, if_true]
    exact ⟨trivial, S⟩

def removeD (D : Dk) (n : Int) : Dk × Int :=
  if thereE D n ≠ 0 then (D, thereE D n)
  else if D.fuse = 0 then ({ D with lost := true }, 6)
  else ({ D with fs := D.fs.set n.toNat none, fuse := burnF D.fuse }, 0)
theorem Remove_ok (n : Int) {h0 h : Heap} {l : List HP} {d : Nat} {D : Dk} (S : St h0 h (diskA d D :: l)) (ok : D.ok) :
    CallsH Try.prog 77 [.pointer (some ⟨d, 0, none⟩), .int .i64 n] h fun v h' => v = .int .i64 (removeD D n).2 ∧ St h0 h' (diskA d (removeD D n).1 :: l) := by
  (refine enterK c_disk_Disk_Remove (Nat.le_of_ble_eq_true rfl) fun K hK => ?_; (try simp (maxSteps := 1000000) (disch := first | omega | assumption | exact Nat.le_of_ble_eq_true rfl) only [go_sem, ↓mwp_block, simprocAttr, ir_disk_Disk_Remove]))
  refine call_intro (there_ok n S) ?_
  rintro _ _ ⟨rfl, rfl⟩
  by_cases ht : thereE D n = 0
  · obtain ⟨zs, p, f, s, hz, h8, hn1, hn2, hf, hm, hset, _, hc, S⟩ := disk_take S ht
    (try simp (maxSteps := 1000000) (disch := first | omega | assumption | exact Nat.le_of_ble_eq_true rfl) only [go_sem, ↓mwp_block, simprocAttr, ht])
    refine call_intro (burn_ok S.p2 h8 ok.fuse) ?_
    rintro _ h (⟨hz0, rfl, S⟩ | ⟨hz0, rfl, S⟩)
    · (try simp (maxSteps := 1000000) (disch := first | omega | assumption | exact Nat.le_of_ble_eq_true rfl) only [go_sem, ↓mwp_block, simprocAttr])
      refine hK _ _ ?_
      simp only [removeD, ht, ne_eq, not_true_eq_false, if_false, if_pos hz0]
      refine ⟨trivial, ?_⟩
      have := disk_back (f' := f) hz h8 (by omega) hset S.p1.p2.p1
      rwa [set_same hn1 hn2 hf] at this
    · (try simp (maxSteps := 1000000) (disch := first | omega | assumption | exact Nat.le_of_ble_eq_true rfl) only [go_sem, ↓mwp_block, simprocAttr])
      refine st_store S rfl rfl (by rw [dcells_len h8]; omega) ?_
      clear S
      intro h S
      simp only [Nat.mul_one] at S
      rw [show [Value.pointer none] = [ptrOf none] from rfl, dcells_setP (by omega)] at S
      (try simp (maxSteps := 1000000) (disch := first | omega | assumption | exact Nat.le_of_ble_eq_true rfl) only [go_sem, ↓mwp_block, simprocAttr])
      refine hK _ _ ?_
      simp only [removeD, ht, ne_eq, not_true_eq_false, if_false, if_neg hz0]
      refine ⟨trivial, diskA_open.2 ⟨zs.set n.toNat none, ?_, by simpa using h8, slot_put (z := none) (by omega) (St.emp.2 S.d1.d1)⟩⟩
      simp only [List.map_set, hz]
      rfl
  · (try simp (maxSteps := 1000000) (disch := first | omega | assumption | exact Nat.le_of_ble_eq_true rfl) only [go_sem, ↓mwp_block, simprocAttr])
    refine hK _ _ ?_
    simp only [removeD, ne_eq, ht, not_false_eq_true, if_true]
    exact ⟨trivial, S⟩
theorem Read_ok (n : Int) {h0 h : Heap} {l : List HP} {d : Nat} {D : Dk} (S : St h0 h (diskA d D :: l)) (ok : D.ok) :
    CallsH Try.prog 83 [.pointer (some ⟨d, 0, none⟩), .int .i64 n] h fun v h' => (thereE D n ≠ 0 ∧ v = .tuple #[.slice none 0 0, .int .i64 (thereE D n)] ∧ St h0 h' (diskA d D :: l)) ∨
      (thereE D n = 0 ∧ ∃ s f, fileOf D n = some f ∧ v = .tuple #[s, .int .i64 0] ∧ St h0 h' (ownA bEnc 1 5 s f.bs :: diskA d D :: l)) := by
  (refine enterK c_disk_Disk_Read (Nat.le_of_ble_eq_true rfl) fun K hK => ?_; (try simp (maxSteps := 1000000) (disch := first | omega | assumption | exact Nat.le_of_ble_eq_true rfl) only [go_sem, ↓mwp_block, simprocAttr, ir_disk_Disk_Read]))
  refine call_intro (there_ok n S) ?_
  rintro _ _ ⟨rfl, rfl⟩
  by_cases ht : thereE D n = 0
  · have S0 := S
    obtain ⟨zs, p, f, s, hz, h8, hn1, hn2, hf, hm, hset, hc, _, S⟩ := disk_take S ht
    obtain ⟨B, e, rfl⟩ := S.p1.sl
    have hbl : f.bs.length ≤ used D.fs := by
      obtain ⟨k, hk, hkf⟩ := List.getElem_of_mem hm
      have := used_get hk
      rw [hkf] at this
      exact this
    have hro := ok.room
    have hcp := ok.cap
    ((try clear F); have F := S.all; (try simp only [all_cons, all_nil, says_cell, and_true] at F))
    (try simp (maxSteps := 1000000) (disch := first | omega | assumption | exact Nat.le_of_ble_eq_true rfl) only [go_sem, ↓mwp_block, simprocAttr, ht, F, hc, Nat.mul_one])
    refine call_intro (CloneB_ok S0 (S.p1.arr bEnc_len) rfl (ownNilA S.p1.own) (by omega)) ?_
    rintro v h ⟨S, _⟩
    (try simp (maxSteps := 1000000) (disch := first | omega | assumption | exact Nat.le_of_ble_eq_true rfl) only [go_sem, ↓mwp_block, simprocAttr])
    exact hK _ _ (.inr ⟨ht, v, f, hf, rfl, S⟩)
  · (try simp (maxSteps := 1000000) (disch := first | omega | assumption | exact Nat.le_of_ble_eq_true rfl) only [go_sem, ↓mwp_block, simprocAttr])
    exact hK _ _ (.inl ⟨ht, rfl, S⟩)
theorem Own.cut {α : Type} {enc : α → List Value} {sz T base : Nat} {h : Heap} {A : Option Addr} {m c n : Nat} {xs : List α} (ho : Own enc sz T base h (.slice A m c) xs) (hn : n ≤ xs.length) : Own enc sz T base h (.slice A n c) (xs.take n) := by
  rcases ho with ⟨hv, rfl⟩ | ⟨b, cap, cs, hv, hb, hle, h63, hblk, hl⟩
  · injection hv with e1 e2 e3
    subst e1 e3
    simp only [List.length_nil, Nat.le_zero] at hn
    subst hn
    exact .inl ⟨rfl, rfl⟩
  · injection hv with e1 e2 e3
    subst e1 e3
    have hlen : (xs.take n).length = n := by simp; omega
    have hfl : xs.flatMap enc = (xs.take n).flatMap enc ++ (xs.drop n).flatMap enc := flat_split enc xs n
    refine .inr ⟨b, c, (xs.drop n).flatMap enc ++ cs, by rw [hlen], hb, by rw [hlen]; omega, h63, ?_, ?_⟩
    · rw [← List.append_assoc, ← hfl]; exact hblk
    · rw [← List.append_assoc, ← hfl]; exact hl
theorem St.cut {α : Type} {enc : α → List Value} {sz T : Nat} {h0 h : Heap} {l : List HP} {A : Option Addr} {m c n : Nat} {xs : List α} (S : St h0 h (ownA enc sz T (.slice A m c) xs :: l)) (hn : n ≤ xs.length) : St h0 h (ownA enc sz T (.slice A n c) (xs.take n) :: l) :=
  S.ownUp (Fr.refl _ _) (S.own.cut hn) (fun b hb => .inl (by cases A <;> exact hb))
def cutD (D : Dk) (n m : Int) : Dk × Int :=
  if thereE D n ≠ 0 then (D, thereE D n)
  else if m < 0 ∨ (((fileOf D n).getD ⟨[], 0⟩).bs.length : Int) < m then (D, 1)
  else if D.fuse = 0 then ({ D with lost := true }, 6)
  else ({ D with fs := D.fs.set n.toNat (some ⟨((fileOf D n).getD ⟨[], 0⟩).bs.take m.toNat, m.toNat⟩), fuse := burnF D.fuse }, 0)
theorem Cut_ok (n m : Int) {h0 h : Heap} {l : List HP} {d : Nat} {D : Dk} (S : St h0 h (diskA d D :: l)) (ok : D.ok) :
    CallsH Try.prog 85 [.pointer (some ⟨d, 0, none⟩), .int .i64 n, .int .i64 m] h fun v h' => v = .int .i64 (cutD D n m).2 ∧ St h0 h' (diskA d (cutD D n m).1 :: l) := by
  (refine enterK c_disk_Disk_Cut (Nat.le_of_ble_eq_true rfl) fun K hK => ?_; (try simp (maxSteps := 1000000) (disch := first | omega | assumption | exact Nat.le_of_ble_eq_true rfl) only [go_sem, ↓mwp_block, simprocAttr, ir_disk_Disk_Cut]))
  refine call_intro (there_ok n S) ?_
  rintro _ _ ⟨rfl, rfl⟩
  by_cases ht : thereE D n = 0
  · have S0 := S
    obtain ⟨zs, p, f, s, hz, h8, hn1, hn2, hf, hm, hset, hc0, hc, S⟩ := disk_take S ht
    obtain ⟨B, e, rfl⟩ := S.p1.sl
    have hle := (S.p1.own.arr bEnc_len).2.2
    ((try clear F); have F := S.all; (try simp only [all_cons, all_nil, says_cell, and_true] at F))
    by_cases hm0 : m < 0
    · (try simp (maxSteps := 1000000) (disch := first | omega | assumption | exact Nat.le_of_ble_eq_true rfl) only [go_sem, ↓mwp_block, simprocAttr, ht, F, hc0, Nat.mul_one])
      refine hK _ _ ?_
      simp only [cutD, ht, ne_eq, not_true_eq_false, if_false, hf, Option.getD_some, if_pos (Or.inl hm0 : m < 0 ∨ (f.bs.length : Int) < m)]
      exact ⟨trivial, S0⟩
    by_cases hm1 : (f.bs.length : Int) < m
    · (try simp (maxSteps := 1000000) (disch := first | omega | assumption | exact Nat.le_of_ble_eq_true rfl) only [go_sem, ↓mwp_block, simprocAttr, ht, F, hc0, Nat.mul_one])
      refine hK _ _ ?_
      simp only [cutD, ht, ne_eq, not_true_eq_false, if_false, hf, Option.getD_some, if_pos (Or.inr hm1 : m < 0 ∨ (f.bs.length : Int) < m)]
      exact ⟨trivial, S0⟩
    · have hno : ¬ (m < 0 ∨ (f.bs.length : Int) < m) := by omega
      obtain ⟨k, rfl⟩ := Int.eq_ofNat_of_zero_le (show 0 ≤ m by omega)
      (try simp (maxSteps := 1000000) (disch := first | omega | assumption | exact Nat.le_of_ble_eq_true rfl) only [go_sem, ↓mwp_block, simprocAttr, ht, F, hc0, Nat.mul_one])
      refine call_intro (burn_ok S.p2 h8 ok.fuse) ?_
      rintro _ h (⟨hz0, rfl, S⟩ | ⟨hz0, rfl, S⟩)
      · (try simp (maxSteps := 1000000) (disch := first | omega | assumption | exact Nat.le_of_ble_eq_true rfl) only [go_sem, ↓mwp_block, simprocAttr])
        refine hK _ _ ?_
        simp only [cutD, ht, ne_eq, not_true_eq_false, if_false, hf, Option.getD_some, if_neg hno, if_pos hz0]
        refine ⟨trivial, ?_⟩
        have := disk_back (f' := f) hz h8 (by omega) hset S.p1.p2.p1
        rwa [set_same hn1 hn2 hf] at this
      · ((try clear F); have F := S.all; (try simp only [all_cons, all_nil, says_cell, and_true] at F))
        (try simp (maxSteps := 1000000) (disch := first | omega | assumption | exact Nat.le_of_ble_eq_true rfl) only [go_sem, ↓mwp_block, simprocAttr, F])
        refine st_store S.p1 rfl rfl (Nat.le_of_ble_eq_true rfl) ?_
        clear S F
        intro h S
        (try simp only [splice_cons, splice_nil, List.set_cons_zero, List.set_cons_succ, Nat.zero_add, Nat.reduceAdd, List.cons_append, List.nil_append] at S)
        (try simp (maxSteps := 1000000) (disch := first | omega | assumption | exact Nat.le_of_ble_eq_true rfl) only [go_sem, ↓mwp_block, simprocAttr])
        refine st_store S rfl rfl (Nat.le_of_ble_eq_true rfl) ?_
        clear S
        intro h S
        (try simp only [splice_cons, splice_nil, List.set_cons_zero, List.set_cons_succ, Nat.zero_add, Nat.reduceAdd, List.cons_append, List.nil_append] at S)
        (try simp (maxSteps := 1000000) (disch := first | omega | assumption | exact Nat.le_of_ble_eq_true rfl) only [go_sem, ↓mwp_block, simprocAttr])
        refine hK _ _ ?_
        simp only [cutD, ht, ne_eq, not_true_eq_false, if_false, hf, Option.getD_some, if_neg hno, if_neg hz0, Int.toNat_natCast]
        refine ⟨trivial, disk_back (f' := ⟨f.bs.take k, k⟩) hz h8 (by omega) hset ((S.p2.cut (n := k) (by omega)).p1)⟩
  · (try simp (maxSteps := 1000000) (disch := first | omega | assumption | exact Nat.le_of_ble_eq_true rfl) only [go_sem, ↓mwp_block, simprocAttr])
    refine hK _ _ ?_
    simp only [cutD, ne_eq, ht, not_false_eq_true, if_true]
    exact ⟨trivial, S⟩
end Go.Proofs.Ytnjjdpeglkiifaa.MX
