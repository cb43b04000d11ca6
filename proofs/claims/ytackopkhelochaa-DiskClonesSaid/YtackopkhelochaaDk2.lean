/- The disk: the methods that turn it. -/
import Derived.Test.YtackopkhelochaaDk1
namespace Go.Proofs.Ytackopkhelochaa.MX
open Go Go.Proofs
set_option linter.unusedSimpArgs false
set_option linter.unusedVariables false

theorem New_ok (c : Int) {h0 h : Heap} {l : List HP} (S : St h0 h l) :
    CallsH Try.prog 28 [.int .i64 c] h fun v h' => (0 ≤ c ∧ c ≤ 1048576 ∧ ∃ d, v = .tuple #[.pointer (some ⟨d, 0, none⟩), .int .i64 0] ∧ St h0 h' (diskA d ⟨c, List.replicate 8 none, -1, false⟩ :: l)) ∨ (¬ (0 ≤ c ∧ c ≤ 1048576) ∧ v = .tuple #[.pointer none, .int .i64 1] ∧ St h0 h' l) := by
  by_cases h0 : 0 ≤ c
  · by_cases h1 : c ≤ 1048576
    · (refine enterK c_disk_New (Nat.le_of_ble_eq_true rfl) fun K hK => ?_; (try simp (maxSteps := 1000000) (disch := first | omega | assumption | exact Nat.le_of_ble_eq_true rfl) only [go_sem, ↓mwp_block, simprocAttr, ir_disk_New]))
      (refine st_alloc S ?_; clear S; intro d h S; (try simp only [splice_cons, splice_nil, List.set_cons_zero, List.set_cons_succ, Nat.zero_add, Nat.reduceAdd, List.cons_append, List.nil_append] at S); ((try clear F); have F := S.all; (try simp only [all_cons, all_nil, says_cell, and_true] at F)))
      (try simp (maxSteps := 1000000) (disch := first | omega | assumption | exact Nat.le_of_ble_eq_true rfl) only [go_sem, ↓mwp_block, simprocAttr])
      refine hK _ _ (.inl ⟨h0, h1, d, rfl, diskA_open.2 ⟨List.replicate 8 none, rfl, rfl, ?_⟩⟩)
      have S := St.emp.2 (St.emp.2 (St.emp.2 (St.emp.2 (St.emp.2 (St.emp.2 (St.emp.2 (St.emp.2 S)))))))
      exact S.p8
    · (refine enterK c_disk_New (Nat.le_of_ble_eq_true rfl) fun K hK => ?_; (try simp (maxSteps := 1000000) (disch := first | omega | assumption | exact Nat.le_of_ble_eq_true rfl) only [go_sem, ↓mwp_block, simprocAttr, ir_disk_New]))
      exact hK _ _ (.inr ⟨fun h => h1 h.2, rfl, S⟩)
  · (refine enterK c_disk_New (Nat.le_of_ble_eq_true rfl) fun K hK => ?_; (try simp (maxSteps := 1000000) (disch := first | omega | assumption | exact Nat.le_of_ble_eq_true rfl) only [go_sem, ↓mwp_block, simprocAttr, ir_disk_New]))
    exact hK _ _ (.inr ⟨fun h => h0 h.1, rfl, S⟩)

/-- A change is counted. -/
def burnF (fuse : Int) : Int := if fuse > 0 then fuse - 1 else fuse
theorem burn_ok {h0 h : Heap} {l : List HP} {d : Nat} {cap fuse : Int} {lost : Bool} {zs : List Slot} (S : St h0 h (cellA d (dcells cap zs fuse lost) 99 :: l)) (h8 : zs.length = 8) (hf : -1 ≤ fuse ∧ fuse < 9223372036854775808) :
    CallsH Try.prog 67 [.pointer (some ⟨d, 0, none⟩)] h fun v h' => (fuse = 0 ∧ v = .bool false ∧ St h0 h' (cellA d (dcells cap zs fuse true) 99 :: l)) ∨ (fuse ≠ 0 ∧ v = .bool true ∧ St h0 h' (cellA d (dcells cap zs (burnF fuse) lost) 99 :: l)) := by
  have hfu := dcells_fuse (cap := cap) (fuse := fuse) (lost := lost) h8
  (refine enterK c_disk_Disk_burn (Nat.le_of_ble_eq_true rfl) fun K hK => ?_; (try simp (maxSteps := 1000000) (disch := first | omega | assumption | exact Nat.le_of_ble_eq_true rfl) only [go_sem, ↓mwp_block, simprocAttr, ir_disk_Disk_burn]))
  ((try clear F); have F := S.all; (try simp only [all_cons, all_nil, says_cell, and_true] at F))
  (try simp (maxSteps := 1000000) (disch := first | omega | assumption | exact Nat.le_of_ble_eq_true rfl) only [go_sem, ↓mwp_block, simprocAttr, F, hfu])
  by_cases hz : fuse = 0
  · (try simp (maxSteps := 1000000) (disch := first | omega | assumption | exact Nat.le_of_ble_eq_true rfl) only [go_sem, ↓mwp_block, simprocAttr])
    refine st_store S rfl rfl (by rw [dcells_len h8]; omega) ?_
    clear S F
    intro h S
    rw [dcells_setL h8] at S
    (try simp (maxSteps := 1000000) (disch := first | omega | assumption | exact Nat.le_of_ble_eq_true rfl) only [go_sem, ↓mwp_block, simprocAttr])
    exact hK _ _ (.inl ⟨hz, rfl, S⟩)
  · (try simp (maxSteps := 1000000) (disch := first | omega | assumption | exact Nat.le_of_ble_eq_true rfl) only [go_sem, ↓mwp_block, simprocAttr, F, hfu])
    by_cases hp : 0 < fuse
    · (try simp (maxSteps := 1000000) (disch := first | omega | assumption | exact Nat.le_of_ble_eq_true rfl) only [go_sem, ↓mwp_block, simprocAttr, F, hfu])
      refine st_store S rfl rfl (by rw [dcells_len h8]; omega) ?_
      clear S F
      intro h S
      rw [dcells_setF h8] at S
      (try simp (maxSteps := 1000000) (disch := first | omega | assumption | exact Nat.le_of_ble_eq_true rfl) only [go_sem, ↓mwp_block, simprocAttr])
      refine hK _ _ (.inr ⟨hz, rfl, ?_⟩)
      rw [burnF, if_pos hp]
      exact S
    · (try simp (maxSteps := 1000000) (disch := first | omega | assumption | exact Nat.le_of_ble_eq_true rfl) only [go_sem, ↓mwp_block, simprocAttr, F, hfu])
      refine hK _ _ (.inr ⟨hz, rfl, ?_⟩)
      rw [burnF, if_neg hp]
      exact S
theorem Fuse_nil (n : Int) (h : Heap) : CallsH Try.prog 31 [.pointer none, .int .i64 n] h fun v h' => v = .int .i64 1 ∧ h' = h := by
  (refine enterK c_disk_Disk_Fuse (Nat.le_of_ble_eq_true rfl) fun K hK => ?_; (try simp (maxSteps := 1000000) (disch := first | omega | assumption | exact Nat.le_of_ble_eq_true rfl) only [go_sem, ↓mwp_block, simprocAttr, ir_disk_Disk_Fuse]))
  exact hK _ _ ⟨rfl, rfl⟩
def fuseD (D : Dk) (n : Int) : Dk × Int := if D.lost then (D, 6) else if n < 0 then (D, 1) else ({ D with fuse := n }, 0)
theorem Fuse_ok (n : Int) {h0 h : Heap} {l : List HP} {d : Nat} {D : Dk} (S : St h0 h (diskA d D :: l)) :
    CallsH Try.prog 31 [.pointer (some ⟨d, 0, none⟩), .int .i64 n] h fun v h' => v = .int .i64 (fuseD D n).2 ∧ St h0 h' (diskA d (fuseD D n).1 :: l) := by
  obtain ⟨zs, hz, h8, S⟩ := diskA_open.1 S
  have hlo := dcells_lost (cap := D.cap) (fuse := D.fuse) (lost := D.lost) h8
  obtain ⟨cap, fs, fuse, lost⟩ := D
  simp only at hz S hlo
  (refine enterK c_disk_Disk_Fuse (Nat.le_of_ble_eq_true rfl) fun K hK => ?_; (try simp (maxSteps := 1000000) (disch := first | omega | assumption | exact Nat.le_of_ble_eq_true rfl) only [go_sem, ↓mwp_block, simprocAttr, ir_disk_Disk_Fuse]))
  ((try clear F); have F := S.all; (try simp only [all_cons, all_nil, says_cell, and_true] at F))
  (try simp (maxSteps := 1000000) (disch := first | omega | assumption | exact Nat.le_of_ble_eq_true rfl) only [go_sem, ↓mwp_block, simprocAttr, F, hlo])
  cases lost
  · by_cases hn : n < 0
    · (try simp (maxSteps := 1000000) (disch := first | omega | assumption | exact Nat.le_of_ble_eq_true rfl) only [go_sem, ↓mwp_block, simprocAttr])
      refine hK _ _ ?_
      simp only [fuseD, Bool.false_eq_true, if_false, if_pos hn]
      exact ⟨trivial, diskA_open.2 ⟨zs, hz, h8, S⟩⟩
    · (try simp (maxSteps := 1000000) (disch := first | omega | assumption | exact Nat.le_of_ble_eq_true rfl) only [go_sem, ↓mwp_block, simprocAttr])
      refine st_store S rfl rfl (by rw [dcells_len h8]; omega) ?_
      clear S F
      intro h S
      rw [dcells_setF h8] at S
      (try simp (maxSteps := 1000000) (disch := first | omega | assumption | exact Nat.le_of_ble_eq_true rfl) only [go_sem, ↓mwp_block, simprocAttr])
      refine hK _ _ ?_
      simp only [fuseD, Bool.false_eq_true, if_false, if_neg hn]
      exact ⟨trivial, diskA_open.2 ⟨zs, hz, h8, S⟩⟩
  · (try simp (maxSteps := 1000000) (disch := first | omega | assumption | exact Nat.le_of_ble_eq_true rfl) only [go_sem, ↓mwp_block, simprocAttr])
    refine hK _ _ ?_
    simp only [fuseD, if_true]
    exact ⟨trivial, diskA_open.2 ⟨zs, hz, h8, S⟩⟩
theorem there_nil (n : Int) (h : Heap) : CallsH Try.prog 68 [.pointer none, .int .i64 n] h fun v h' => v = .int .i64 1 ∧ h' = h := by
  (refine enterK c_disk_Disk_there (Nat.le_of_ble_eq_true rfl) fun K hK => ?_; (try simp (maxSteps := 1000000) (disch := first | omega | assumption | exact Nat.le_of_ble_eq_true rfl) only [go_sem, ↓mwp_block, simprocAttr, ir_disk_Disk_there]))
  refine call_intro (ask_nil n _) ?_
  rintro _ _ ⟨rfl, rfl⟩
  (try simp (maxSteps := 1000000) (disch := first | omega | assumption | exact Nat.le_of_ble_eq_true rfl) only [go_sem, ↓mwp_block, simprocAttr])
  exact hK _ _ ⟨rfl, rfl⟩
def thereE (D : Dk) (n : Int) : Int := if askE D n ≠ 0 then askE D n else if (fileOf D n).isNone then 7 else 0
theorem there_ok (n : Int) {h0 h : Heap} {l : List HP} {d : Nat} {D : Dk} (S : St h0 h (diskA d D :: l)) :
    CallsH Try.prog 68 [.pointer (some ⟨d, 0, none⟩), .int .i64 n] h fun v h' => v = .int .i64 (thereE D n) ∧ h' = h := by
  (refine enterK c_disk_Disk_there (Nat.le_of_ble_eq_true rfl) fun K hK => ?_; (try simp (maxSteps := 1000000) (disch := first | omega | assumption | exact Nat.le_of_ble_eq_true rfl) only [go_sem, ↓mwp_block, simprocAttr, ir_disk_Disk_there]))
  refine call_intro (ask_ok n S) ?_
  rintro _ _ ⟨rfl, rfl⟩
  obtain ⟨zs, hz, h8, S⟩ := diskA_open.1 S
  by_cases ha : askE D n = 0
  · have hn : 0 ≤ n ∧ n < 8 := by
      unfold askE at ha
      by_cases h : 0 ≤ n ∧ n < 8
      · exact h
      · rw [if_neg h] at ha
        split at ha <;> omega
    have hlt : n.toNat < zs.length := by omega
    have hc := dcells_at (cap := D.cap) (fuse := D.fuse) (lost := D.lost) hlt
    have hf := fileOf_at hz hn hlt
    unfold thereE at hK
    rw [hf, if_neg (by simp [ha])] at hK
    generalize zs[n.toNat] = z at hc hK
    obtain ⟨hn1, hn2⟩ := id hn
    ((try clear F); have F := S.all; (try simp only [all_cons, all_nil, says_cell, and_true] at F))
    cases z with
    | none =>
      (try simp (maxSteps := 1000000) (disch := first | omega | assumption | exact Nat.le_of_ble_eq_true rfl) only [go_sem, ↓mwp_block, simprocAttr, F, hc, Nat.mul_one, ptrOf, ha])
      exact hK _ _ ⟨rfl, rfl⟩
    | some z =>
      (try simp (maxSteps := 1000000) (disch := first | omega | assumption | exact Nat.le_of_ble_eq_true rfl) only [go_sem, ↓mwp_block, simprocAttr, F, hc, Nat.mul_one, ptrOf, ha])
      exact hK _ _ ⟨rfl, rfl⟩
  · (try simp (maxSteps := 1000000) (disch := first | omega | assumption | exact Nat.le_of_ble_eq_true rfl) only [go_sem, ↓mwp_block, simprocAttr])
    exact hK _ _ ⟨by rw [thereE, if_pos ha], rfl⟩
theorem Append_nil (n : Int) (v : Value) (h : Heap) : CallsH Try.prog 29 [.pointer none, .int .i64 n, v] h fun v h' => v = .int .i64 1 ∧ h' = h := by
  (refine enterK c_disk_Disk_Append (Nat.le_of_ble_eq_true rfl) fun K hK => ?_; (try simp (maxSteps := 1000000) (disch := first | omega | assumption | exact Nat.le_of_ble_eq_true rfl) only [go_sem, ↓mwp_block, simprocAttr, ir_disk_Disk_Append]))
  refine call_intro (ask_nil n _) ?_
  rintro _ _ ⟨rfl, rfl⟩
  (try simp (maxSteps := 1000000) (disch := first | omega | assumption | exact Nat.le_of_ble_eq_true rfl) only [go_sem, ↓mwp_block, simprocAttr])
  exact hK _ _ ⟨rfl, rfl⟩
end Go.Proofs.Ytackopkhelochaa.MX
