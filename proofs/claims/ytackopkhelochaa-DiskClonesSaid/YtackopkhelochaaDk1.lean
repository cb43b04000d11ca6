/- The disk: what it has, and the methods that look. -/
import Derived.Test.YtackopkhelochaaCd1
import Derived.Test.YtackopkhelochaaMk1
namespace Go.Proofs.Ytackopkhelochaa.MX
open Go Go.Proofs
set_option linter.unusedSimpArgs false
set_option linter.unusedVariables false

/-- A file: its bytes, how many are safe. -/
structure DF where
  bs : List UInt8
  safe : Nat
structure Dk where
  cap : Int
  fs : List (Option DF)
  fuse : Int
  lost : Bool
def szF : Option DF → Nat
  | none => 0
  | some f => f.bs.length
def used (fs : List (Option DF)) : Nat := (fs.map szF).sum
structure Dk.ok (D : Dk) : Prop where
  len : D.fs.length = 8
  cap : 0 ≤ D.cap ∧ D.cap ≤ 1048576
  room : (used D.fs : Int) ≤ D.cap
  fuse : -1 ≤ D.fuse ∧ D.fuse < 9223372036854775808
  safe : ∀ f, some f ∈ D.fs → f.safe ≤ f.bs.length

def fileA (p : Nat) (f : DF) : HP := exA fun s => starsA [cellA p [s, .int .i64 f.safe] 101, ownA bEnc 1 5 s f.bs]
theorem fileA_open {h0 h : Heap} {l : List HP} {p : Nat} {f : DF} : St h0 h (fileA p f :: l) ↔ ∃ s, St h0 h (cellA p [s, .int .i64 f.safe] 101 :: ownA bEnc 1 5 s f.bs :: l) :=
  St.ex.trans (exists_congr fun _ => St.stars)
abbrev Slot := Option (Nat × DF)
def slotA : Slot → HP
  | none => empA
  | some (p, f) => fileA p f
def ptrOf : Slot → Value
  | none => .pointer none
  | some (p, _) => .pointer (some ⟨p, 0, none⟩)
def dfOf (z : Slot) : Option DF := z.map Prod.snd
def dcells (cap : Int) (zs : List Slot) (fuse : Int) (lost : Bool) : List Value := .int .i64 cap :: (zs.map ptrOf ++ [.int .i64 fuse, .bool lost])
def diskA (d : Nat) (D : Dk) : HP := exA fun zs : List Slot => starsA (cellA d (dcells D.cap zs D.fuse D.lost) 99 :: pureA (zs.map dfOf = D.fs ∧ zs.length = 8) :: zs.map slotA)
theorem diskA_open {h0 h : Heap} {l : List HP} {d : Nat} {D : Dk} : St h0 h (diskA d D :: l) ↔ ∃ zs : List Slot, zs.map dfOf = D.fs ∧ zs.length = 8 ∧ St h0 h (cellA d (dcells D.cap zs D.fuse D.lost) 99 :: (zs.map slotA ++ l)) := by
  refine St.ex.trans ⟨?_, ?_⟩
  · rintro ⟨zs, S⟩
    have S := St.stars.1 S
    simp only [List.cons_append] at S
    obtain ⟨hp, S⟩ := St.pure.1 S.p1
    exact ⟨zs, hp.1, hp.2, S⟩
  · rintro ⟨zs, h1, h2, S⟩
    refine ⟨zs, St.stars.2 ?_⟩
    simp only [List.cons_append]
    exact (St.pure.2 ⟨⟨h1, h2⟩, S⟩).p1
/-- The slot at a place, and the others; and back. -/
theorem slot_pick {h0 h : Heap} {l : List HP} {X : HP} {zs : List Slot} {n : Nat} (hn : n < zs.length) (S : St h0 h (X :: (zs.map slotA ++ l))) : St h0 h (slotA zs[n] :: X :: ((zs.take n ++ zs.drop (n + 1)).map slotA ++ l)) := by
  refine S.perm ?_
  have e : zs = zs.take n ++ zs[n] :: zs.drop (n + 1) := by rw [← List.drop_eq_getElem_cons hn, List.take_append_drop]
  conv => lhs; rw [e]
  rw [List.map_append, List.map_append, List.map_cons, List.append_assoc, List.append_assoc, List.cons_append]
  exact (List.Perm.cons X List.perm_middle).trans (List.Perm.swap _ _ _)
theorem slot_put {h0 h : Heap} {l : List HP} {X : HP} {zs : List Slot} {n : Nat} {z : Slot} (hn : n < zs.length) (S : St h0 h (slotA z :: X :: ((zs.take n ++ zs.drop (n + 1)).map slotA ++ l))) : St h0 h (X :: ((zs.set n z).map slotA ++ l)) := by
  refine S.perm ?_
  rw [List.set_eq_take_append_cons_drop, if_pos hn, List.map_append, List.map_append, List.map_cons, List.append_assoc, List.append_assoc, List.cons_append]
  exact (List.Perm.swap _ _ _).trans (List.Perm.cons X List.perm_middle.symm)
theorem dcells_at {cap fuse : Int} {lost : Bool} {zs : List Slot} {n : Nat} (hn : n < zs.length) : (dcells cap zs fuse lost)[1 + n]? = some (ptrOf zs[n]) := by
  rw [dcells, Nat.add_comm, List.getElem?_cons_succ, List.getElem?_append_left (by simpa using hn), List.getElem?_map, List.getElem?_eq_getElem hn]
  rfl
theorem dcells_fuse {cap fuse : Int} {lost : Bool} {zs : List Slot} (h8 : zs.length = 8) : (dcells cap zs fuse lost)[9]? = some (.int .i64 fuse) := by
  rw [dcells, List.getElem?_cons_succ, List.getElem?_append_right (by simp [h8])]
  simp [h8]
theorem dcells_lost {cap fuse : Int} {lost : Bool} {zs : List Slot} (h8 : zs.length = 8) : (dcells cap zs fuse lost)[10]? = some (.bool lost) := by
  rw [dcells, List.getElem?_cons_succ, List.getElem?_append_right (by simp [h8])]
  simp [h8]
theorem dcells_cap {cap fuse : Int} {lost : Bool} {zs : List Slot} : (dcells cap zs fuse lost)[0]? = some (.int .i64 cap) := rfl
theorem dcells_len {cap fuse : Int} {lost : Bool} {zs : List Slot} (h8 : zs.length = 8) : (dcells cap zs fuse lost).length = 11 := by simp [dcells, h8]
theorem dcells_setL {cap fuse : Int} {lost v : Bool} {zs : List Slot} (h8 : zs.length = 8) : splice (dcells cap zs fuse lost) 10 [.bool v] = dcells cap zs fuse v := by
  rw [splice, splice, dcells, dcells, List.set_cons_succ, List.set_append_right _ _ (by simp [h8])]
  simp [h8]
theorem dcells_setF {cap fuse v : Int} {lost : Bool} {zs : List Slot} (h8 : zs.length = 8) : splice (dcells cap zs fuse lost) 9 [.int .i64 v] = dcells cap zs v lost := by
  rw [splice, splice, dcells, dcells, List.set_cons_succ, List.set_append_right _ _ (by simp [h8])]
  simp [h8]
theorem dcells_setP {cap fuse : Int} {lost : Bool} {zs : List Slot} {n : Nat} (hn : n < zs.length) (z : Slot) : splice (dcells cap zs fuse lost) (1 + n) [ptrOf z] = dcells cap (zs.set n z) fuse lost := by
  rw [splice, splice, dcells, dcells, Nat.add_comm, List.set_cons_succ, List.set_append_left _ _ (by simpa using hn), List.map_set]

theorem is_ok (n : Int) (h : Heap) : CallsH Try.prog 82 [.int .i64 n] h fun v h' => v = .bool (dcd (0 ≤ n ∧ n < 8)) ∧ h' = h := by
  by_cases h0 : 0 ≤ n
  · by_cases h1 : n < 8
    · (refine enterK c_disk_is (Nat.le_of_ble_eq_true rfl) fun K hK => ?_; (try simp (maxSteps := 1000000) (disch := first | omega | assumption | exact Nat.le_of_ble_eq_true rfl) only [go_sem, ↓mwp_block, simprocAttr, ir_disk_is]))
      exact hK _ _ ⟨by rw [dcd_true ⟨h0, h1⟩], rfl⟩
    · (refine enterK c_disk_is (Nat.le_of_ble_eq_true rfl) fun K hK => ?_; (try simp (maxSteps := 1000000) (disch := first | omega | assumption | exact Nat.le_of_ble_eq_true rfl) only [go_sem, ↓mwp_block, simprocAttr, ir_disk_is]))
      exact hK _ _ ⟨by rw [dcd_false (fun h => h1 h.2)], rfl⟩
  · (refine enterK c_disk_is (Nat.le_of_ble_eq_true rfl) fun K hK => ?_; (try simp (maxSteps := 1000000) (disch := first | omega | assumption | exact Nat.le_of_ble_eq_true rfl) only [go_sem, ↓mwp_block, simprocAttr, ir_disk_is]))
    exact hK _ _ ⟨by rw [dcd_false (fun h => h0 h.1)], rfl⟩

/-- What is wrong with a call for a file. -/
def askE (D : Dk) (n : Int) : Int := if D.lost then 6 else if 0 ≤ n ∧ n < 8 then 0 else 1
theorem ask_nil (n : Int) (h : Heap) : CallsH Try.prog 66 [.pointer none, .int .i64 n] h fun v h' => v = .int .i64 1 ∧ h' = h := by
  (refine enterK c_disk_Disk_ask (Nat.le_of_ble_eq_true rfl) fun K hK => ?_; (try simp (maxSteps := 1000000) (disch := first | omega | assumption | exact Nat.le_of_ble_eq_true rfl) only [go_sem, ↓mwp_block, simprocAttr, ir_disk_Disk_ask]))
  exact hK _ _ ⟨rfl, rfl⟩
theorem ask_ok (n : Int) {h0 h : Heap} {l : List HP} {d : Nat} {D : Dk} (S : St h0 h (diskA d D :: l)) :
    CallsH Try.prog 66 [.pointer (some ⟨d, 0, none⟩), .int .i64 n] h fun v h' => v = .int .i64 (askE D n) ∧ h' = h := by
  obtain ⟨zs, hz, h8, S⟩ := diskA_open.1 S
  (refine enterK c_disk_Disk_ask (Nat.le_of_ble_eq_true rfl) fun K hK => ?_; (try simp (maxSteps := 1000000) (disch := first | omega | assumption | exact Nat.le_of_ble_eq_true rfl) only [go_sem, ↓mwp_block, simprocAttr, ir_disk_Disk_ask]))
  ((try clear F); have F := S.all; (try simp only [all_cons, all_nil, says_cell, and_true] at F))
  have hlo := dcells_lost (cap := D.cap) (fuse := D.fuse) (lost := D.lost) h8
  cases hd : D.lost
  · rw [hd] at F hlo
    (try simp (maxSteps := 1000000) (disch := first | omega | assumption | exact Nat.le_of_ble_eq_true rfl) only [go_sem, ↓mwp_block, simprocAttr, F, hlo])
    refine call_intro (is_ok n _) ?_
    rintro _ _ ⟨rfl, rfl⟩
    by_cases hn : 0 ≤ n ∧ n < 8
    · (try simp (maxSteps := 1000000) (disch := first | omega | assumption | exact Nat.le_of_ble_eq_true rfl) only [go_sem, ↓mwp_block, simprocAttr])
      exact hK _ _ ⟨by simp [askE, hd, hn], rfl⟩
    · (try simp (maxSteps := 1000000) (disch := first | omega | assumption | exact Nat.le_of_ble_eq_true rfl) only [go_sem, ↓mwp_block, simprocAttr])
      exact hK _ _ ⟨by simp [askE, hd, hn], rfl⟩
  · rw [hd] at F hlo
    (try simp (maxSteps := 1000000) (disch := first | omega | assumption | exact Nat.le_of_ble_eq_true rfl) only [go_sem, ↓mwp_block, simprocAttr, F, hlo])
    exact hK _ _ ⟨by simp [askE, hd], rfl⟩

/-- Whether a file is there, its size, how much of it is safe. -/
def fileOf (D : Dk) (n : Int) : Option DF := if 0 ≤ n ∧ n < 8 then (D.fs.getD n.toNat none) else none
theorem fileOf_at {D : Dk} {zs : List Slot} {n : Int} (hz : zs.map dfOf = D.fs) (hn : 0 ≤ n ∧ n < 8) (hl : n.toNat < zs.length) : fileOf D n = dfOf zs[n.toNat] := by
  rw [fileOf, if_pos hn, ← hz, List.getD_eq_getElem?_getD, List.getElem?_map, List.getElem?_eq_getElem hl]
  rfl
theorem Has_nil (n : Int) (h : Heap) : CallsH Try.prog 50 [.pointer none, .int .i64 n] h fun v h' => v = .bool false ∧ h' = h := by
  (refine enterK c_disk_Disk_Has (Nat.le_of_ble_eq_true rfl) fun K hK => ?_; (try simp (maxSteps := 1000000) (disch := first | omega | assumption | exact Nat.le_of_ble_eq_true rfl) only [go_sem, ↓mwp_block, simprocAttr, ir_disk_Disk_Has]))
  exact hK _ _ ⟨rfl, rfl⟩
theorem Has_ok (n : Int) {h0 h : Heap} {l : List HP} {d : Nat} {D : Dk} (S : St h0 h (diskA d D :: l)) :
    CallsH Try.prog 50 [.pointer (some ⟨d, 0, none⟩), .int .i64 n] h fun v h' => v = .bool (fileOf D n).isSome ∧ h' = h := by
  obtain ⟨zs, hz, h8, S⟩ := diskA_open.1 S
  (refine enterK c_disk_Disk_Has (Nat.le_of_ble_eq_true rfl) fun K hK => ?_; (try simp (maxSteps := 1000000) (disch := first | omega | assumption | exact Nat.le_of_ble_eq_true rfl) only [go_sem, ↓mwp_block, simprocAttr, ir_disk_Disk_Has]))
  ((try clear F); have F := S.all; (try simp only [all_cons, all_nil, says_cell, and_true] at F))
  refine call_intro (is_ok n _) ?_
  rintro _ _ ⟨rfl, rfl⟩
  by_cases hn : 0 ≤ n ∧ n < 8
  · have hlt : n.toNat < zs.length := by omega
    have hc := dcells_at (cap := D.cap) (fuse := D.fuse) (lost := D.lost) hlt
    have hf := fileOf_at hz hn hlt
    rw [hf] at hK
    generalize zs[n.toNat] = z at hc hK
    obtain ⟨hn1, hn2⟩ := id hn
    cases z with
    | none =>
      (try simp (maxSteps := 1000000) (disch := first | omega | assumption | exact Nat.le_of_ble_eq_true rfl) only [go_sem, ↓mwp_block, simprocAttr, F, hc, Nat.mul_one, ptrOf])
      exact hK _ _ ⟨rfl, rfl⟩
    | some z =>
      (try simp (maxSteps := 1000000) (disch := first | omega | assumption | exact Nat.le_of_ble_eq_true rfl) only [go_sem, ↓mwp_block, simprocAttr, F, hc, Nat.mul_one, ptrOf])
      exact hK _ _ ⟨rfl, rfl⟩
  · (try simp (maxSteps := 1000000) (disch := first | omega | assumption | exact Nat.le_of_ble_eq_true rfl) only [go_sem, ↓mwp_block, simprocAttr])
    exact hK _ _ ⟨by rw [fileOf, if_neg hn]; rfl, rfl⟩
theorem Size_nil (n : Int) (h : Heap) : CallsH Try.prog 51 [.pointer none, .int .i64 n] h fun v h' => v = .int .i64 0 ∧ h' = h := by
  (refine enterK c_disk_Disk_Size (Nat.le_of_ble_eq_true rfl) fun K hK => ?_; (try simp (maxSteps := 1000000) (disch := first | omega | assumption | exact Nat.le_of_ble_eq_true rfl) only [go_sem, ↓mwp_block, simprocAttr, ir_disk_Disk_Size]))
  refine call_intro (Has_nil n _) ?_
  rintro _ _ ⟨rfl, rfl⟩
  (try simp (maxSteps := 1000000) (disch := first | omega | assumption | exact Nat.le_of_ble_eq_true rfl) only [go_sem, ↓mwp_block, simprocAttr])
  exact hK _ _ ⟨rfl, rfl⟩
theorem Size_ok (n : Int) {h0 h : Heap} {l : List HP} {d : Nat} {D : Dk} (S : St h0 h (diskA d D :: l)) :
    CallsH Try.prog 51 [.pointer (some ⟨d, 0, none⟩), .int .i64 n] h fun v h' => v = .int .i64 (szF (fileOf D n)) ∧ h' = h := by
  (refine enterK c_disk_Disk_Size (Nat.le_of_ble_eq_true rfl) fun K hK => ?_; (try simp (maxSteps := 1000000) (disch := first | omega | assumption | exact Nat.le_of_ble_eq_true rfl) only [go_sem, ↓mwp_block, simprocAttr, ir_disk_Disk_Size]))
  refine call_intro (Has_ok n S) ?_
  rintro _ _ ⟨rfl, rfl⟩
  obtain ⟨zs, hz, h8, S⟩ := diskA_open.1 S
  by_cases hn : 0 ≤ n ∧ n < 8
  · have hlt : n.toNat < zs.length := by omega
    have hc := dcells_at (cap := D.cap) (fuse := D.fuse) (lost := D.lost) hlt
    have hf := fileOf_at hz hn hlt
    have S := slot_pick hlt S
    rw [hf] at hK ⊢
    generalize zs[n.toNat] = z at hc S hK ⊢
    obtain ⟨hn1, hn2⟩ := id hn
    cases z with
    | none =>
      (try simp (maxSteps := 1000000) (disch := first | omega | assumption | exact Nat.le_of_ble_eq_true rfl) only [go_sem, ↓mwp_block, simprocAttr, dfOf, Option.map_none, Option.isSome_none])
      exact hK _ _ ⟨rfl, rfl⟩
    | some z =>
      obtain ⟨p, f⟩ := z
      obtain ⟨s, S⟩ := fileA_open.1 S
      obtain ⟨A, c, rfl⟩ := S.p1.sl
      ((try clear F); have F := S.all; (try simp only [all_cons, all_nil, says_cell, and_true] at F))
      (try simp (maxSteps := 1000000) (disch := first | omega | assumption | exact Nat.le_of_ble_eq_true rfl) only [go_sem, ↓mwp_block, simprocAttr, dfOf, Option.map_some, Option.isSome_some, F, hc, Nat.mul_one, ptrOf])
      exact hK _ _ ⟨rfl, rfl⟩
  · have hf : fileOf D n = none := by rw [fileOf, if_neg hn]
    rw [hf] at hK ⊢
    (try simp (maxSteps := 1000000) (disch := first | omega | assumption | exact Nat.le_of_ble_eq_true rfl) only [go_sem, ↓mwp_block, simprocAttr, Option.isSome_none])
    exact hK _ _ ⟨rfl, rfl⟩
def safeF : Option DF → Nat
  | none => 0
  | some f => f.safe
theorem Safe_nil (n : Int) (h : Heap) : CallsH Try.prog 32 [.pointer none, .int .i64 n] h fun v h' => v = .int .i64 0 ∧ h' = h := by
  (refine enterK c_disk_Disk_Safe (Nat.le_of_ble_eq_true rfl) fun K hK => ?_; (try simp (maxSteps := 1000000) (disch := first | omega | assumption | exact Nat.le_of_ble_eq_true rfl) only [go_sem, ↓mwp_block, simprocAttr, ir_disk_Disk_Safe]))
  refine call_intro (Has_nil n _) ?_
  rintro _ _ ⟨rfl, rfl⟩
  (try simp (maxSteps := 1000000) (disch := first | omega | assumption | exact Nat.le_of_ble_eq_true rfl) only [go_sem, ↓mwp_block, simprocAttr])
  exact hK _ _ ⟨rfl, rfl⟩
theorem Safe_ok (n : Int) {h0 h : Heap} {l : List HP} {d : Nat} {D : Dk} (S : St h0 h (diskA d D :: l)) :
    CallsH Try.prog 32 [.pointer (some ⟨d, 0, none⟩), .int .i64 n] h fun v h' => v = .int .i64 (safeF (fileOf D n)) ∧ h' = h := by
  (refine enterK c_disk_Disk_Safe (Nat.le_of_ble_eq_true rfl) fun K hK => ?_; (try simp (maxSteps := 1000000) (disch := first | omega | assumption | exact Nat.le_of_ble_eq_true rfl) only [go_sem, ↓mwp_block, simprocAttr, ir_disk_Disk_Safe]))
  refine call_intro (Has_ok n S) ?_
  rintro _ _ ⟨rfl, rfl⟩
  obtain ⟨zs, hz, h8, S⟩ := diskA_open.1 S
  by_cases hn : 0 ≤ n ∧ n < 8
  · have hlt : n.toNat < zs.length := by omega
    have hc := dcells_at (cap := D.cap) (fuse := D.fuse) (lost := D.lost) hlt
    have hf := fileOf_at hz hn hlt
    have S := slot_pick hlt S
    rw [hf] at hK ⊢
    generalize zs[n.toNat] = z at hc S hK ⊢
    obtain ⟨hn1, hn2⟩ := id hn
    cases z with
    | none =>
      (try simp (maxSteps := 1000000) (disch := first | omega | assumption | exact Nat.le_of_ble_eq_true rfl) only [go_sem, ↓mwp_block, simprocAttr, dfOf, Option.map_none, Option.isSome_none])
      exact hK _ _ ⟨rfl, rfl⟩
    | some z =>
      obtain ⟨p, f⟩ := z
      obtain ⟨s, S⟩ := fileA_open.1 S
      ((try clear F); have F := S.all; (try simp only [all_cons, all_nil, says_cell, and_true] at F))
      (try simp (maxSteps := 1000000) (disch := first | omega | assumption | exact Nat.le_of_ble_eq_true rfl) only [go_sem, ↓mwp_block, simprocAttr, dfOf, Option.map_some, Option.isSome_some, F, hc, Nat.mul_one, ptrOf])
      exact hK _ _ ⟨rfl, rfl⟩
  · have hf : fileOf D n = none := by rw [fileOf, if_neg hn]
    rw [hf] at hK ⊢
    (try simp (maxSteps := 1000000) (disch := first | omega | assumption | exact Nat.le_of_ble_eq_true rfl) only [go_sem, ↓mwp_block, simprocAttr, Option.isSome_none])
    exact hK _ _ ⟨rfl, rfl⟩
theorem Lost_nil (h : Heap) : CallsH Try.prog 53 [.pointer none] h fun v h' => v = .bool false ∧ h' = h := by
  (refine enterK c_disk_Disk_Lost (Nat.le_of_ble_eq_true rfl) fun K hK => ?_; (try simp (maxSteps := 1000000) (disch := first | omega | assumption | exact Nat.le_of_ble_eq_true rfl) only [go_sem, ↓mwp_block, simprocAttr, ir_disk_Disk_Lost]))
  exact hK _ _ ⟨rfl, rfl⟩
theorem Lost_ok {h0 h : Heap} {l : List HP} {d : Nat} {D : Dk} (S : St h0 h (diskA d D :: l)) :
    CallsH Try.prog 53 [.pointer (some ⟨d, 0, none⟩)] h fun v h' => v = .bool D.lost ∧ h' = h := by
  obtain ⟨zs, hz, h8, S⟩ := diskA_open.1 S
  have hlo := dcells_lost (cap := D.cap) (fuse := D.fuse) (lost := D.lost) h8
  (refine enterK c_disk_Disk_Lost (Nat.le_of_ble_eq_true rfl) fun K hK => ?_; (try simp (maxSteps := 1000000) (disch := first | omega | assumption | exact Nat.le_of_ble_eq_true rfl) only [go_sem, ↓mwp_block, simprocAttr, ir_disk_Disk_Lost]))
  ((try clear F); have F := S.all; (try simp only [all_cons, all_nil, says_cell, and_true] at F))
  (try simp (maxSteps := 1000000) (disch := first | omega | assumption | exact Nat.le_of_ble_eq_true rfl) only [go_sem, ↓mwp_block, simprocAttr, F, hlo])
  cases hd : D.lost
  · (try simp (maxSteps := 1000000) (disch := first | omega | assumption | exact Nat.le_of_ble_eq_true rfl) only [go_sem, ↓mwp_block, simprocAttr])
    exact hK _ _ ⟨by rw [hd], rfl⟩
  · (try simp (maxSteps := 1000000) (disch := first | omega | assumption | exact Nat.le_of_ble_eq_true rfl) only [go_sem, ↓mwp_block, simprocAttr])
    exact hK _ _ ⟨by rw [hd], rfl⟩
theorem Room_nil (h : Heap) : CallsH Try.prog 52 [.pointer none] h fun v h' => v = .int .i64 0 ∧ h' = h := by
  (refine enterK c_disk_Disk_Room (Nat.le_of_ble_eq_true rfl) fun K hK => ?_; (try simp (maxSteps := 1000000) (disch := first | omega | assumption | exact Nat.le_of_ble_eq_true rfl) only [go_sem, ↓mwp_block, simprocAttr, ir_disk_Disk_Room]))
  exact hK _ _ ⟨rfl, rfl⟩
theorem used_take (fs : List (Option DF)) {i : Nat} (hi : i < fs.length) : used (fs.take (i + 1)) = used (fs.take i) + szF fs[i] := by
  unfold used
  rw [List.take_succ_eq_append_getElem hi, List.map_append, List.sum_append]
  simp
theorem used_take_le (fs : List (Option DF)) (i : Nat) : used (fs.take i) ≤ used fs := by
  have : used fs = used (fs.take i) + used (fs.drop i) := by
    unfold used
    rw [← List.sum_append, ← List.map_append, List.take_append_drop]
  omega
theorem Room_ok {h0 h : Heap} {l : List HP} {d : Nat} {D : Dk} (S : St h0 h (diskA d D :: l)) (ok : D.ok) :
    CallsH Try.prog 52 [.pointer (some ⟨d, 0, none⟩)] h fun v h' => v = .int .i64 (D.cap - used D.fs) ∧ h' = h := by
  have hcap := ok.cap
  have hroom := ok.room
  have hlen := ok.len
  (refine enterK c_disk_Disk_Room (Nat.le_of_ble_eq_true rfl) fun K hK => ?_; (try simp (maxSteps := 1000000) (disch := first | omega | assumption | exact Nat.le_of_ble_eq_true rfl) only [go_sem, ↓mwp_block, simprocAttr, ir_disk_Disk_Room]))
  obtain ⟨zs, hz, h8, S'⟩ := diskA_open.1 S
  have F := S'.all
  simp only [all_cons, says_cell] at F
  have hc0 : (dcells D.cap zs D.fuse D.lost)[0]? = some (.int .i64 D.cap) := rfl
  (try simp (maxSteps := 1000000) (disch := first | omega | assumption | exact Nat.le_of_ble_eq_true rfl) only [go_sem, ↓mwp_block, simprocAttr, F, hc0])
  refine loop_intro (fun ρ h' => h' = h ∧ ρ 0 = .pointer (some ⟨d, 0, none⟩) ∧ ∃ i : Nat, ρ 11 = .int .i64 i ∧ i ≤ 8 ∧ ρ 3 = .int .i64 (D.cap - used (D.fs.take i))) (fun ρ _ => 8 - (iv (ρ 11)).toNat) ?_ ?_
  · (try simp (maxSteps := 1000000) (disch := first | omega | assumption | exact Nat.le_of_ble_eq_true rfl) only [go_sem, ↓mwp_block, simprocAttr])
    exact ⟨0, rfl, by omega, by simp [used]⟩
  · rintro ρ h' J hJ ⟨hh, e0, i, e11, hi, e3⟩
    subst hh
    (try simp (maxSteps := 1000000) (disch := first | omega | assumption | exact Nat.le_of_ble_eq_true rfl) only [go_sem, ↓mwp_block, simprocAttr, e11])
    refine cond_dec (fun hg => ?_) (fun hg => ?_)
    · have hi8 : i < D.fs.length := by omega
      have hsu := used_take D.fs hi8
      have hle := used_take_le D.fs (i + 1)
      have hfo : fileOf D i = D.fs[i] := by
        rw [fileOf, if_pos (by omega), Int.toNat_natCast, List.getD_eq_getElem?_getD, List.getElem?_eq_getElem hi8]
        rfl
      (try simp (maxSteps := 1000000) (disch := first | omega | assumption | exact Nat.le_of_ble_eq_true rfl) only [go_sem, ↓mwp_block, simprocAttr, e0, e11, e3])
      refine call_intro (Size_ok i S) ?_
      rintro _ _ ⟨rfl, rfl⟩
      rw [hfo]
      (try simp (maxSteps := 1000000) (disch := first | omega | assumption | exact Nat.le_of_ble_eq_true rfl) only [go_sem, ↓mwp_block, simprocAttr, e11])
      refine hJ _ _ ?_ ?_
      · (try simp (maxSteps := 1000000) (disch := first | omega | assumption | exact Nat.le_of_ble_eq_true rfl) only [go_sem, ↓mwp_block, simprocAttr, e0, e11])
        refine ⟨i + 1, rfl, by omega, ?_⟩
        rw [hsu]
        congr 1
        omega
      · (try simp (maxSteps := 1000000) (disch := first | omega | assumption | exact Nat.le_of_ble_eq_true rfl) only [go_sem, ↓mwp_block, simprocAttr, e11])
        omega
    · obtain rfl : i = 8 := by omega
      (try simp (maxSteps := 1000000) (disch := first | omega | assumption | exact Nat.le_of_ble_eq_true rfl) only [go_sem, ↓mwp_block, simprocAttr, e3])
      exact hK _ _ ⟨by rw [← hlen, List.take_length], rfl⟩
end Go.Proofs.Ytackopkhelochaa.MX
