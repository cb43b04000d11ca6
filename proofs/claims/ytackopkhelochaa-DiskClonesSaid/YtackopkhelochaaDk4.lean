/- A nil disk; the law DiskNil. -/
import Derived.Test.YtackopkhelochaaDk3
import Derived.Test.YtackopkhelochaaMXP
namespace Go.Proofs.Ytackopkhelochaa.MX
open Go Go.Proofs
set_option linter.unusedSimpArgs false
set_option linter.unusedVariables false

theorem Sync_nil (n : Int) (h : Heap) : CallsH Try.prog 30 [.pointer none, .int .i64 n] h fun v h' => v = .int .i64 1 ∧ h' = h := by
  (refine enterK c_disk_Disk_Sync (Nat.le_of_ble_eq_true rfl) fun K hK => ?_; (try simp (maxSteps := 1000000) (disch := first | omega | assumption | exact Nat.le_of_ble_eq_true rfl) only [go_sem, ↓mwp_block, simprocAttr, ir_disk_Disk_Sync]))
  refine call_intro (there_nil n _) ?_
  rintro _ _ ⟨rfl, rfl⟩
  (try simp (maxSteps := 1000000) (disch := first | omega | assumption | exact Nat.le_of_ble_eq_true rfl) only [go_sem, ↓mwp_block, simprocAttr])
  exact hK _ _ ⟨rfl, rfl⟩
theorem Cut_nil (n m : Int) (h : Heap) : CallsH Try.prog 77 [.pointer none, .int .i64 n, .int .i64 m] h fun v h' => v = .int .i64 1 ∧ h' = h := by
  (refine enterK c_disk_Disk_Cut (Nat.le_of_ble_eq_true rfl) fun K hK => ?_; (try simp (maxSteps := 1000000) (disch := first | omega | assumption | exact Nat.le_of_ble_eq_true rfl) only [go_sem, ↓mwp_block, simprocAttr, ir_disk_Disk_Cut]))
  refine call_intro (there_nil n _) ?_
  rintro _ _ ⟨rfl, rfl⟩
  (try simp (maxSteps := 1000000) (disch := first | omega | assumption | exact Nat.le_of_ble_eq_true rfl) only [go_sem, ↓mwp_block, simprocAttr])
  exact hK _ _ ⟨rfl, rfl⟩
theorem Rename_nil (n m : Int) (h : Heap) : CallsH Try.prog 78 [.pointer none, .int .i64 n, .int .i64 m] h fun v h' => v = .int .i64 1 ∧ h' = h := by
  (refine enterK c_disk_Disk_Rename (Nat.le_of_ble_eq_true rfl) fun K hK => ?_; (try simp (maxSteps := 1000000) (disch := first | omega | assumption | exact Nat.le_of_ble_eq_true rfl) only [go_sem, ↓mwp_block, simprocAttr, ir_disk_Disk_Rename]))
  refine call_intro (ask_nil n _) ?_
  rintro _ _ ⟨rfl, rfl⟩
  (try simp (maxSteps := 1000000) (disch := first | omega | assumption | exact Nat.le_of_ble_eq_true rfl) only [go_sem, ↓mwp_block, simprocAttr])
  exact hK _ _ ⟨rfl, rfl⟩
theorem Remove_nil (n : Int) (h : Heap) : CallsH Try.prog 79 [.pointer none, .int .i64 n] h fun v h' => v = .int .i64 1 ∧ h' = h := by
  (refine enterK c_disk_Disk_Remove (Nat.le_of_ble_eq_true rfl) fun K hK => ?_; (try simp (maxSteps := 1000000) (disch := first | omega | assumption | exact Nat.le_of_ble_eq_true rfl) only [go_sem, ↓mwp_block, simprocAttr, ir_disk_Disk_Remove]))
  refine call_intro (there_nil n _) ?_
  rintro _ _ ⟨rfl, rfl⟩
  (try simp (maxSteps := 1000000) (disch := first | omega | assumption | exact Nat.le_of_ble_eq_true rfl) only [go_sem, ↓mwp_block, simprocAttr])
  exact hK _ _ ⟨rfl, rfl⟩
theorem Read_nil (n : Int) (h : Heap) : CallsH Try.prog 34 [.pointer none, .int .i64 n] h fun v h' => v = .tuple #[.slice none 0 0, .int .i64 1] ∧ h' = h := by
  (refine enterK c_disk_Disk_Read (Nat.le_of_ble_eq_true rfl) fun K hK => ?_; (try simp (maxSteps := 1000000) (disch := first | omega | assumption | exact Nat.le_of_ble_eq_true rfl) only [go_sem, ↓mwp_block, simprocAttr, ir_disk_Disk_Read]))
  refine call_intro (there_nil n _) ?_
  rintro _ _ ⟨rfl, rfl⟩
  (try simp (maxSteps := 1000000) (disch := first | omega | assumption | exact Nat.le_of_ble_eq_true rfl) only [go_sem, ↓mwp_block, simprocAttr])
  exact hK _ _ ⟨rfl, rfl⟩
theorem CloneD_nil (h : Heap) : CallsH Try.prog 49 [.pointer none] h fun v h' => v = .pointer none ∧ h' = h := by
  (refine enterK c_disk_Disk_Clone (Nat.le_of_ble_eq_true rfl) fun K hK => ?_; (try simp (maxSteps := 1000000) (disch := first | omega | assumption | exact Nat.le_of_ble_eq_true rfl) only [go_sem, ↓mwp_block, simprocAttr, ir_disk_Disk_Clone]))
  exact hK _ _ ⟨rfl, rfl⟩
theorem Restart_nil (keep : List Value) (h : Heap) : CallsH Try.prog 33 [.pointer none, .agg keep.toArray] h fun v h' => Fr h h' [] := by
  have S := St.nil h
  (refine enterK c_disk_Disk_Restart (Nat.le_of_ble_eq_true rfl) fun K hK => ?_; (try simp (maxSteps := 1000000) (disch := first | omega | assumption | exact Nat.le_of_ble_eq_true rfl) only [go_sem, ↓mwp_block, simprocAttr, ir_disk_Disk_Restart]))
  (refine st_alloc S ?_; clear S; intro b h S; (try simp only [splice_cons, splice_nil, List.set_cons_zero, List.set_cons_succ, Nat.zero_add, Nat.reduceAdd, List.cons_append, List.nil_append] at S); ((try clear F); have F := S.all; (try simp only [all_cons, all_nil, says_cell, and_true] at F)))
  (try simp (maxSteps := 1000000) (disch := first | omega | assumption | exact Nat.le_of_ble_eq_true rfl) only [go_sem, ↓mwp_block, simprocAttr])
  exact hK _ _ S.fr

/-- An act's cells. -/
structure DAct where
  kind : Int
  a : Int
  b : Int
  dA : Option Addr
  dn : Nat
  dc : Nat
  k0 : Int
  k1 : Int
  k2 : Int
  k3 : Int
  k4 : Int
  k5 : Int
  k6 : Int
  k7 : Int
def DAct.keep (x : DAct) : List Value := [.int .i64 x.k0, .int .i64 x.k1, .int .i64 x.k2, .int .i64 x.k3, .int .i64 x.k4, .int .i64 x.k5, .int .i64 x.k6, .int .i64 x.k7]
def DAct.enc (x : DAct) : List Value := [.int .u8 x.kind, .int .i64 x.a, .int .i64 x.b, .slice x.dA x.dn x.dc, .int .i64 x.k0, .int .i64 x.k1, .int .i64 x.k2, .int .i64 x.k3, .int .i64 x.k4, .int .i64 x.k5, .int .i64 x.k6, .int .i64 x.k7]
def DAct.ok (x : DAct) : Prop := (0 ≤ x.kind ∧ x.kind < 256) ∧ I64 x.a ∧ I64 x.b
theorem goodS_slice {P : Program} {h : Heap} {e : Nat} {v : Value} (hg : GoodS P h e v) : ∃ A n c, v = .slice A n c := by
  rcases hg with rfl | ⟨a, len, cap, d, rfl, _⟩
  · exact ⟨_, _, _, rfl⟩
  · exact ⟨_, _, _, rfl⟩
theorem dact_of {h : Heap} {d : Nat} {cs : List Value} (hg : Good Try.prog h d 74 cs) : ∃ x : DAct, cs = x.enc ∧ x.ok := by
  have hl : leaves Try.prog 3 74 = some [.int .u8, .int .i64, .int .i64, .slice 5, .int .i64, .int .i64, .int .i64, .int .i64, .int .i64, .int .i64, .int .i64, .int .i64] := by kernel_rfl
  obtain ⟨k, _, rfl, w0, a, _, rfl, w1, b, _, rfl, w2, v, _, rfl, g, k0, _, rfl, _, k1, _, rfl, _, k2, _, rfl, _, k3, _, rfl, _, k4, _, rfl, _, k5, _, rfl, _, k6, _, rfl, _, k7, _, rfl, _, rfl⟩ := leaves_of 3 hg hl
  obtain ⟨A, n, c, rfl⟩ := goodS_slice g
  exact ⟨⟨k, a, b, A, n, c, k0, k1, k2, k3, k4, k5, k6, k7⟩, rfl, wf_u8 w0, wf_i64 w1, wf_i64 w2⟩

theorem do_nil (x : DAct) (h : Heap) : CallsH Try.prog 44 [.pointer none, .agg x.enc.toArray] h fun v h' => v = .int .i64 (if x.kind > 5 ∨ x.kind < 0 then 0 else 1) ∧ Fr h h' [] := by
  have S := St.nil h
  (refine enterK c_recouplaw01_do (Nat.le_of_ble_eq_true rfl) fun K hK => ?_; (try simp (maxSteps := 1000000) (disch := first | omega | assumption | exact Nat.le_of_ble_eq_true rfl) only [go_sem, ↓mwp_block, simprocAttr, ir_recouplaw01_do]))
  (refine st_alloc S ?_; clear S; intro b h S; (try simp only [splice_cons, splice_nil, List.set_cons_zero, List.set_cons_succ, Nat.zero_add, Nat.reduceAdd, List.cons_append, List.nil_append] at S); ((try clear F); have F := S.all; (try simp only [all_cons, all_nil, says_cell, and_true] at F)))
  (try simp (maxSteps := 1000000) (disch := first | omega | assumption | exact Nat.le_of_ble_eq_true rfl) only [go_sem, ↓mwp_block, simprocAttr, F, DAct.enc])
  by_cases e0 : x.kind = 0
  · (try simp (maxSteps := 1000000) (disch := first | omega | assumption | exact Nat.le_of_ble_eq_true rfl) only [go_sem, ↓mwp_block, simprocAttr, F, DAct.enc])
    refine call_intro (Append_nil _ _ _) ?_
    rintro _ _ ⟨rfl, rfl⟩
    (try simp (maxSteps := 1000000) (disch := first | omega | assumption | exact Nat.le_of_ble_eq_true rfl) only [go_sem, ↓mwp_block, simprocAttr])
    exact hK _ _ ⟨by rw [if_neg (by omega)], S.fr⟩
  by_cases e1 : x.kind = 1
  · (try simp (maxSteps := 1000000) (disch := first | omega | assumption | exact Nat.le_of_ble_eq_true rfl) only [go_sem, ↓mwp_block, simprocAttr, F, DAct.enc])
    refine call_intro (Sync_nil _ _) ?_
    rintro _ _ ⟨rfl, rfl⟩
    (try simp (maxSteps := 1000000) (disch := first | omega | assumption | exact Nat.le_of_ble_eq_true rfl) only [go_sem, ↓mwp_block, simprocAttr])
    exact hK _ _ ⟨by rw [if_neg (by omega)], S.fr⟩
  by_cases e2 : x.kind = 2
  · (try simp (maxSteps := 1000000) (disch := first | omega | assumption | exact Nat.le_of_ble_eq_true rfl) only [go_sem, ↓mwp_block, simprocAttr, F, DAct.enc])
    refine call_intro (Cut_nil _ _ _) ?_
    rintro _ _ ⟨rfl, rfl⟩
    (try simp (maxSteps := 1000000) (disch := first | omega | assumption | exact Nat.le_of_ble_eq_true rfl) only [go_sem, ↓mwp_block, simprocAttr])
    exact hK _ _ ⟨by rw [if_neg (by omega)], S.fr⟩
  by_cases e3 : x.kind = 3
  · (try simp (maxSteps := 1000000) (disch := first | omega | assumption | exact Nat.le_of_ble_eq_true rfl) only [go_sem, ↓mwp_block, simprocAttr, F, DAct.enc])
    refine call_intro (Rename_nil _ _ _) ?_
    rintro _ _ ⟨rfl, rfl⟩
    (try simp (maxSteps := 1000000) (disch := first | omega | assumption | exact Nat.le_of_ble_eq_true rfl) only [go_sem, ↓mwp_block, simprocAttr])
    exact hK _ _ ⟨by rw [if_neg (by omega)], S.fr⟩
  by_cases e4 : x.kind = 4
  · (try simp (maxSteps := 1000000) (disch := first | omega | assumption | exact Nat.le_of_ble_eq_true rfl) only [go_sem, ↓mwp_block, simprocAttr, F, DAct.enc])
    refine call_intro (Remove_nil _ _) ?_
    rintro _ _ ⟨rfl, rfl⟩
    (try simp (maxSteps := 1000000) (disch := first | omega | assumption | exact Nat.le_of_ble_eq_true rfl) only [go_sem, ↓mwp_block, simprocAttr])
    exact hK _ _ ⟨by rw [if_neg (by omega)], S.fr⟩
  by_cases e5 : x.kind = 5
  · (try simp (maxSteps := 1000000) (disch := first | omega | assumption | exact Nat.le_of_ble_eq_true rfl) only [go_sem, ↓mwp_block, simprocAttr, F, DAct.enc])
    refine call_intro (Fuse_nil _ _) ?_
    rintro _ _ ⟨rfl, rfl⟩
    (try simp (maxSteps := 1000000) (disch := first | omega | assumption | exact Nat.le_of_ble_eq_true rfl) only [go_sem, ↓mwp_block, simprocAttr])
    exact hK _ _ ⟨by rw [if_neg (by omega)], S.fr⟩
  (try simp (maxSteps := 1000000) (disch := first | omega | assumption | exact Nat.le_of_ble_eq_true rfl) only [go_sem, ↓mwp_block, simprocAttr, F, DAct.enc])
  refine call_intro (Restart_nil _ _) ?_
  intro _ h hf
  (try simp (maxSteps := 1000000) (disch := first | omega | assumption | exact Nat.le_of_ble_eq_true rfl) only [go_sem, ↓mwp_block, simprocAttr])
  exact hK _ _ ⟨by rw [if_pos (by omega)], (S.frame hf).fr⟩

theorem okD0 : (⟨10, List.replicate 8 none, -1, false⟩ : Dk).ok :=
  ⟨rfl, by decide, by decide, by decide, by simp⟩
theorem awake01_ok (h0 : Heap) : CallsH Try.prog 27 [] h0 fun v h' => v = .bool true ∧ Fr h0 h' [] := by
  have S := St.nil h0
  (refine enterK c_recouplaw01_awake (Nat.le_of_ble_eq_true rfl) fun K hK => ?_; (try simp (maxSteps := 1000000) (disch := first | omega | assumption | exact Nat.le_of_ble_eq_true rfl) only [go_sem, ↓mwp_block, simprocAttr, ir_recouplaw01_awake]))
  refine call_intro (New_ok 10 S) ?_
  rintro _ h (⟨_, _, d, rfl, S⟩ | ⟨hn, _⟩)
  · (try simp (maxSteps := 1000000) (disch := first | omega | assumption | exact Nat.le_of_ble_eq_true rfl) only [go_sem, ↓mwp_block, simprocAttr, zerosL])
    (refine st_alloc S ?_; clear S; intro b h S; (try simp only [splice_cons, splice_nil, List.set_cons_zero, List.set_cons_succ, Nat.zero_add, Nat.reduceAdd, List.cons_append, List.nil_append] at S); ((try clear F); have F := S.all; (try simp only [all_cons, all_nil, says_cell, and_true] at F)))
    (try simp (maxSteps := 1000000) (disch := first | omega | assumption | exact Nat.le_of_ble_eq_true rfl) only [go_sem, ↓mwp_block, simprocAttr])
    refine any_b2b (e := 5) rfl (by kernel_rfl) (by kernel_rfl) rfl S ?_
    clear S F
    intro h S
    (try simp (maxSteps := 1000000) (disch := first | omega | assumption | exact Nat.le_of_ble_eq_true rfl) only [go_sem, ↓mwp_block, simprocAttr])
    have ha : ∀ h', St h0 h' [markA b [Value.int .u8 97, Value.int .u8 98, Value.int .u8 99] 5] → Arr bEnc 1 h' (some ⟨b, 0, none⟩) [97, 98, 99] := fun h' S => St.markArr (enc := bEnc) (sz := 1) (ys := [97, 98, 99]) bEnc_len S
    refine call_intro (Append_ok (bs := [97, 98, 99]) 1 S.p1 okD0 ha (Nat.le_refl _) (by decide)) ?_
    rintro _ h ⟨rfl, S⟩
    have e1 : (appendD ⟨10, List.replicate 8 none, -1, false⟩ 1 [97, 98, 99]).2 = 0 := by decide
    rw [e1]
    (try simp (maxSteps := 1000000) (disch := first | omega | assumption | exact Nat.le_of_ble_eq_true rfl) only [go_sem, ↓mwp_block, simprocAttr])
    refine call_intro (Size_ok 1 S) ?_
    rintro _ _ ⟨rfl, rfl⟩
    have e2 : szF (fileOf (appendD ⟨10, List.replicate 8 none, -1, false⟩ 1 [97, 98, 99]).1 1) = 3 := by decide
    rw [e2]
    (try simp (maxSteps := 1000000) (disch := first | omega | assumption | exact Nat.le_of_ble_eq_true rfl) only [go_sem, ↓mwp_block, simprocAttr])
    refine call_intro (Safe_ok 1 S) ?_
    rintro _ _ ⟨rfl, rfl⟩
    have e3 : safeF (fileOf (appendD ⟨10, List.replicate 8 none, -1, false⟩ 1 [97, 98, 99]).1 1) = 0 := by decide
    rw [e3]
    (try simp (maxSteps := 1000000) (disch := first | omega | assumption | exact Nat.le_of_ble_eq_true rfl) only [go_sem, ↓mwp_block, simprocAttr])
    exact hK _ _ ⟨rfl, S.fr⟩
  · exact absurd ⟨by decide, by decide⟩ hn

set_option maxHeartbeats 4000000 in
theorem DiskNil_ok (x : DAct) (h : Heap) (hx : x.ok) : CallsH Try.prog 14 [.agg x.enc.toArray] h fun v h' => v = .bool true ∧ Fr h h' [] := by
  have S := St.nil h
  (refine enterK c_recouplaw01_DiskNil (Nat.le_of_ble_eq_true rfl) fun K hK => ?_; (try simp (maxSteps := 1000000) (disch := first | omega | assumption | exact Nat.le_of_ble_eq_true rfl) only [go_sem, ↓mwp_block, simprocAttr, ir_recouplaw01_DiskNil]))
  (refine st_alloc S ?_; clear S; intro b h S; (try simp only [splice_cons, splice_nil, List.set_cons_zero, List.set_cons_succ, Nat.zero_add, Nat.reduceAdd, List.cons_append, List.nil_append] at S); ((try clear F); have F := S.all; (try simp only [all_cons, all_nil, says_cell, and_true] at F)))
  (try simp (maxSteps := 1000000) (disch := first | omega | assumption | exact Nat.le_of_ble_eq_true rfl) only [go_sem, ↓mwp_block, simprocAttr])
  refine call_intro (awake01_ok _) ?_
  rintro _ h ⟨rfl, hf⟩
  have S := S.frame hf
  ((try clear F); have F := S.all; (try simp only [all_cons, all_nil, says_cell, and_true] at F))
  (try simp (maxSteps := 1000000) (disch := first | omega | assumption | exact Nat.le_of_ble_eq_true rfl) only [go_sem, ↓mwp_block, simprocAttr, F, DAct.enc])
  refine call_intro (do_nil x _) ?_
  rintro _ h ⟨rfl, hf⟩
  have S := S.frame hf
  ((try clear F); have F := S.all; (try simp only [all_cons, all_nil, says_cell, and_true] at F))
  (try simp (maxSteps := 1000000) (disch := first | omega | assumption | exact Nat.le_of_ble_eq_true rfl) only [go_sem, ↓mwp_block, simprocAttr, F, DAct.enc])
  refine call_intro (Read_nil _ _) ?_
  rintro _ _ ⟨rfl, rfl⟩
  obtain ⟨⟨hk0, hk1⟩, _⟩ := hx
  by_cases h5 : x.kind > 5
  · rw [if_pos (.inl h5)]
    (try simp (maxSteps := 1000000) (disch := first | omega | assumption | exact Nat.le_of_ble_eq_true rfl) only [go_sem, ↓mwp_block, simprocAttr, F, DAct.enc])
    refine call_intro (Has_nil _ _) ?_
    rintro _ _ ⟨rfl, rfl⟩
    (try simp (maxSteps := 1000000) (disch := first | omega | assumption | exact Nat.le_of_ble_eq_true rfl) only [go_sem, ↓mwp_block, simprocAttr, F, DAct.enc])
    refine call_intro (Size_nil _ _) ?_
    rintro _ _ ⟨rfl, rfl⟩
    (try simp (maxSteps := 1000000) (disch := first | omega | assumption | exact Nat.le_of_ble_eq_true rfl) only [go_sem, ↓mwp_block, simprocAttr, F, DAct.enc])
    refine call_intro (Safe_nil _ _) ?_
    rintro _ _ ⟨rfl, rfl⟩
    (try simp (maxSteps := 1000000) (disch := first | omega | assumption | exact Nat.le_of_ble_eq_true rfl) only [go_sem, ↓mwp_block, simprocAttr])
    refine call_intro (Room_nil _) ?_
    rintro _ _ ⟨rfl, rfl⟩
    (try simp (maxSteps := 1000000) (disch := first | omega | assumption | exact Nat.le_of_ble_eq_true rfl) only [go_sem, ↓mwp_block, simprocAttr])
    refine call_intro (Lost_nil _) ?_
    rintro _ _ ⟨rfl, rfl⟩
    (try simp (maxSteps := 1000000) (disch := first | omega | assumption | exact Nat.le_of_ble_eq_true rfl) only [go_sem, ↓mwp_block, simprocAttr])
    refine call_intro (CloneD_nil _) ?_
    rintro _ _ ⟨rfl, rfl⟩
    (try simp (maxSteps := 1000000) (disch := first | omega | assumption | exact Nat.le_of_ble_eq_true rfl) only [go_sem, ↓mwp_block, simprocAttr])
    exact hK _ _ ⟨rfl, S.fr⟩
  · rw [if_neg (by omega)]
    (try simp (maxSteps := 1000000) (disch := first | omega | assumption | exact Nat.le_of_ble_eq_true rfl) only [go_sem, ↓mwp_block, simprocAttr, F, DAct.enc])
    refine call_intro (Has_nil _ _) ?_
    rintro _ _ ⟨rfl, rfl⟩
    (try simp (maxSteps := 1000000) (disch := first | omega | assumption | exact Nat.le_of_ble_eq_true rfl) only [go_sem, ↓mwp_block, simprocAttr, F, DAct.enc])
    refine call_intro (Size_nil _ _) ?_
    rintro _ _ ⟨rfl, rfl⟩
    (try simp (maxSteps := 1000000) (disch := first | omega | assumption | exact Nat.le_of_ble_eq_true rfl) only [go_sem, ↓mwp_block, simprocAttr, F, DAct.enc])
    refine call_intro (Safe_nil _ _) ?_
    rintro _ _ ⟨rfl, rfl⟩
    (try simp (maxSteps := 1000000) (disch := first | omega | assumption | exact Nat.le_of_ble_eq_true rfl) only [go_sem, ↓mwp_block, simprocAttr])
    refine call_intro (Room_nil _) ?_
    rintro _ _ ⟨rfl, rfl⟩
    (try simp (maxSteps := 1000000) (disch := first | omega | assumption | exact Nat.le_of_ble_eq_true rfl) only [go_sem, ↓mwp_block, simprocAttr])
    refine call_intro (Lost_nil _) ?_
    rintro _ _ ⟨rfl, rfl⟩
    (try simp (maxSteps := 1000000) (disch := first | omega | assumption | exact Nat.le_of_ble_eq_true rfl) only [go_sem, ↓mwp_block, simprocAttr])
    refine call_intro (CloneD_nil _) ?_
    rintro _ _ ⟨rfl, rfl⟩
    (try simp (maxSteps := 1000000) (disch := first | omega | assumption | exact Nat.le_of_ble_eq_true rfl) only [go_sem, ↓mwp_block, simprocAttr])
    exact hK _ _ ⟨rfl, S.fr⟩
end Go.Proofs.Ytackopkhelochaa.MX
