/- The disk: Sync, Cut, Remove, Read. -/
import Derived.Test.YtackopkhelochaaDk3
namespace Go.Proofs.Ytackopkhelochaa.MX
open Go Go.Proofs
set_option linter.unusedSimpArgs false
set_option linter.unusedVariables false

theorem there_in {D : Dk} {n : Int} (ht : thereE D n = 0) : askE D n = 0 ∧ D.lost = false ∧ (0 ≤ n ∧ n < 8) ∧ ∃ f, fileOf D n = some f := by
  unfold thereE at ht
  by_cases ha : askE D n = 0
  · rw [if_neg (by simp [ha])] at ht
    obtain ⟨h1, h2⟩ := ask_in ha
    refine ⟨ha, h1, h2, ?_⟩
    cases hf : fileOf D n with
    | none => rw [hf] at ht; simp at ht
    | some f => exact ⟨f, rfl⟩
  · rw [if_pos ha] at ht
    exact absurd ht ha
/-- A file that is there, taken out of its slot. -/
theorem disk_take {h0 h : Heap} {l : List HP} {d : Nat} {D : Dk} {n : Int} (S : St h0 h (diskA d D :: l)) (ht : thereE D n = 0) :
    ∃ (zs : List Slot) (p : Nat) (f : DF) (s : Value), zs.map dfOf = D.fs ∧ zs.length = 8 ∧ 0 ≤ n ∧ n < 8 ∧ fileOf D n = some f ∧ some f ∈ D.fs ∧ zs.set n.toNat (some (p, f)) = zs ∧
      (dcells D.cap zs D.fuse D.lost)[1 + n.toNat]? = some (.pointer (some ⟨p, 0, none⟩)) ∧ (∀ fu lo, (dcells D.cap zs fu lo)[1 + n.toNat]? = some (.pointer (some ⟨p, 0, none⟩))) ∧
      St h0 h (cellA p [s, .int .i64 f.safe] 101 :: ownA bEnc 1 5 s f.bs :: cellA d (dcells D.cap zs D.fuse D.lost) 99 :: ((zs.take n.toNat ++ zs.drop (n.toNat + 1)).map slotA ++ l)) := by
  obtain ⟨_, hlo, ⟨hn1, hn2⟩, f, hf⟩ := there_in ht
  obtain ⟨zs, hz, h8, S⟩ := diskA_open.1 S
  have hlt : n.toNat < zs.length := by omega
  have hfz := fileOf_at hz ⟨hn1, hn2⟩ hlt
  rw [hf] at hfz
  have hc := fun fu lo => dcells_at (cap := D.cap) (fuse := fu) (lost := lo) hlt
  have S := slot_pick hlt S
  have hset : zs.set n.toNat zs[n.toNat] = zs := List.set_getElem_self hlt
  have hmem : dfOf zs[n.toNat] ∈ D.fs := by rw [← hz]; exact List.mem_map_of_mem (List.getElem_mem hlt)
  generalize zs[n.toNat] = z at hfz hc S hset hmem
  cases z with
  | none => cases hfz
  | some z =>
    obtain ⟨p, f'⟩ := z
    cases hfz
    obtain ⟨s, S⟩ := fileA_open.1 S
    exact ⟨zs, p, f', s, hz, h8, hn1, hn2, hf, hmem, hset, hc _ _, hc, S⟩
theorem disk_back {h0 h : Heap} {l : List HP} {d : Nat} {cap fuse : Int} {lost : Bool} {zs : List Slot} {fs : List (Option DF)} {n p : Nat} {f f' : DF} {s : Value} (hz : zs.map dfOf = fs) (h8 : zs.length = 8) (hn : n < 8) (hset : zs.set n (some (p, f)) = zs)
    (S : St h0 h (cellA p [s, .int .i64 f'.safe] 101 :: ownA bEnc 1 5 s f'.bs :: cellA d (dcells cap zs fuse lost) 99 :: ((zs.take n ++ zs.drop (n + 1)).map slotA ++ l))) : St h0 h (diskA d ⟨cap, fs.set n (some f'), fuse, lost⟩ :: l) := by
  refine disk_close (p := p) (f := f') hz h8 (by omega) ?_
  rw [dcells_same _ f, hset]
  exact fileA_open.2 ⟨_, S⟩
theorem set_same {D : Dk} {n : Int} {f : DF} (hn1 : 0 ≤ n) (hn2 : n < 8) (hf : fileOf D n = some f) : D.fs.set n.toNat (some f) = D.fs := by
  rw [fileOf, if_pos ⟨hn1, hn2⟩, List.getD_eq_getElem?_getD] at hf
  rcases Nat.lt_or_ge n.toNat D.fs.length with h | h
  · rw [List.getElem?_eq_getElem h] at hf
    have : D.fs[n.toNat] = some f := hf
    rw [← this, List.set_getElem_self]
  · rw [List.getElem?_eq_none h] at hf
    cases hf

def syncD (D : Dk) (n : Int) : Dk × Int :=
  if thereE D n ≠ 0 then (D, thereE D n)
  else if D.fuse = 0 then ({ D with lost := true }, 6)
  else ({ D with fs := D.fs.set n.toNat (some ⟨((fileOf D n).getD ⟨[], 0⟩).bs, ((fileOf D n).getD ⟨[], 0⟩).bs.length⟩), fuse := burnF D.fuse }, 0)
theorem Sync_ok (n : Int) {h0 h : Heap} {l : List HP} {d : Nat} {D : Dk} (S : St h0 h (diskA d D :: l)) (ok : D.ok) :
    CallsH Try.prog 30 [.pointer (some ⟨d, 0, none⟩), .int .i64 n] h fun v h' => v = .int .i64 (syncD D n).2 ∧ St h0 h' (diskA d (syncD D n).1 :: l) := by
  (refine enterK c_disk_Disk_Sync (Nat.le_of_ble_eq_true rfl) fun K hK => ?_; (try simp (maxSteps := 1000000) (disch := first | omega | assumption | exact Nat.le_of_ble_eq_true rfl) only [go_sem, ↓mwp_block, simprocAttr, ir_disk_Disk_Sync]))
  refine call_intro (there_ok n S) ?_
  rintro _ _ ⟨rfl, rfl⟩
  by_cases ht : thereE D n = 0
  · obtain ⟨zs, p, f, s, hz, h8, hn1, hn2, hf, hm, hset, _, hc, S⟩ := disk_take S ht
    obtain ⟨B, e, rfl⟩ := S.p1.sl
    (try simp (maxSteps := 1000000) (disch := first | omega | assumption | exact Nat.le_of_ble_eq_true rfl) only [go_sem, ↓mwp_block, simprocAttr, ht])
    refine call_intro (burn_ok S.p2 h8 ok.fuse) ?_
    rintro _ h (⟨hz0, rfl, S⟩ | ⟨hz0, rfl, S⟩)
    · (try simp (maxSteps := 1000000) (disch := first | omega | assumption | exact Nat.le_of_ble_eq_true rfl) only [go_sem, ↓mwp_block, simprocAttr])
      refine hK _ _ ?_
      simp only [syncD, ht, ne_eq, not_true_eq_false, if_false, if_pos hz0]
      refine ⟨trivial, ?_⟩
      have := disk_back (f' := f) hz h8 (by omega) hset S.p1.p2.p1
      rwa [set_same hn1 hn2 hf] at this
    · ((try clear F); have F := S.all; (try simp only [all_cons, all_nil, says_cell, and_true] at F))
      (try simp (maxSteps := 1000000) (disch := first | omega | assumption | exact Nat.le_of_ble_eq_true rfl) only [go_sem, ↓mwp_block, simprocAttr])
      refine draw_eq ?_
      (try simp (maxSteps := 1000000) (disch := first | omega | assumption | exact Nat.le_of_ble_eq_true rfl) only [go_sem, ↓mwp_block, simprocAttr, F, hc, Nat.mul_one])
      refine st_store S.p1 rfl rfl (Nat.le_of_ble_eq_true rfl) ?_
      clear S F
      intro h S
      (try simp only [splice_cons, splice_nil, List.set_cons_zero, List.set_cons_succ, Nat.zero_add, Nat.reduceAdd, List.cons_append, List.nil_append] at S)
      (try simp (maxSteps := 1000000) (disch := first | omega | assumption | exact Nat.le_of_ble_eq_true rfl) only [go_sem, ↓mwp_block, simprocAttr])
      refine hK _ _ ?_
      simp only [syncD, ht, ne_eq, not_true_eq_false, if_false, if_neg hz0, hf, Option.getD_some]
      exact ⟨trivial, disk_back (f' := ⟨f.bs, f.bs.length⟩) hz h8 (by omega) hset S.p2.p1⟩
  · (try simp (maxSteps := 1000000) (disch := first | omega | assumption | exact Nat.le_of_ble_eq_true rfl) only [go_sem, ↓mwp_block, simprocAttr])
    refine hK _ _ ?_
    simp only [syncD, ne_eq, ht, not_false_eq_true, if_true]
    exact ⟨trivial, S⟩

def removeD (D : Dk) (n : Int) : Dk × Int :=
  if thereE D n ≠ 0 then (D, thereE D n)
  else if D.fuse = 0 then ({ D with lost := true }, 6)
  else ({ D with fs := D.fs.set n.toNat none, fuse := burnF D.fuse }, 0)
theorem Remove_ok (n : Int) {h0 h : Heap} {l : List HP} {d : Nat} {D : Dk} (S : St h0 h (diskA d D :: l)) (ok : D.ok) :
    CallsH Try.prog 79 [.pointer (some ⟨d, 0, none⟩), .int .i64 n] h fun v h' => v = .int .i64 (removeD D n).2 ∧ St h0 h' (diskA d (removeD D n).1 :: l) := by
  (refine enterK c_disk_Disk_Remove (Nat.le_of_ble_eq_true rfl) fun K hK => ?_; (try simp (maxSteps := 1000000) (disch := first | omega | assumption | exact Nat.le_of_ble_eq_true rfl) only [go_sem, ↓mwp_block, simprocAttr, ir_disk_Disk_Remove]))
  refine call_intro (there_ok n S) ?_
  rintro _ _ ⟨rfl, rfl⟩
  by_cases ht : thereE D n = 0
  · obtain ⟨zs, p, f, s, hz, h8, hn1, hn2, hf, hm, hset, _, hc, S⟩ := disk_take S ht
    (try simp (maxSteps := 1000000) (disch := first | omega | assumption | exact Nat.le_of_ble_eq_true rfl) only [go_sem, ↓mwp_block, simprocAttr, ht])
    refine call_intro (burn_ok S.p2 h8 ok.fuse) ?_
    rintro _ h (⟨hz0, rfl, S⟩ | ⟨hz0, rfl, S⟩)
    · (try simp (maxSteps := 1000000) (disch := first | omega | assumption | exact Nat.le_of_ble_eq_true rfl) only [go_sem, ↓mwp_block, simprocAttr])
      refine hK _ _ ?_
      simp only [removeD, ht, ne_eq, not_true_eq_false, if_false, if_pos hz0]
      refine ⟨trivial, ?_⟩
      have := disk_back (f' := f) hz h8 (by omega) hset S.p1.p2.p1
      rwa [set_same hn1 hn2 hf] at this
    · (try simp (maxSteps := 1000000) (disch := first | omega | assumption | exact Nat.le_of_ble_eq_true rfl) only [go_sem, ↓mwp_block, simprocAttr])
      refine st_store S rfl rfl (by rw [dcells_len h8]; omega) ?_
      clear S
      intro h S
      simp only [Nat.mul_one] at S
      rw [show [Value.pointer none] = [ptrOf none] from rfl, dcells_setP (by omega)] at S
      (try simp (maxSteps := 1000000) (disch := first | omega | assumption | exact Nat.le_of_ble_eq_true rfl) only [go_sem, ↓mwp_block, simprocAttr])
      refine hK _ _ ?_
      simp only [removeD, ht, ne_eq, not_true_eq_false, if_false, if_neg hz0]
      refine ⟨trivial, diskA_open.2 ⟨zs.set n.toNat none, ?_, by simpa using h8, slot_put (z := none) (by omega) (St.emp.2 S.d1.d1)⟩⟩
      simp only [List.map_set, hz]
      rfl
  · (try simp (maxSteps := 1000000) (disch := first | omega | assumption | exact Nat.le_of_ble_eq_true rfl) only [go_sem, ↓mwp_block, simprocAttr])
    refine hK _ _ ?_
    simp only [removeD, ne_eq, ht, not_false_eq_true, if_true]
    exact ⟨trivial, S⟩
theorem Read_ok (n : Int) {h0 h : Heap} {l : List HP} {d : Nat} {D : Dk} (S : St h0 h (diskA d D :: l)) (ok : D.ok) :
    CallsH Try.prog 34 [.pointer (some ⟨d, 0, none⟩), .int .i64 n] h fun v h' => (thereE D n ≠ 0 ∧ v = .tuple #[.slice none 0 0, .int .i64 (thereE D n)] ∧ St h0 h' (diskA d D :: l)) ∨
      (thereE D n = 0 ∧ ∃ s f, fileOf D n = some f ∧ v = .tuple #[s, .int .i64 0] ∧ St h0 h' (ownA bEnc 1 5 s f.bs :: diskA d D :: l)) := by
  (refine enterK c_disk_Disk_Read (Nat.le_of_ble_eq_true rfl) fun K hK => ?_; (try simp (maxSteps := 1000000) (disch := first | omega | assumption | exact Nat.le_of_ble_eq_true rfl) only [go_sem, ↓mwp_block, simprocAttr, ir_disk_Disk_Read]))
  refine call_intro (there_ok n S) ?_
  rintro _ _ ⟨rfl, rfl⟩
  by_cases ht : thereE D n = 0
  · have S0 := S
    obtain ⟨zs, p, f, s, hz, h8, hn1, hn2, hf, hm, hset, hc, _, S⟩ := disk_take S ht
    obtain ⟨B, e, rfl⟩ := S.p1.sl
    have hbl : f.bs.length ≤ used D.fs := by
      obtain ⟨k, hk, hkf⟩ := List.getElem_of_mem hm
      have := used_get hk
      rw [hkf] at this
      exact this
    have hro := ok.room
    have hcp := ok.cap
    ((try clear F); have F := S.all; (try simp only [all_cons, all_nil, says_cell, and_true] at F))
    (try simp (maxSteps := 1000000) (disch := first | omega | assumption | exact Nat.le_of_ble_eq_true rfl) only [go_sem, ↓mwp_block, simprocAttr, ht, F, hc, Nat.mul_one])
    refine call_intro (CloneB_ok S0 (S.p1.arr bEnc_len) rfl (ownNilA S.p1.own) (by omega)) ?_
    rintro v h ⟨S, _⟩
    (try simp (maxSteps := 1000000) (disch := first | omega | assumption | exact Nat.le_of_ble_eq_true rfl) only [go_sem, ↓mwp_block, simprocAttr])
    exact hK _ _ (.inr ⟨ht, v, f, hf, rfl, S⟩)
  · (try simp (maxSteps := 1000000) (disch := first | omega | assumption | exact Nat.le_of_ble_eq_true rfl) only [go_sem, ↓mwp_block, simprocAttr])
    exact hK _ _ (.inl ⟨ht, rfl, S⟩)
theorem Own.cut {α : Type} {enc : α → List Value} {sz T base : Nat} {h : Heap} {A : Option Addr} {m c n : Nat} {xs : List α} (ho : Own enc sz T base h (.slice A m c) xs) (hn : n ≤ xs.length) : Own enc sz T base h (.slice A n c) (xs.take n) := by
  rcases ho with ⟨hv, rfl⟩ | ⟨b, cap, cs, hv, hb, hle, h63, hblk, hl⟩
  · injection hv with e1 e2 e3
    subst e1 e3
    simp only [List.length_nil, Nat.le_zero] at hn
    subst hn
    exact .inl ⟨rfl, rfl⟩
  · injection hv with e1 e2 e3
    subst e1 e3
    have hlen : (xs.take n).length = n := by simp; omega
    have hfl : xs.flatMap enc = (xs.take n).flatMap enc ++ (xs.drop n).flatMap enc := flat_split enc xs n
    refine .inr ⟨b, c, (xs.drop n).flatMap enc ++ cs, by rw [hlen], hb, by rw [hlen]; omega, h63, ?_, ?_⟩
    · rw [← List.append_assoc, ← hfl]; exact hblk
    · rw [← List.append_assoc, ← hfl]; exact hl
theorem St.cut {α : Type} {enc : α → List Value} {sz T : Nat} {h0 h : Heap} {l : List HP} {A : Option Addr} {m c n : Nat} {xs : List α} (S : St h0 h (ownA enc sz T (.slice A m c) xs :: l)) (hn : n ≤ xs.length) : St h0 h (ownA enc sz T (.slice A n c) (xs.take n) :: l) :=
  S.ownUp (Fr.refl _ _) (S.own.cut hn) (fun b hb => .inl (by cases A <;> exact hb))
def cutD (D : Dk) (n m : Int) : Dk × Int :=
  if thereE D n ≠ 0 then (D, thereE D n)
  else if m < 0 ∨ (((fileOf D n).getD ⟨[], 0⟩).bs.length : Int) < m then (D, 1)
  else if D.fuse = 0 then ({ D with lost := true }, 6)
  else ({ D with fs := D.fs.set n.toNat (some ⟨((fileOf D n).getD ⟨[], 0⟩).bs.take m.toNat, m.toNat⟩), fuse := burnF D.fuse }, 0)
theorem Cut_ok (n m : Int) {h0 h : Heap} {l : List HP} {d : Nat} {D : Dk} (S : St h0 h (diskA d D :: l)) (ok : D.ok) :
    CallsH Try.prog 77 [.pointer (some ⟨d, 0, none⟩), .int .i64 n, .int .i64 m] h fun v h' => v = .int .i64 (cutD D n m).2 ∧ St h0 h' (diskA d (cutD D n m).1 :: l) := by
  (refine enterK c_disk_Disk_Cut (Nat.le_of_ble_eq_true rfl) fun K hK => ?_; (try simp (maxSteps := 1000000) (disch := first | omega | assumption | exact Nat.le_of_ble_eq_true rfl) only [go_sem, ↓mwp_block, simprocAttr, ir_disk_Disk_Cut]))
  refine call_intro (there_ok n S) ?_
  rintro _ _ ⟨rfl, rfl⟩
  by_cases ht : thereE D n = 0
  · have S0 := S
    obtain ⟨zs, p, f, s, hz, h8, hn1, hn2, hf, hm, hset, hc0, hc, S⟩ := disk_take S ht
    obtain ⟨B, e, rfl⟩ := S.p1.sl
    have hle := (S.p1.own.arr bEnc_len).2.2
    ((try clear F); have F := S.all; (try simp only [all_cons, all_nil, says_cell, and_true] at F))
    by_cases hm0 : m < 0
    · (try simp (maxSteps := 1000000) (disch := first | omega | assumption | exact Nat.le_of_ble_eq_true rfl) only [go_sem, ↓mwp_block, simprocAttr, ht, F, hc0, Nat.mul_one])
      refine hK _ _ ?_
      simp only [cutD, ht, ne_eq, not_true_eq_false, if_false, hf, Option.getD_some, if_pos (Or.inl hm0 : m < 0 ∨ (f.bs.length : Int) < m)]
      exact ⟨trivial, S0⟩
    by_cases hm1 : (f.bs.length : Int) < m
    · (try simp (maxSteps := 1000000) (disch := first | omega | assumption | exact Nat.le_of_ble_eq_true rfl) only [go_sem, ↓mwp_block, simprocAttr, ht, F, hc0, Nat.mul_one])
      refine hK _ _ ?_
      simp only [cutD, ht, ne_eq, not_true_eq_false, if_false, hf, Option.getD_some, if_pos (Or.inr hm1 : m < 0 ∨ (f.bs.length : Int) < m)]
      exact ⟨trivial, S0⟩
    · have hno : ¬ (m < 0 ∨ (f.bs.length : Int) < m) := by omega
      obtain ⟨k, rfl⟩ := Int.eq_ofNat_of_zero_le (show 0 ≤ m by omega)
      (try simp (maxSteps := 1000000) (disch := first | omega | assumption | exact Nat.le_of_ble_eq_true rfl) only [go_sem, ↓mwp_block, simprocAttr, ht, F, hc0, Nat.mul_one])
      refine call_intro (burn_ok S.p2 h8 ok.fuse) ?_
      rintro _ h (⟨hz0, rfl, S⟩ | ⟨hz0, rfl, S⟩)
      · (try simp (maxSteps := 1000000) (disch := first | omega | assumption | exact Nat.le_of_ble_eq_true rfl) only [go_sem, ↓mwp_block, simprocAttr])
        refine hK _ _ ?_
        simp only [cutD, ht, ne_eq, not_true_eq_false, if_false, hf, Option.getD_some, if_neg hno, if_pos hz0]
        refine ⟨trivial, ?_⟩
        have := disk_back (f' := f) hz h8 (by omega) hset S.p1.p2.p1
        rwa [set_same hn1 hn2 hf] at this
      · ((try clear F); have F := S.all; (try simp only [all_cons, all_nil, says_cell, and_true] at F))
        (try simp (maxSteps := 1000000) (disch := first | omega | assumption | exact Nat.le_of_ble_eq_true rfl) only [go_sem, ↓mwp_block, simprocAttr, F])
        refine st_store S.p1 rfl rfl (Nat.le_of_ble_eq_true rfl) ?_
        clear S F
        intro h S
        (try simp only [splice_cons, splice_nil, List.set_cons_zero, List.set_cons_succ, Nat.zero_add, Nat.reduceAdd, List.cons_append, List.nil_append] at S)
        (try simp (maxSteps := 1000000) (disch := first | omega | assumption | exact Nat.le_of_ble_eq_true rfl) only [go_sem, ↓mwp_block, simprocAttr])
        refine st_store S rfl rfl (Nat.le_of_ble_eq_true rfl) ?_
        clear S
        intro h S
        (try simp only [splice_cons, splice_nil, List.set_cons_zero, List.set_cons_succ, Nat.zero_add, Nat.reduceAdd, List.cons_append, List.nil_append] at S)
        (try simp (maxSteps := 1000000) (disch := first | omega | assumption | exact Nat.le_of_ble_eq_true rfl) only [go_sem, ↓mwp_block, simprocAttr])
        refine hK _ _ ?_
        simp only [cutD, ht, ne_eq, not_true_eq_false, if_false, hf, Option.getD_some, if_neg hno, if_neg hz0, Int.toNat_natCast]
        refine ⟨trivial, disk_back (f' := ⟨f.bs.take k, k⟩) hz h8 (by omega) hset ((S.p2.cut (n := k) (by omega)).p1)⟩
  · (try simp (maxSteps := 1000000) (disch := first | omega | assumption | exact Nat.le_of_ble_eq_true rfl) only [go_sem, ↓mwp_block, simprocAttr])
    refine hK _ _ ?_
    simp only [cutD, ne_eq, ht, not_false_eq_true, if_true]
    exact ⟨trivial, S⟩
end Go.Proofs.Ytackopkhelochaa.MX
