/- The reference's disk: what it has; New and Room. -/
import Derived.Test.YtackopkhelochaaDk7
namespace Go.Proofs.Ytackopkhelochaa.MX
open Go Go.Proofs
set_option linter.unusedSimpArgs false
set_option linter.unusedVariables false

section
variable {α : Type} {F : α → HP} {h0 h : Heap} {l : List HP} {X : HP} {zs : List α} {n : Nat}
/-- Of things in a row: one taken out; and put back, or another one for it. -/
theorem row_pick (hn : n < zs.length) (S : St h0 h (X :: (zs.map F ++ l))) : St h0 h (F zs[n] :: X :: ((zs.take n ++ zs.drop (n + 1)).map F ++ l)) := by
  refine S.perm ?_
  have e : zs = zs.take n ++ zs[n] :: zs.drop (n + 1) := by rw [← List.drop_eq_getElem_cons hn, List.take_append_drop]
  conv => lhs; rw [e]
  rw [List.map_append, List.map_append, List.map_cons, List.append_assoc, List.append_assoc, List.cons_append]
  exact (List.Perm.cons X List.perm_middle).trans (List.Perm.swap _ _ _)
theorem row_put {z : α} (hn : n < zs.length) (S : St h0 h (F z :: X :: ((zs.take n ++ zs.drop (n + 1)).map F ++ l))) : St h0 h (X :: ((zs.set n z).map F ++ l)) := by
  refine S.perm ?_
  rw [List.set_eq_take_append_cons_drop, if_pos hn, List.map_append, List.map_append, List.map_cons, List.append_assoc, List.append_assoc, List.cons_append]
  exact (List.Perm.swap _ _ _).trans (List.Perm.cons X List.perm_middle.symm)
/-- A thing in a row, and another one for it that stands beside. -/
theorem row_swap {z : α} (hn : n < zs.length) (S : St h0 h (X :: F z :: (zs.map F ++ l))) : St h0 h (X :: ((zs.set n z).map F ++ l)) := by
  have S1 : St h0 h (X :: (zs.map F ++ (F z :: l))) := S.perm (List.Perm.cons X List.perm_middle.symm)
  have S2 := (row_pick hn S1).tl
  have S3 : St h0 h (F z :: X :: ((zs.take n ++ zs.drop (n + 1)).map F ++ l)) := S2.perm ((List.Perm.cons X List.perm_middle).trans (List.Perm.swap _ _ _))
  exact row_put hn S3
end

/-- A file's slot: its slice, and what it is. -/
abbrev RSlot := Value × Option DF
def bsF : Option DF → List UInt8
  | none => []
  | some f => f.bs
def rslotA (z : RSlot) : HP := ownA bEnc 1 5 z.1 (bsF z.2)
def rcell (z : RSlot) : List Value := [.bool z.2.isSome, z.1, .int .i64 (safeF z.2)]
def rcells (cap : Int) (zs : List RSlot) (fuse : Int) (lost : Bool) : List Value := .int .i64 cap :: (zs.flatMap rcell ++ [.int .i64 fuse, .bool lost])
def refA (w : Nat) (D : Dk) : HP := exA fun zs : List RSlot => starsA (cellA w (rcells D.cap zs D.fuse D.lost) 116 :: pureA (zs.map Prod.snd = D.fs ∧ zs.length = 8) :: zs.map rslotA)
theorem refA_open {h0 h : Heap} {l : List HP} {w : Nat} {D : Dk} : St h0 h (refA w D :: l) ↔ ∃ zs : List RSlot, zs.map Prod.snd = D.fs ∧ zs.length = 8 ∧ St h0 h (cellA w (rcells D.cap zs D.fuse D.lost) 116 :: (zs.map rslotA ++ l)) := by
  refine St.ex.trans ⟨?_, ?_⟩
  · rintro ⟨zs, S⟩
    have S := St.stars.1 S
    simp only [List.cons_append] at S
    obtain ⟨hp, S⟩ := St.pure.1 S.p1
    exact ⟨zs, hp.1, hp.2, S⟩
  · rintro ⟨zs, h1, h2, S⟩
    refine ⟨zs, St.stars.2 ?_⟩
    simp only [List.cons_append]
    exact (St.pure.2 ⟨⟨h1, h2⟩, S⟩).p1
theorem rcell_len (z : RSlot) : (rcell z).length = 3 := rfl
theorem rflat_len (zs : List RSlot) : (zs.flatMap rcell).length = zs.length * 3 := flat_length rcell_len zs
theorem rcells_len {cap fuse : Int} {lost : Bool} {zs : List RSlot} (h8 : zs.length = 8) : (rcells cap zs fuse lost).length = 27 := by rw [rcells, List.length_cons, List.length_append, rflat_len, h8]; rfl
theorem rcells_at {cap fuse : Int} {lost : Bool} {zs : List RSlot} {n k : Nat} (hn : n < zs.length) (hk : k < 3) : (rcells cap zs fuse lost)[1 + n * 3 + k]? = (rcell zs[n])[k]? := by
  have h1 := flat_get rcell_len zs [.int .i64 fuse, .bool lost] n hn
  rw [rcells, show 1 + n * 3 + k = (n * 3 + k) + 1 by omega, List.getElem?_cons_succ, ← h1, List.getElem?_take, if_pos hk, List.getElem?_drop]
theorem rcells_fuse {cap fuse : Int} {lost : Bool} {zs : List RSlot} (h8 : zs.length = 8) : (rcells cap zs fuse lost)[25]? = some (.int .i64 fuse) := by
  rw [rcells, List.getElem?_cons_succ, List.getElem?_append_right (by rw [rflat_len, h8]; omega), rflat_len, h8]
  rfl
theorem rcells_lost {cap fuse : Int} {lost : Bool} {zs : List RSlot} (h8 : zs.length = 8) : (rcells cap zs fuse lost)[26]? = some (.bool lost) := by
  rw [rcells, List.getElem?_cons_succ, List.getElem?_append_right (by rw [rflat_len, h8]; omega), rflat_len, h8]
  rfl
theorem rcells_setL {cap fuse : Int} {lost v : Bool} {zs : List RSlot} (h8 : zs.length = 8) : splice (rcells cap zs fuse lost) 26 [.bool v] = rcells cap zs fuse v := by
  rw [splice, splice, rcells, rcells, List.set_cons_succ, List.set_append_right _ _ (by rw [rflat_len, h8]; omega), rflat_len, h8]
  rfl
theorem rcells_setF {cap fuse v : Int} {lost : Bool} {zs : List RSlot} (h8 : zs.length = 8) : splice (rcells cap zs fuse lost) 25 [.int .i64 v] = rcells cap zs v lost := by
  rw [splice, splice, rcells, rcells, List.set_cons_succ, List.set_append_right _ _ (by rw [rflat_len, h8]; omega), rflat_len, h8]
  rfl
theorem rcells_set {cap fuse : Int} {lost : Bool} {zs : List RSlot} {n : Nat} (hn : n < zs.length) (z : RSlot) : splice (rcells cap zs fuse lost) (1 + n * 3) (rcell z) = rcells cap (zs.set n z) fuse lost := by
  have h1 := flat_set rcell_len zs n z [.int .i64 fuse, .bool lost] hn
  have h2 : ∀ (x : Value) (vs c : List Value) (off : Nat), splice (x :: c) (off + 1) vs = x :: splice c off vs := by
    intro x vs
    induction vs with
    | nil => intro c off; rfl
    | cons v vs ih => intro c off; rw [splice, List.set_cons_succ, ih]; rfl
  rw [rcells, Nat.add_comm, h2, h1]
  rfl

theorem RNew_ok (c : Int) {h0 h : Heap} {l : List HP} (S : St h0 h l) :
    CallsH Try.prog 43 [.int .i64 c] h fun v h' => ∃ w, v = .pointer (some ⟨w, 0, none⟩) ∧ St h0 h' (refA w ⟨c, List.replicate 8 none, -1, false⟩ :: l) := by
  (refine enterK c_recoupref01_New (Nat.le_of_ble_eq_true rfl) fun K hK => ?_; (try simp (maxSteps := 1000000) (disch := first | omega | assumption | exact Nat.le_of_ble_eq_true rfl) only [go_sem, ↓mwp_block, simprocAttr, ir_recoupref01_New]))
  (refine st_alloc S ?_; clear S; intro w h S; (try simp only [splice_cons, splice_nil, List.set_cons_zero, List.set_cons_succ, Nat.zero_add, Nat.reduceAdd, List.cons_append, List.nil_append] at S); ((try clear F); have F := S.all; (try simp only [all_cons, all_nil, says_cell, and_true] at F)))
  (try simp (maxSteps := 1000000) (disch := first | omega | assumption | exact Nat.le_of_ble_eq_true rfl) only [go_sem, ↓mwp_block, simprocAttr])
  refine hK _ _ ⟨w, rfl, refA_open.2 ⟨List.replicate 8 (.slice none 0 0, none), rfl, rfl, ?_⟩⟩
  have N : ∀ {l : List HP}, St h0 h l → St h0 h (rslotA (.slice none 0 0, none) :: l) := fun S => S.nilS
  exact (N (N (N (N (N (N (N (N S)))))))).p8
theorem RRoom_ok {h0 h : Heap} {l : List HP} {w : Nat} {D : Dk} (S : St h0 h (refA w D :: l)) (ok : D.ok) :
    CallsH Try.prog 80 [.pointer (some ⟨w, 0, none⟩)] h fun v h' => v = .int .i64 (D.cap - used D.fs) ∧ h' = h := by
  have hcap := ok.cap
  have hroom := ok.room
  have hlen := ok.len
  (refine enterK c_recoupref01_Disk_Room (Nat.le_of_ble_eq_true rfl) fun K hK => ?_; (try simp (maxSteps := 1000000) (disch := first | omega | assumption | exact Nat.le_of_ble_eq_true rfl) only [go_sem, ↓mwp_block, simprocAttr, ir_recoupref01_Disk_Room]))
  obtain ⟨zs, hz, h8, S⟩ := refA_open.1 S
  ((try clear F); have F := S.all; (try simp only [all_cons, all_nil, says_cell, and_true] at F))
  have hc0 : (rcells D.cap zs D.fuse D.lost)[0]? = some (.int .i64 D.cap) := rfl
  (try simp (maxSteps := 1000000) (disch := first | omega | assumption | exact Nat.le_of_ble_eq_true rfl) only [go_sem, ↓mwp_block, simprocAttr, F, hc0])
  refine loop_intro (fun ρ h' => h' = h ∧ ρ 0 = .pointer (some ⟨w, 0, none⟩) ∧ ∃ i : Nat, ρ 9 = .int .i64 i ∧ i ≤ 8 ∧ ρ 3 = .int .i64 (D.cap - used (D.fs.take i))) (fun ρ _ => 8 - (iv (ρ 9)).toNat) ?_ ?_
  · (try simp (maxSteps := 1000000) (disch := first | omega | assumption | exact Nat.le_of_ble_eq_true rfl) only [go_sem, ↓mwp_block, simprocAttr])
    exact ⟨0, rfl, by omega, by simp [used]⟩
  · rintro ρ h' J hJ ⟨hh, e0, i, e9, hi, e3⟩
    subst hh
    (try simp (maxSteps := 1000000) (disch := first | omega | assumption | exact Nat.le_of_ble_eq_true rfl) only [go_sem, ↓mwp_block, simprocAttr, e9])
    refine cond_dec (fun hg => ?_) (fun hg => ?_)
    · have hi8 : i < D.fs.length := by omega
      have hlt : i < zs.length := by omega
      have hsu := used_take D.fs hi8
      have hle := used_take_le D.fs (i + 1)
      have hc := rcells_at (cap := D.cap) (fuse := D.fuse) (lost := D.lost) (k := 1) hlt (by omega)
      have hfs : D.fs[i] = (zs[i]).2 := by
        have : D.fs[i]? = (zs.map Prod.snd)[i]? := by rw [hz]
        rw [List.getElem?_map, List.getElem?_eq_getElem hi8, List.getElem?_eq_getElem hlt] at this
        exact Option.some.inj this
      have Sp := row_pick hlt S
      rw [hfs] at hsu
      generalize zs[i] = z at hc hsu Sp
      obtain ⟨s, o⟩ := z
      obtain ⟨B, e, hs⟩ := St.sl (xs := bsF o) Sp
      simp only at hs hsu
      subst hs
      have hso : szF o = (bsF o).length := by cases o <;> rfl
      rw [hso] at hsu
      simp only [rcell, List.getElem?_cons_succ, List.getElem?_cons_zero] at hc
      (try simp (maxSteps := 1000000) (disch := first | omega | assumption | exact Nat.le_of_ble_eq_true rfl) only [go_sem, ↓mwp_block, simprocAttr, e0, e9, e3, F, hc])
      refine hJ _ _ ?_ ?_
      · (try simp (maxSteps := 1000000) (disch := first | omega | assumption | exact Nat.le_of_ble_eq_true rfl) only [go_sem, ↓mwp_block, simprocAttr, e0, e9])
        refine ⟨i + 1, rfl, by omega, ?_⟩
        rw [hsu]
        congr 1
        omega
      · (try simp (maxSteps := 1000000) (disch := first | omega | assumption | exact Nat.le_of_ble_eq_true rfl) only [go_sem, ↓mwp_block, simprocAttr, e9])
        omega
    · obtain rfl : i = 8 := by omega
      (try simp (maxSteps := 1000000) (disch := first | omega | assumption | exact Nat.le_of_ble_eq_true rfl) only [go_sem, ↓mwp_block, simprocAttr, e3])
      exact hK _ _ ⟨by rw [← hlen, List.take_length], rfl⟩
end Go.Proofs.Ytackopkhelochaa.MX
