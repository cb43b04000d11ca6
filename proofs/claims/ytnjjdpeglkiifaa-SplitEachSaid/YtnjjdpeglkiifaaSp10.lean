/- Split: the comparison of what is left. -/
import Derived.Test.YtnjjdpeglkiifaaSp9
import Derived.Test.YtnjjdpeglkiifaaSp3
namespace Go.Proofs.Ytnjjdpeglkiifaa.MX
open Go Go.Proofs
set_option linter.unusedSimpArgs false
set_option linter.unusedVariables false
set_option maxHeartbeats 4000000
def cmpU (a b : Int) : Int := if a < b then -1 else if b < a then 1 else 0
theorem isNaNU_ok (a : Int) (h : Heap) : CallsH Try.prog 100 [.int .u64 a] h fun v h' => v = .bool false ∧ h' = h := by
  (refine enterK c_cmp_isNaN_uint64 (Nat.le_of_ble_eq_true rfl) fun K hK => ?_; (try simp (maxSteps := 1000000) (disch := first | omega | assumption | exact Nat.le_of_ble_eq_true rfl) only [go_sem, ↓mwp_block, simprocAttr, ir_cmp_isNaN_uint64]))
  exact hK _ _ ⟨rfl, rfl⟩
theorem CompareU_ok (a b : Int) (h : Heap) : CallsH Try.prog 69 [.int .u64 a, .int .u64 b] h fun v h' => v = .int .i64 (cmpU a b) ∧ h' = h := by
  unfold cmpU
  by_cases h1 : a < b
  · (refine enterK c_cmp_Compare_uint64 (Nat.le_of_ble_eq_true rfl) fun K hK => ?_; (try simp (maxSteps := 1000000) (disch := first | omega | assumption | exact Nat.le_of_ble_eq_true rfl) only [go_sem, ↓mwp_block, simprocAttr, ir_cmp_Compare_uint64]))
    refine call_intro (isNaNU_ok _ _) ?_
    rintro _ _ ⟨rfl, rfl⟩
    (try simp (maxSteps := 1000000) (disch := first | omega | assumption | exact Nat.le_of_ble_eq_true rfl) only [go_sem, ↓mwp_block, simprocAttr])
    refine call_intro (isNaNU_ok _ _) ?_
    rintro _ _ ⟨rfl, rfl⟩
    (try simp (maxSteps := 1000000) (disch := first | omega | assumption | exact Nat.le_of_ble_eq_true rfl) only [go_sem, ↓mwp_block, simprocAttr, h1])
    exact hK _ _ ⟨by simp [h1], rfl⟩
  · by_cases h2 : b < a
    · (refine enterK c_cmp_Compare_uint64 (Nat.le_of_ble_eq_true rfl) fun K hK => ?_; (try simp (maxSteps := 1000000) (disch := first | omega | assumption | exact Nat.le_of_ble_eq_true rfl) only [go_sem, ↓mwp_block, simprocAttr, ir_cmp_Compare_uint64]))
      refine call_intro (isNaNU_ok _ _) ?_
      rintro _ _ ⟨rfl, rfl⟩
      (try simp (maxSteps := 1000000) (disch := first | omega | assumption | exact Nat.le_of_ble_eq_true rfl) only [go_sem, ↓mwp_block, simprocAttr])
      refine call_intro (isNaNU_ok _ _) ?_
      rintro _ _ ⟨rfl, rfl⟩
      (try simp (maxSteps := 1000000) (disch := first | omega | assumption | exact Nat.le_of_ble_eq_true rfl) only [go_sem, ↓mwp_block, simprocAttr, h1, h2])
      exact hK _ _ ⟨by simp [h1, h2], rfl⟩
    · (refine enterK c_cmp_Compare_uint64 (Nat.le_of_ble_eq_true rfl) fun K hK => ?_; (try simp (maxSteps := 1000000) (disch := first | omega | assumption | exact Nat.le_of_ble_eq_true rfl) only [go_sem, ↓mwp_block, simprocAttr, ir_cmp_Compare_uint64]))
      refine call_intro (isNaNU_ok _ _) ?_
      rintro _ _ ⟨rfl, rfl⟩
      (try simp (maxSteps := 1000000) (disch := first | omega | assumption | exact Nat.le_of_ble_eq_true rfl) only [go_sem, ↓mwp_block, simprocAttr])
      refine call_intro (isNaNU_ok _ _) ?_
      rintro _ _ ⟨rfl, rfl⟩
      (try simp (maxSteps := 1000000) (disch := first | omega | assumption | exact Nat.le_of_ble_eq_true rfl) only [go_sem, ↓mwp_block, simprocAttr, h1, h2])
      exact hK _ _ ⟨by simp [h1, h2], rfl⟩
/-- What is left, as it stands. -/
def uEnc (x : Nat) : List Value := [.int .u64 (x : Int)]
theorem uEnc_len (x : Nat) : (uEnc x).length = 1 := rfl
theorem uEnc_plain (x : Nat) : plainCells (uEnc x) = true := rfl
section
variable {h0 h : Heap} {l : List HP}
theorem own_rdU {T b n c : Nat} {D : List Nat} (S : St h0 h (ownA uEnc 1 T (.slice (some ⟨b, 0, none⟩) n c) D :: l)) {i : Nat} (hi : i < D.length) : rd1 h (.pointer (some ⟨b, i * 1, none⟩)) = some (.int .u64 (D[i] : Nat)) := by
  obtain ⟨b', o', hA, hr⟩ := S.arr uEnc_len i hi
  cases hA
  have := rd1_part hr 0 (by omega)
  simpa [uEnc] using this
theorem Shares1_ok {t9 : Nat} {B : Option Addr} {c : Nat} {rest : List Nat} (a b : Nat) (ha : a < rest.length) (hb : b < rest.length) (S : St h0 h (cellA t9 [.slice B rest.length c] 99 :: ownA uEnc 1 100 (.slice B rest.length c) rest :: l)) :
    CallsH Try.prog 68 [.int .i64 a, .int .i64 b, .pointer (some ⟨t9, 0, none⟩)] h fun v h' => v = .int .i64 (cmpU (rest[b] : Nat) (rest[a] : Nat)) ∧ h' = h := by
  obtain ⟨bk, rfl⟩ := S.p1.ownAt (by omega)
  have r0 : rd1 h (.pointer (some ⟨t9, 0, none⟩)) = some (.slice (some ⟨bk, 0, none⟩) rest.length c) := st_rd1 S
  have r1 := own_rdU S.p1 ha
  have r2 := own_rdU S.p1 hb
  (refine enterK c_split_Shares_1 (Nat.le_of_ble_eq_true rfl) fun K hK => ?_; (try simp (maxSteps := 1000000) (disch := first | omega | assumption | exact Nat.le_of_ble_eq_true rfl) only [go_sem, ↓mwp_block, simprocAttr, ir_split_Shares_1]))
  refine draw_eq ?_
  (try simp (maxSteps := 1000000) (disch := first | omega | assumption | exact Nat.le_of_ble_eq_true rfl) only [go_sem, ↓mwp_block, simprocAttr, r0, r1, r2])
  refine call_intro (CompareU_ok _ _ _) ?_
  rintro _ _ ⟨rfl, rfl⟩
  (try simp (maxSteps := 1000000) (disch := first | omega | assumption | exact Nat.le_of_ble_eq_true rfl) only [go_sem, ↓mwp_block, simprocAttr])
  exact hK _ _ ⟨rfl, rfl⟩
theorem Shares_cmp {t9 : Nat} {B A : Option Addr} {c n d : Nat} {rest : List Nat} : CmpS (.func (.func 68) #[] (List.toArray [.pointer (some ⟨t9, 0, none⟩)])) (fun i => rest.getD i.toNat 0) (fun i => 0 ≤ i ∧ i < rest.length) h0 A n d
    (cellA t9 [.slice B rest.length c] 99 :: ownA uEnc 1 100 (.slice B rest.length c) rest :: l) := by
  intro h' D K s t a b hda hdb S hk
  obtain ⟨ha0, ha1⟩ := hda
  obtain ⟨hb0, hb1⟩ := hdb
  obtain ⟨a, rfl⟩ : ∃ k : Nat, a = k := ⟨a.toNat, by omega⟩
  obtain ⟨b, rfl⟩ : ∃ k : Nat, b = k := ⟨b.toNat, by omega⟩
  have ha : a < rest.length := by omega
  have hb : b < rest.length := by omega
  refine callv_ok' (a := []) (b := [.pointer (some ⟨t9, 0, none⟩)]) ok_split_Shares_1 ((Shares1_ok a b ha hb S.tl).mono ?_)
  rintro v h'' ⟨rfl, rfl⟩
  refine hk _ _ ?_ S
  simp only [Int.toNat_natCast, List.getD_eq_getElem?_getD, List.getElem?_eq_getElem ha, List.getElem?_eq_getElem hb, Option.getD_some]
  unfold cmpU
  split
  · constructor
    · intro _; omega
    · intro _; decide
  · split
    · constructor
      · intro h; omega
      · intro h; omega
    · constructor
      · intro h; omega
      · intro h; omega
end
end Go.Proofs.Ytnjjdpeglkiifaa.MX
