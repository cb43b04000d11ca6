/- The reference's numbers as bytes; lists of bytes compared. -/
import Derived.Test.YtackopkhelochaaCd1
namespace Go.Proofs.Ytackopkhelochaa.MX
open Go Go.Proofs
set_option linter.unusedSimpArgs false
set_option linter.unusedVariables false

theorem RefBytes_ok (v : Int) (n : Nat) {h0 h : Heap} {l : List HP} (S : St h0 h l) (hv : 0 ≤ v ∧ v < 18446744073709551616) (hn : n ≤ 8) :
    CallsH Try.prog 60 [.int .u64 v, .int .i64 n] h fun r h' => St h0 h' (ownA bEnc 1 5 r (le n v) :: l) := by
  (refine enterK c_recoupref01_Bytes (Nat.le_of_ble_eq_true rfl) fun K hK => ?_; (try simp (maxSteps := 1000000) (disch := first | omega | assumption | exact Nat.le_of_ble_eq_true rfl) only [go_sem, ↓mwp_block, simprocAttr, ir_recoupref01_Bytes]))
  refine loop_intro (fun ρ h' => ρ 6 = .int .i64 n ∧ ∃ i : Nat, ρ 7 = .int .i64 i ∧ i ≤ n ∧ ρ 0 = .int .u64 (v / 256 ^ i) ∧ St h0 h' (ownA bEnc 1 5 (ρ 5) (le i v) :: l)) (fun ρ _ => n - (iv (ρ 7)).toNat) ?_ ?_
  · (try simp (maxSteps := 1000000) (disch := first | omega | assumption | exact Nat.le_of_ble_eq_true rfl) only [go_sem, ↓mwp_block, simprocAttr])
    refine ⟨0, rfl, Nat.zero_le _, ?_, S.nilS⟩
    simp
  · clear S
    rintro ρ h J hJ ⟨e6, i, e7, hi, e0, S⟩
    (try simp (maxSteps := 1000000) (disch := first | omega | assumption | exact Nat.le_of_ble_eq_true rfl) only [go_sem, ↓mwp_block, simprocAttr, e7, e6])
    refine cond_dec (fun hg => ?_) (fun hg => ?_)
    · have hp : (0 : Int) < 256 ^ i := Int.pow_pos (by decide)
      have h1 : 0 ≤ v / 256 ^ i := Int.ediv_nonneg hv.1 (Int.le_of_lt hp)
      have h2 : v / 256 ^ i ≤ v := Int.ediv_le_self _ hv.1
      have e : v / 256 ^ i / 256 = v / 256 ^ (i + 1) := by rw [Int.pow_succ, Int.ediv_ediv_of_nonneg (Int.le_of_lt hp)]
      have hm : (v / 256 ^ i).tmod 256 = (v / 256 ^ i) % 256 := Int.tmod_eq_emod_of_nonneg h1
      have hd : (v / 256 ^ i).tdiv 256 = v / 256 ^ (i + 1) := by rw [Int.tdiv_eq_ediv_of_nonneg h1, e]
      have hb : (v / 256 ^ i % 256 % 256) = v / 256 ^ i % 256 := by omega
      have h3 : v / 256 ^ (i + 1) ≤ v / 256 ^ i := by rw [← e]; omega
      have h4 : 0 ≤ v / 256 ^ (i + 1) := by rw [← e]; omega
      (try simp (maxSteps := 1000000) (disch := first | omega | assumption | exact Nat.le_of_ble_eq_true rfl) only [go_sem, ↓mwp_block, simprocAttr, e0, e7, hm, wrap_u8_emod, hb])
      rw [← B8_toNat]
      (refine st_alloc S ?_; clear S; intro b h S; (try simp only [splice_cons, splice_nil, List.set_cons_zero, List.set_cons_succ, Nat.zero_add, Nat.reduceAdd, List.cons_append, List.nil_append] at S); ((try clear F); have F := S.all; (try simp only [all_cons, all_nil, says_cell, and_true] at F)))
      (try simp (maxSteps := 1000000) (disch := first | omega | assumption | exact Nat.le_of_ble_eq_true rfl) only [go_sem, ↓mwp_block, simprocAttr, e0, e7])
      refine st_append1 (bytes := 1) (x := B8 (v / 256 ^ i)) bEnc_len (by omega) bEnc_plain rfl rfl S (by simp [le_length]; omega) (by simp [le_length]; omega) ?_
      clear S F
      intro v' h S
      (try simp (maxSteps := 1000000) (disch := first | omega | assumption | exact Nat.le_of_ble_eq_true rfl) only [go_sem, ↓mwp_block, simprocAttr, e0, e7, hd])
      refine hJ _ _ ?_ ?_
      · (try simp (maxSteps := 1000000) (disch := first | omega | assumption | exact Nat.le_of_ble_eq_true rfl) only [go_sem, ↓mwp_block, simprocAttr, e0, e6, e7])
        refine ⟨i + 1, rfl, by omega, rfl, ?_⟩
        rw [le_succ]
        exact S
      · (try simp (maxSteps := 1000000) (disch := first | omega | assumption | exact Nat.le_of_ble_eq_true rfl) only [go_sem, ↓mwp_block, simprocAttr, e7])
        omega
    · (try simp (maxSteps := 1000000) (disch := first | omega | assumption | exact Nat.le_of_ble_eq_true rfl) only [go_sem, ↓mwp_block, simprocAttr])
      obtain rfl : i = n := by omega
      exact hK _ _ S

theorem Bytes_ok {A B : Option Addr} {c d : Nat} {xs ys : List UInt8} {h : Heap} (ha : Arr bEnc 1 h A xs) (hb : Arr bEnc 1 h B ys) (hl : xs.length < 1000000000) (hl2 : ys.length < 1000000000) :
    CallsH Try.prog 19 [.slice A xs.length c, .slice B ys.length d] h fun v h' => v = .bool (dcd (xs = ys)) ∧ h' = h := by
  by_cases hlen : xs.length = ys.length
  · (refine enterK c_recouplaw01_Bytes (Nat.le_of_ble_eq_true rfl) fun K hK => ?_; (try simp (maxSteps := 1000000) (disch := first | omega | assumption | exact Nat.le_of_ble_eq_true rfl) only [go_sem, ↓mwp_block, simprocAttr, ir_recouplaw01_Bytes]))
    refine loop_intro (fun ρ h' => h' = h ∧ ρ 0 = .slice A xs.length c ∧ ρ 1 = .slice B ys.length d ∧ ρ 12 = .int .i64 xs.length ∧ ∃ i : Nat, ρ 13 = .int .i64 i ∧ i ≤ xs.length ∧ xs.take i = ys.take i) (fun ρ _ => xs.length - (iv (ρ 13)).toNat) ?_ ?_
    · (try simp (maxSteps := 1000000) (disch := first | omega | assumption | exact Nat.le_of_ble_eq_true rfl) only [go_sem, ↓mwp_block, simprocAttr])
      exact ⟨0, rfl, Nat.zero_le _, rfl⟩
    · rintro ρ _ J hJ ⟨rfl, e0, e1, e12, i, e13, hi, hx⟩
      (try simp (maxSteps := 1000000) (disch := first | omega | assumption | exact Nat.le_of_ble_eq_true rfl) only [go_sem, ↓mwp_block, simprocAttr, e12, e13])
      refine cond_dec (fun hg => ?_) (fun hg => ?_)
      · have hi1 : i < xs.length := by omega
        have hi2 : i < ys.length := by omega
        obtain ⟨b, off, rfl, hr1⟩ := ha.at hi1
        obtain ⟨b', off', rfl, hr2⟩ := hb.at hi2
        have r1 := rd1_part0 hr1 (by omega)
        have r2 := rd1_part0 hr2 (by omega)
        simp only [bEnc, List.getElem?_cons_zero] at r1 r2
        (try simp (maxSteps := 1000000) (disch := first | omega | assumption | exact Nat.le_of_ble_eq_true rfl) only [go_sem, ↓mwp_block, simprocAttr, e0, e1, e13])
        refine draw_eq ?_
        (try simp (maxSteps := 1000000) (disch := first | omega | assumption | exact Nat.le_of_ble_eq_true rfl) only [go_sem, ↓mwp_block, simprocAttr, e0, e1, e13, r1, r2])
        by_cases hxy : xs[i] = ys[i]
        · have : (xs[i].toNat : Int) = ys[i].toNat := by rw [hxy]
          (try simp (maxSteps := 1000000) (disch := first | omega | assumption | exact Nat.le_of_ble_eq_true rfl) only [go_sem, ↓mwp_block, simprocAttr, e13])
          refine hJ _ _ ?_ ?_
          · (try simp (maxSteps := 1000000) (disch := first | omega | assumption | exact Nat.le_of_ble_eq_true rfl) only [go_sem, ↓mwp_block, simprocAttr, e0, e1, e12, e13])
            refine ⟨i + 1, rfl, by omega, ?_⟩
            rw [List.take_succ_eq_append_getElem hi1, List.take_succ_eq_append_getElem hi2, hx, hxy]
          · (try simp (maxSteps := 1000000) (disch := first | omega | assumption | exact Nat.le_of_ble_eq_true rfl) only [go_sem, ↓mwp_block, simprocAttr, e13])
            omega
        · have : ¬ (xs[i].toNat : Int) = ys[i].toNat := fun h => hxy (UInt8.toNat_inj.1 (by omega))
          (try simp (maxSteps := 1000000) (disch := first | omega | assumption | exact Nat.le_of_ble_eq_true rfl) only [go_sem, ↓mwp_block, simprocAttr])
          exact hK _ _ ⟨by rw [dcd_false]; rintro rfl; exact hxy rfl, rfl⟩
      · obtain rfl : i = xs.length := by omega
        (try simp (maxSteps := 1000000) (disch := first | omega | assumption | exact Nat.le_of_ble_eq_true rfl) only [go_sem, ↓mwp_block, simprocAttr])
        refine hK _ _ ⟨?_, rfl⟩
        rw [dcd_true]
        rw [List.take_length, hlen, List.take_length] at hx
        exact hx
  · (refine enterK c_recouplaw01_Bytes (Nat.le_of_ble_eq_true rfl) fun K hK => ?_; (try simp (maxSteps := 1000000) (disch := first | omega | assumption | exact Nat.le_of_ble_eq_true rfl) only [go_sem, ↓mwp_block, simprocAttr, ir_recouplaw01_Bytes]))
    exact hK _ _ ⟨by rw [dcd_false]; rintro rfl; exact hlen rfl, rfl⟩
end Go.Proofs.Ytackopkhelochaa.MX
