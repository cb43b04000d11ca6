/- The sum of bytes by the program and by the document; frames. -/
import Derived.Test.YtackopkhelochaaCr1
import Derived.Test.YtackopkhelochaaBy2
import Derived.Test.YtackopkhelochaaMk1
import Derived.Test.YtackopkhelochaaCd1
namespace Go.Proofs.Ytackopkhelochaa.MX
open Go Go.Proofs
set_option linter.unusedSimpArgs false
set_option linter.unusedVariables false

set_option maxHeartbeats 2000000 in
theorem Sum_ok {A : Option Addr} {c : Nat} {xs : List UInt8} {h : Heap} (ha : Arr bEnc 1 h A xs) (hl : xs.length < 1000000000) :
    CallsH Try.prog 17 [.slice A xs.length c] h fun v h' => v = .int .u32 (sumOf xs) ∧ h' = h := by
  (refine enterK c_frame_Sum (Nat.le_of_ble_eq_true rfl) fun K hK => ?_; (try simp (maxSteps := 1000000) (disch := first | omega | assumption | exact Nat.le_of_ble_eq_true rfl) only [go_sem, ↓mwp_block, simprocAttr, ir_frame_Sum]))
  refine loop_intro (fun ρ h' => h' = h ∧ ρ 7 = .slice A xs.length c ∧ ρ 8 = .int .i64 xs.length ∧ ∃ i : Nat, ρ 9 = .int .i64 i ∧ i ≤ xs.length ∧ ρ 3 = .int .u32 (crcOf (xs.take i))) (fun ρ _ => xs.length - (iv (ρ 9)).toNat) ?_ ?_
  · (try simp (maxSteps := 1000000) (disch := first | omega | assumption | exact Nat.le_of_ble_eq_true rfl) only [go_sem, ↓mwp_block, simprocAttr])
    exact ⟨0, rfl, Nat.zero_le _, rfl⟩
  · rintro ρ h' J hJ ⟨hh, e7, e8, i, e9, hi, e3⟩
    subst hh
    (try simp (maxSteps := 1000000) (disch := first | omega | assumption | exact Nat.le_of_ble_eq_true rfl) only [go_sem, ↓mwp_block, simprocAttr, e8, e9])
    refine cond_dec (fun hg => ?_) (fun hg => ?_)
    · have hlt : i < xs.length := by omega
      obtain ⟨b, off, rfl, hr⟩ := ha.at hlt
      have r1 := rd1_part0 hr (by omega)
      simp only [bEnc, List.getElem?_cons_zero] at r1
      have hcl := crc_lt (xs.take i)
      have hsu := crc_succ xs hlt
      have hbl := xs[i].toNat_lt
      generalize hs : crcOf (xs.take i) = s at e3 hcl hsu
      generalize hx : xs[i] = x at r1 hsu hbl
      have hxl := xor_lt32 hcl (show x.toNat < 4294967296 by omega)
      (try simp (maxSteps := 1000000) (disch := first | omega | assumption | exact Nat.le_of_ble_eq_true rfl) only [go_sem, ↓mwp_block, simprocAttr, e7, e9, e3, r1, bxor32])
      refine loop_intro (fun ρ h'' => h'' = h' ∧ ρ 7 = .slice (some ⟨b, off, none⟩) xs.length c ∧ ρ 8 = .int .i64 xs.length ∧ ρ 9 = .int .i64 i ∧ ∃ k : Nat, ρ 17 = .int .i64 k ∧ k ≤ 8 ∧ ρ 3 = .int .u32 (steps k (s ^^^ x.toNat))) (fun ρ _ => 8 - (iv (ρ 17)).toNat) ?_ ?_
      · (try simp (maxSteps := 1000000) (disch := first | omega | assumption | exact Nat.le_of_ble_eq_true rfl) only [go_sem, ↓mwp_block, simprocAttr, e7, e8, e9])
        exact ⟨0, rfl, by omega, rfl⟩
      · have hmu : (iv (ρ 9)).toNat = i := by rw [e9]; rfl
        clear e7 e8 e9 e3
        rintro ρ h2 J2 hJ2 ⟨hh, e7, e8, e9, k, e17, hk, e3⟩
        subst hh
        have hkl := steps_lt hxl k
        generalize hq : steps k (s ^^^ x.toNat) = q at e3 hkl
        (try simp (maxSteps := 1000000) (disch := first | omega | assumption | exact Nat.le_of_ble_eq_true rfl) only [go_sem, ↓mwp_block, simprocAttr, e17])
        refine cond_dec (fun hg8 => ?_) (fun hg8 => ?_)
        · have hw1 : ((q % 2 : Nat) : Int) < 2 := by omega
          have hstep : steps (k + 1) (s ^^^ x.toNat) = step q := by rw [steps, hq]
          by_cases hodd : q % 2 = 1
          · have h1 : ((q % 2 : Nat) : Int) = 1 := by omega
            (try simp (maxSteps := 1000000) (disch := first | omega | assumption | exact Nat.le_of_ble_eq_true rfl) only [go_sem, ↓mwp_block, simprocAttr, e3, e17, band32, shr1_32, h1, bxor32])
            refine hJ2 _ _ ?_ ?_
            · (try simp (maxSteps := 1000000) (disch := first | omega | assumption | exact Nat.le_of_ble_eq_true rfl) only [go_sem, ↓mwp_block, simprocAttr, e7, e8, e9, e17])
              exact ⟨k + 1, rfl, by omega, by rw [hstep, step, if_pos hodd]; rfl⟩
            · (try simp (maxSteps := 1000000) (disch := first | omega | assumption | exact Nat.le_of_ble_eq_true rfl) only [go_sem, ↓mwp_block, simprocAttr, e17])
              omega
          · have h1 : ((q % 2 : Nat) : Int) = 0 := by omega
            (try simp (maxSteps := 1000000) (disch := first | omega | assumption | exact Nat.le_of_ble_eq_true rfl) only [go_sem, ↓mwp_block, simprocAttr, e3, e17, band32, shr1_32, h1, bxor32])
            refine hJ2 _ _ ?_ ?_
            · (try simp (maxSteps := 1000000) (disch := first | omega | assumption | exact Nat.le_of_ble_eq_true rfl) only [go_sem, ↓mwp_block, simprocAttr, e7, e8, e9, e17])
              exact ⟨k + 1, rfl, by omega, by rw [hstep, step, if_neg hodd]⟩
            · (try simp (maxSteps := 1000000) (disch := first | omega | assumption | exact Nat.le_of_ble_eq_true rfl) only [go_sem, ↓mwp_block, simprocAttr, e17])
              omega
        · obtain rfl : k = 8 := by omega
          (try simp (maxSteps := 1000000) (disch := first | omega | assumption | exact Nat.le_of_ble_eq_true rfl) only [go_sem, ↓mwp_block, simprocAttr, e9])
          refine hJ _ _ ?_ ?_
          · (try simp (maxSteps := 1000000) (disch := first | omega | assumption | exact Nat.le_of_ble_eq_true rfl) only [go_sem, ↓mwp_block, simprocAttr, e7, e8, e9, e3])
            exact ⟨i + 1, rfl, by omega, by rw [hsu, ← hq]; rfl⟩
          · rw [hmu]
            (try simp (maxSteps := 1000000) (disch := first | omega | assumption | exact Nat.le_of_ble_eq_true rfl) only [go_sem, ↓mwp_block, simprocAttr, e9])
            omega
    · obtain rfl : i = xs.length := by omega
      rw [List.take_length] at e3
      have hcl := crc_lt xs
      (try simp (maxSteps := 1000000) (disch := first | omega | assumption | exact Nat.le_of_ble_eq_true rfl) only [go_sem, ↓mwp_block, simprocAttr, e3, un_xor32])
      exact hK _ _ ⟨rfl, rfl⟩

theorem rcrc_succ (s : Nat) (x : UInt8) (k : Nat) : rsteps x.toNat (k + 1) s = rstep (rsteps x.toNat k s) x.toNat k := rfl
theorem shr_u8 (x k : Nat) (hk : k ≤ 8) : (x : Int).fdiv (2 ^ (min k 8)) = ((x / 2 ^ k : Nat) : Int) := by
  rw [Nat.min_eq_left hk, Int.fdiv_eq_ediv_of_nonneg _ (Int.le_of_lt (Int.pow_pos (by decide)))]
  simp

set_option maxHeartbeats 2000000 in
theorem RefSum_ok {A : Option Addr} {c : Nat} {xs : List UInt8} {h : Heap} (ha : Arr bEnc 1 h A xs) (hl : xs.length < 1000000000) :
    CallsH Try.prog 18 [.slice A xs.length c] h fun v h' => v = .int .u32 (sumOf xs) ∧ h' = h := by
  (refine enterK c_recoupref01_Sum (Nat.le_of_ble_eq_true rfl) fun K hK => ?_; (try simp (maxSteps := 1000000) (disch := first | omega | assumption | exact Nat.le_of_ble_eq_true rfl) only [go_sem, ↓mwp_block, simprocAttr, ir_recoupref01_Sum]))
  refine loop_intro (fun ρ h' => h' = h ∧ ρ 0 = .slice A xs.length c ∧ ρ 8 = .int .i64 xs.length ∧ ∃ i : Nat, ρ 9 = .int .i64 i ∧ i ≤ xs.length ∧ ρ 3 = .int .u32 (crcOf (xs.take i))) (fun ρ _ => xs.length - (iv (ρ 9)).toNat) ?_ ?_
  · (try simp (maxSteps := 1000000) (disch := first | omega | assumption | exact Nat.le_of_ble_eq_true rfl) only [go_sem, ↓mwp_block, simprocAttr])
    exact ⟨0, rfl, Nat.zero_le _, rfl⟩
  · rintro ρ h' J hJ ⟨hh, e0, e8, i, e9, hi, e3⟩
    subst hh
    (try simp (maxSteps := 1000000) (disch := first | omega | assumption | exact Nat.le_of_ble_eq_true rfl) only [go_sem, ↓mwp_block, simprocAttr, e8, e9])
    refine cond_dec (fun hg => ?_) (fun hg => ?_)
    · have hlt : i < xs.length := by omega
      obtain ⟨b, off, rfl, hr⟩ := ha.at hlt
      have r1 := rd1_part0 hr (by omega)
      simp only [bEnc, List.getElem?_cons_zero] at r1
      have hcl := crc_lt (xs.take i)
      have hsu := crc_succ xs hlt
      generalize hs : crcOf (xs.take i) = s at e3 hcl hsu
      generalize hx : xs[i] = x at r1 hsu
      have hbl := x.toNat_lt
      rw [eat, steps8 s x.toNat (by omega)] at hsu
      (try simp (maxSteps := 1000000) (disch := first | omega | assumption | exact Nat.le_of_ble_eq_true rfl) only [go_sem, ↓mwp_block, simprocAttr, e0, e9, e3])
      refine loop_intro (fun ρ h'' => h'' = h' ∧ ρ 0 = .slice (some ⟨b, off, none⟩) xs.length c ∧ ρ 8 = .int .i64 xs.length ∧ ρ 9 = .int .i64 i ∧ ρ 4 = .int .i64 i ∧ ∃ k : Nat, ρ 12 = .int .i64 k ∧ k ≤ 8 ∧ ρ 3 = .int .u32 (rsteps x.toNat k s)) (fun ρ _ => 8 - (iv (ρ 12)).toNat) ?_ ?_
      · (try simp (maxSteps := 1000000) (disch := first | omega | assumption | exact Nat.le_of_ble_eq_true rfl) only [go_sem, ↓mwp_block, simprocAttr, e0, e8, e9, e3])
        exact ⟨0, rfl, by omega, rfl⟩
      · have hmu : (iv (ρ 9)).toNat = i := by rw [e9]; rfl
        clear e0 e8 e9 e3
        rintro ρ h2 J2 hJ2 ⟨hh, e0, e8, e9, e4, k, e12, hk, e3⟩
        subst hh
        have hkl := rsteps_lt (b := x.toNat) hcl k
        have hstep := rcrc_succ s x k
        generalize hq : rsteps x.toNat k s = q at e3 hkl hstep
        (try simp (maxSteps := 1000000) (disch := first | omega | assumption | exact Nat.le_of_ble_eq_true rfl) only [go_sem, ↓mwp_block, simprocAttr, e12])
        refine cond_dec (fun hg8 => ?_) (fun hg8 => ?_)
        · have hwk : IntKind.u64.wrap (k : Int) = k := wrap_u64 (by omega) (by omega)
          have hxk : x.toNat / 2 ^ k ≤ x.toNat := Nat.div_le_self _ _
          have hwx : IntKind.u32.wrap ((x.toNat / 2 ^ k : Nat) : Int) = ((x.toNat / 2 ^ k : Nat) : Int) := wrap_nat32 (by omega)
          have hsh := shr_u8 x.toNat k (by omega)
          have hmk : min k 8 = k := by omega
          rw [hmk] at hsh
          have hl2 : (q / 2 : Nat) < 4294967296 := by omega
          unfold rstep at hstep
          generalize x.toNat / 2 ^ k = z at hxk hwx hsh hstep
          by_cases hodd : q % 2 = z % 2
          · have h1 : ((q % 2 : Nat) : Int) = ((z % 2 : Nat) : Int) := by omega
            (try simp (maxSteps := 1000000) (disch := first | omega | assumption | exact Nat.le_of_ble_eq_true rfl) only [go_sem, ↓mwp_block, simprocAttr, e0, e4, e3, e12, r1, band32, hwk, hmk, hsh, hwx, h1])
            refine hJ2 _ _ ?_ ?_
            · (try simp (maxSteps := 1000000) (disch := first | omega | assumption | exact Nat.le_of_ble_eq_true rfl) only [go_sem, ↓mwp_block, simprocAttr, e0, e4, e8, e9, e12, e3, shr1_32])
              exact ⟨k + 1, rfl, by omega, by rw [hstep, if_pos hodd]⟩
            · (try simp (maxSteps := 1000000) (disch := first | omega | assumption | exact Nat.le_of_ble_eq_true rfl) only [go_sem, ↓mwp_block, simprocAttr, e12])
              omega
          · have h1 : ¬ ((q % 2 : Nat) : Int) = ((z % 2 : Nat) : Int) := by omega
            (try simp (maxSteps := 1000000) (disch := first | omega | assumption | exact Nat.le_of_ble_eq_true rfl) only [go_sem, ↓mwp_block, simprocAttr, e0, e4, e3, e12, r1, band32, hwk, hmk, hsh, hwx, h1, shr1_32, bxor32])
            refine hJ2 _ _ ?_ ?_
            · (try simp (maxSteps := 1000000) (disch := first | omega | assumption | exact Nat.le_of_ble_eq_true rfl) only [go_sem, ↓mwp_block, simprocAttr, e0, e4, e8, e9, e12])
              exact ⟨k + 1, rfl, by omega, by rw [hstep, if_neg hodd]; rfl⟩
            · (try simp (maxSteps := 1000000) (disch := first | omega | assumption | exact Nat.le_of_ble_eq_true rfl) only [go_sem, ↓mwp_block, simprocAttr, e12])
              omega
        · obtain rfl : k = 8 := by omega
          (try simp (maxSteps := 1000000) (disch := first | omega | assumption | exact Nat.le_of_ble_eq_true rfl) only [go_sem, ↓mwp_block, simprocAttr, e9])
          refine hJ _ _ ?_ ?_
          · (try simp (maxSteps := 1000000) (disch := first | omega | assumption | exact Nat.le_of_ble_eq_true rfl) only [go_sem, ↓mwp_block, simprocAttr, e0, e8, e9, e3])
            exact ⟨i + 1, rfl, by omega, by rw [hsu, ← hq]⟩
          · rw [hmu]
            (try simp (maxSteps := 1000000) (disch := first | omega | assumption | exact Nat.le_of_ble_eq_true rfl) only [go_sem, ↓mwp_block, simprocAttr, e9])
            omega
    · obtain rfl : i = xs.length := by omega
      rw [List.take_length] at e3
      have hcl := crc_lt xs
      (try simp (maxSteps := 1000000) (disch := first | omega | assumption | exact Nat.le_of_ble_eq_true rfl) only [go_sem, ↓mwp_block, simprocAttr, e3, bxor32])
      exact hK _ _ ⟨rfl, rfl⟩
end Go.Proofs.Ytackopkhelochaa.MX
