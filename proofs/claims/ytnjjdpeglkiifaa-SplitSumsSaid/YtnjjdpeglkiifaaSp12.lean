/- The document's division, bit by bit. -/
import Derived.Test.YtnjjdpeglkiifaaSp11
namespace Go.Proofs.Ytnjjdpeglkiifaa.MX
open Go Go.Proofs
set_option linter.unusedSimpArgs false
set_option linter.unusedVariables false
set_option maxHeartbeats 4000000
theorem more_ok (rest x of q : Nat) (h1 : rest < of) (h2 : x ≤ of) (h3 : of < 9223372036854775808) (h4 : q < 18446744073709551615) (h : Heap) :
    CallsH Try.prog 101 [.int .u64 rest, .int .u64 x, .int .u64 of, .int .u64 q] h fun v h' => (∃ r' q' : Nat, v = .tuple #[.int .u64 r', .int .u64 q'] ∧ q' * of + r' = q * of + rest + x ∧ r' < of ∧ q ≤ q' ∧ q' ≤ q + 1) ∧ h' = h := by
  have s1 := subE (a := of) (b := rest) (c := of - rest) (by omega) (by omega)
  by_cases c1 : ((of - rest : Nat) : Int) ≤ x
  · have s2 := subE (a := x) (b := of - rest) (c := x - (of - rest)) (by omega) (by omega)
    have s3 : binV .add (.int .u64 q) (.int .u64 1) = some (.int .u64 ((q + 1 : Nat) : Int)) := addE (a := q) (b := 1) rfl (by omega)
    refine enterK c_recoupref05_more (Nat.le_of_ble_eq_true rfl) fun K hK => ?_
    (try simp (maxSteps := 1000000) (disch := first | omega | assumption | exact Nat.le_of_ble_eq_true rfl) only [go_sem, ↓mwp_block, simprocAttr, ir_recoupref05_more, s1, s2, s3, c1])
    exact hK _ _ ⟨⟨_, _, rfl, by rw [Nat.succ_mul]; omega, by omega, by omega, by omega⟩, rfl⟩
  · have s2 := addE (a := rest) (b := x) rfl (by omega)
    refine enterK c_recoupref05_more (Nat.le_of_ble_eq_true rfl) fun K hK => ?_
    (try simp (maxSteps := 1000000) (disch := first | omega | assumption | exact Nat.le_of_ble_eq_true rfl) only [go_sem, ↓mwp_block, simprocAttr, ir_recoupref05_more, s1, s2, c1])
    exact hK _ _ ⟨⟨_, _, rfl, by omega, by omega, by omega, by omega⟩, rfl⟩
theorem andI1 {a : Nat} (ha : a < 9223372036854775808) : binV .and (.int .i64 a) (.int .i64 1) = some (.int .i64 ((a % 2 : Nat) : Int)) := by
  rw [bin_and]
  have e1 : BitVec.ofInt IntKind.i64.bits (a : Int) = BitVec.ofNat 64 a := BitVec.ofInt_natCast 64 a
  have e2 : BitVec.ofInt IntKind.i64.bits (1 : Int) = BitVec.ofNat 64 1 := BitVec.ofInt_natCast 64 1
  have e : (BitVec.ofNat 64 a &&& BitVec.ofNat 64 1).toNat = a % 2 := by
    rw [BitVec.toNat_and, BitVec.toNat_ofNat, BitVec.toNat_ofNat, Nat.mod_eq_of_lt (by omega), Nat.mod_eq_of_lt (by decide)]
    exact Nat.and_one_is_mod a
  rw [e1, e2]
  exact (congrArg (fun n : Nat => some (Value.int IntKind.i64 (IntKind.i64.wrap (n : Int)))) e).trans (by rw [i64N (by omega)])
theorem shrI {a k : Nat} (hk : k ≤ 64) : binV .shr (.int .i64 a) (.int .u64 k) = some (.int .i64 ((a / 2 ^ k : Nat) : Int)) := by
  rw [bin_shr (by omega), Int.toNat_natCast, show IntKind.i64.bits = 64 from rfl, Nat.min_eq_left hk, Int.fdiv_eq_ediv_of_nonneg _ (Int.le_of_lt (Int.pow_pos (by decide)))]
  simp
theorem half_pow (a k : Nat) : a / 2 ^ k = 2 * (a / 2 ^ (k + 1)) + (a / 2 ^ k) % 2 := by
  rw [Nat.pow_succ, ← Nat.div_div_eq_div_mul]
  omega
theorem divided_ok (a n of : Nat) (ha : a ≤ 1125899906842624) (hn : n ≤ of) (h0 : 0 < of) (hof : of ≤ 1125899906842624) (h : Heap) :
    CallsH Try.prog 70 [.int .i64 a, .int .i64 n, .int .i64 of] h fun v h' => v = .tuple #[.int .i64 (a * n / of : Nat), .int .u64 (a * n % of : Nat)] ∧ h' = h := by
  have wo := wrapU (n := of) (by omega)
  have wn := wrapU (n := n) (by omega)
  (refine enterK c_recoupref05_divided (Nat.le_of_ble_eq_true rfl) fun K hK => ?_; (try simp (maxSteps := 1000000) (disch := first | omega | assumption | exact Nat.le_of_ble_eq_true rfl) only [go_sem, ↓mwp_block, simprocAttr, ir_recoupref05_divided]))
  refine loop_intro (fun ρ h' => h' = h ∧ ρ 0 = .int .i64 a ∧ ρ 1 = .int .i64 n ∧ ρ 2 = .int .i64 of ∧ ∃ k q r : Nat, ρ 10 = .int .i64 ((k : Int) - 1) ∧ k ≤ 51 ∧ ρ 8 = .int .u64 q ∧ ρ 9 = .int .u64 r ∧ q * of + r = a / 2 ^ k * n ∧ r < of) (fun ρ _ => ((iv (ρ 10)) + 1).toNat) ?_ ?_
  · (try simp (maxSteps := 1000000) (disch := first | omega | assumption | exact Nat.le_of_ble_eq_true rfl) only [go_sem, ↓mwp_block, simprocAttr])
    refine ⟨51, 0, 0, rfl, by omega, rfl, rfl, ?_, h0⟩
    rw [Nat.div_eq_of_lt (by omega)]; simp
  rintro ρ h' J hJ ⟨rfl, e0, e1, e2, k, q, r, e10, hk, e8, e9, hqr, hr⟩
  have hq : q ≤ 1125899906842624 := by
    have h1 : q * of ≤ a / 2 ^ k * of := Nat.le_trans (by omega) (Nat.mul_le_mul_left _ hn)
    have h2 := Nat.le_of_mul_le_mul_right h1 h0
    have h3 := Nat.div_le_self a (2 ^ k)
    omega
  by_cases hk0 : (0 : Int) ≤ (k : Int) - 1
  · obtain ⟨k, rfl⟩ : ∃ j, k = j + 1 := ⟨k - 1, by omega⟩
    have ek : ((k + 1 : Nat) : Int) - 1 = (k : Int) := by omega
    rw [ek] at e10
    have wk := wrapU (n := k) (by omega)
    have hk0' : (0 : Int) ≤ k := by omega
    have m1 : binV .mul (.int .u64 q) (.int .u64 2) = some (.int .u64 ((q * 2 : Nat) : Int)) := mulE (a := q) (b := 2) rfl (by omega)
    have hsh := shrI (a := a) (k := k) (by omega)
    have hle := Nat.div_le_self a (2 ^ k)
    have han := andI1 (a := a / 2 ^ k) (by omega)
    have wk1 : IntKind.i64.wrap ((k : Int) - 1) = (k : Int) - 1 := wrap_i64 (by omega) (by omega)
    have hhalf := half_pow a k
    (try simp (maxSteps := 1000000) (disch := first | omega | assumption | exact Nat.le_of_ble_eq_true rfl) only [go_sem, ↓mwp_block, simprocAttr, e10, hk0', e8, e9, e2, m1, wo])
    refine call_intro (more_ok r r of (q * 2) hr (by omega) (by omega) (by omega) _) ?_
    rintro _ _ ⟨⟨r1, q1, rfl, hq1, hr1, hq1a, hq1b⟩, rfl⟩
    have hq2 : q1 * of + r1 = 2 * (a / 2 ^ (k + 1)) * n := by
      rw [hq1, Nat.mul_right_comm, Nat.mul_assoc 2, ← hqr]
      omega
    by_cases hb : ((a / 2 ^ k % 2 : Nat) : Int) = 1
    · (try simp (maxSteps := 1000000) (disch := first | omega | assumption | exact Nat.le_of_ble_eq_true rfl) only [go_sem, ↓mwp_block, simprocAttr, e0, e10, wk, hsh, han, hb, e1, e2, wn, wo])
      refine call_intro (more_ok r1 n of q1 hr1 hn (by omega) (by omega) _) ?_
      rintro _ _ ⟨⟨r2, q2, rfl, hq3, hr2, hq3a, hq3b⟩, rfl⟩
      (try simp (maxSteps := 1000000) (disch := first | omega | assumption | exact Nat.le_of_ble_eq_true rfl) only [go_sem, ↓mwp_block, simprocAttr, e10, wk1])
      refine hJ _ _ ?_ ?_
      · (try simp (maxSteps := 1000000) (disch := first | omega | assumption | exact Nat.le_of_ble_eq_true rfl) only [go_sem, ↓mwp_block, simprocAttr, e0, e1, e2])
        refine ⟨k, q2, r2, rfl, by omega, rfl, rfl, ?_, hr2⟩
        rw [hhalf, show a / 2 ^ k % 2 = 1 by omega, Nat.add_mul, Nat.one_mul, ← hq2, hq3]
      · (try simp (maxSteps := 1000000) (disch := first | omega | assumption | exact Nat.le_of_ble_eq_true rfl) only [go_sem, ↓mwp_block, simprocAttr, e10])
        omega
    · (try simp (maxSteps := 1000000) (disch := first | omega | assumption | exact Nat.le_of_ble_eq_true rfl) only [go_sem, ↓mwp_block, simprocAttr, e0, e10, wk, hsh, han, hb, wk1])
      refine hJ _ _ ?_ ?_
      · (try simp (maxSteps := 1000000) (disch := first | omega | assumption | exact Nat.le_of_ble_eq_true rfl) only [go_sem, ↓mwp_block, simprocAttr, e0, e1, e2])
        refine ⟨k, q1, r1, rfl, by omega, rfl, rfl, ?_, hr1⟩
        rw [hhalf, show a / 2 ^ k % 2 = 0 by omega, Nat.add_zero, ← hq2]
      · (try simp (maxSteps := 1000000) (disch := first | omega | assumption | exact Nat.le_of_ble_eq_true rfl) only [go_sem, ↓mwp_block, simprocAttr, e10])
        omega
  · obtain rfl : k = 0 := by omega
    rw [Nat.pow_zero, Nat.div_one] at hqr
    have hd : a * n / of = q ∧ a * n % of = r := by
      rw [← hqr, Nat.mul_comm q]
      exact ⟨by rw [Nat.mul_add_div h0, Nat.div_eq_of_lt hr, Nat.add_zero], by rw [Nat.mul_add_mod, Nat.mod_eq_of_lt hr]⟩
    have wq := i64N (n := q) (by omega)
    (try simp (maxSteps := 1000000) (disch := first | omega | assumption | exact Nat.le_of_ble_eq_true rfl) only [go_sem, ↓mwp_block, simprocAttr, e10, hk0, e8, e9, wq])
    exact hK _ _ ⟨by rw [hd.1, hd.2], rfl⟩
end Go.Proofs.Ytnjjdpeglkiifaa.MX
