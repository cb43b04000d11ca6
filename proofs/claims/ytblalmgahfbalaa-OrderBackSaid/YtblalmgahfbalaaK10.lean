/- Texts in one file: By1. -/
import Derived.Test.YtblalmgahfbalaaK08
import Derived.Test.YtblalmgahfbalaaK09

/- Bytes, and numbers as bytes, least first. No program in sight but its types' numbers. -/
namespace Go.Proofs.Ytblalmgahfbalaa.MX
open Go Go.Proofs
set_option linter.unusedSimpArgs false
set_option linter.unusedVariables false

def I64 (n : Int) : Prop := -9223372036854775808 ≤ n ∧ n < 9223372036854775808
def bEnc (x : UInt8) : List Value := [.int .u8 (x.toNat : Int)]
theorem bEnc_len (x : UInt8) : (bEnc x).length = 1 := rfl
theorem bEnc_plain (x : UInt8) : plainCells (bEnc x) = true := rfl
theorem u8_lt (x : UInt8) : (x.toNat : Int) < 256 := by have := x.toNat_lt; omega
/-- The byte that a number leaves. -/
def B8 (n : Int) : UInt8 := UInt8.ofNat (n % 256).toNat
theorem B8_toNat (n : Int) : ((B8 n).toNat : Int) = n % 256 := by
  have h1 : 0 ≤ n % 256 := Int.emod_nonneg _ (by decide)
  have h2 : n % 256 < 256 := Int.emod_lt_of_pos _ (by decide)
  simp only [B8, UInt8.toNat_ofNat']
  omega
theorem wrap_u8_emod (n : Int) : IntKind.u8.wrap n = n % 256 := by
  simp only [IntKind.wrap, IntKind.signed, IntKind.bits]
  simp
theorem wrap_u8B (n : Int) : IntKind.u8.wrap n = ((B8 n).toNat : Int) := by rw [wrap_u8_emod, B8_toNat]
theorem bEnc_B8 {n : Int} (h0 : 0 ≤ n) (h1 : n < 256) : [Value.int .u8 n] = bEnc (B8 n) := by rw [bEnc, B8_toNat, Int.emod_eq_of_lt h0 h1]
/-- A number's bytes, the least first. -/
def le : Nat → Int → List UInt8
  | 0, _ => []
  | n + 1, v => B8 v :: le n (v / 256)
theorem le_length : ∀ (n : Nat) (v : Int), (le n v).length = n
  | 0, _ => rfl
  | n + 1, v => by simp [le, le_length n]
theorem le_succ : ∀ (n : Nat) (v : Int), le (n + 1) v = le n v ++ [B8 (v / 256 ^ n)]
  | 0, v => by simp [le]
  | n + 1, v => by
    rw [show le (n + 1 + 1) v = B8 v :: le (n + 1) (v / 256) from rfl, le_succ n (v / 256)]
    simp only [le, List.cons_append]
    rw [Int.pow_succ, Int.mul_comm, Int.ediv_ediv_of_nonneg (by decide)]
/-- The number of some bytes. -/
def num : List UInt8 → Int
  | [] => 0
  | x :: l => x.toNat + 256 * num l
theorem num_nonneg : ∀ l, 0 ≤ num l
  | [] => Int.le_refl _
  | x :: l => by have := num_nonneg l; simp only [num]; omega
theorem num_lt : ∀ l, num l < 256 ^ l.length
  | [] => by decide
  | x :: l => by
    have h1 := num_lt l
    have h2 := u8_lt x
    simp only [num, List.length_cons, Int.pow_succ]
    omega
theorem num_le : ∀ (n : Nat) (v : Int), 0 ≤ v → v < 256 ^ n → num (le n v) = v
  | 0, v, h0, h1 => by simp at h1; simp [le, num]; omega
  | n + 1, v, h0, h1 => by
    rw [Int.pow_succ] at h1
    simp only [le, num]
    rw [num_le n (v / 256) (by omega) (by omega), B8_toNat]
    omega
theorem B8_of (x : UInt8) : B8 (x.toNat : Int) = x := by
  apply UInt8.toNat_inj.1
  have h1 := B8_toNat (x.toNat : Int)
  have h2 := u8_lt x
  omega
theorem B8_add (x : UInt8) (m : Int) : B8 (x.toNat + 256 * m) = x := by
  apply UInt8.toNat_inj.1
  have h1 := B8_toNat (x.toNat + 256 * m)
  have h2 := u8_lt x
  omega
theorem le_num : ∀ l : List UInt8, le l.length (num l) = l
  | [] => rfl
  | x :: l => by
    have h2 := u8_lt x
    simp only [List.length_cons, le, num, B8_add]
    rw [show (x.toNat + 256 * num l) / 256 = num l by omega, le_num l]
theorem num_append : ∀ a b : List UInt8, num (a ++ b) = num a + 256 ^ a.length * num b
  | [], b => by simp [num]
  | x :: a, b => by
    simp only [List.cons_append, num, num_append a b, List.length_cons, Int.pow_succ]
    rw [Int.mul_add, ← Int.mul_assoc, Int.mul_comm (256 ^ a.length) 256]
    omega
theorem shr_256 (k : Nat) (v : Int) : v.fdiv (2 ^ (8 * k)) = v / 256 ^ k := by
  rw [Int.pow_mul, Int.fdiv_eq_ediv_of_nonneg _ (Int.le_of_lt (Int.pow_pos (by decide)))]
  rfl
theorem shr8 (v : Int) : v.fdiv (2 ^ min 8 64) = v / 256 := by
  have := shr_256 1 v
  simpa using this
theorem fdiv_zero_iff (k : Nat) (v : Int) : v / 256 ^ k = 0 ↔ 0 ≤ v ∧ v < 256 ^ k := by
  have hp : (0 : Int) < 256 ^ k := Int.pow_pos (by decide)
  constructor
  · intro h
    have h1 := Int.emod_add_mul_ediv v (256 ^ k)
    rw [h, Int.mul_zero, Int.add_zero] at h1
    rw [← h1]
    exact ⟨Int.emod_nonneg _ (Int.ne_of_gt hp), Int.emod_lt_of_pos _ hp⟩
  · rintro ⟨h1, h2⟩
    exact Int.ediv_eq_zero_of_lt h1 h2
end Go.Proofs.Ytblalmgahfbalaa.MX
