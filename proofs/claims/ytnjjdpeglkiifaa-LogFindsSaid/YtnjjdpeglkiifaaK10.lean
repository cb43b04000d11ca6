/- Texts in one file: By1, Cr1. -/
import Derived.Test.YtnjjdpeglkiifaaK08
import Derived.Test.YtnjjdpeglkiifaaK09

/- Bytes, and numbers as bytes, least first. No program in sight but its types' numbers. -/
namespace Go.Proofs.Ytnjjdpeglkiifaa.MX
open Go Go.Proofs
set_option linter.unusedSimpArgs false
set_option linter.unusedVariables false

def I64 (n : Int) : Prop := -9223372036854775808 ≤ n ∧ n < 9223372036854775808
def bEnc (x : UInt8) : List Value := [.int .u8 (x.toNat : Int)]
theorem bEnc_len (x : UInt8) : (bEnc x).length = 1 := rfl
theorem bEnc_plain (x : UInt8) : plainCells (bEnc x) = true := rfl
theorem u8_lt (x : UInt8) : (x.toNat : Int) < 256 := by have := x.toNat_lt; omega
/-- The byte that a number leaves. -/
def B8 (n : Int) : UInt8 := UInt8.ofNat (n % 256).toNat
theorem B8_toNat (n : Int) : ((B8 n).toNat : Int) = n % 256 := by
  have h1 : 0 ≤ n % 256 := Int.emod_nonneg _ (by decide)
  have h2 : n % 256 < 256 := Int.emod_lt_of_pos _ (by decide)
  simp only [B8, UInt8.toNat_ofNat']
  omega
theorem wrap_u8_emod (n : Int) : IntKind.u8.wrap n = n % 256 := by
  simp only [IntKind.wrap, IntKind.signed, IntKind.bits]
  simp
theorem wrap_u8B (n : Int) : IntKind.u8.wrap n = ((B8 n).toNat : Int) := by rw [wrap_u8_emod, B8_toNat]
theorem bEnc_B8 {n : Int} (h0 : 0 ≤ n) (h1 : n < 256) : [Value.int .u8 n] = bEnc (B8 n) := by rw [bEnc, B8_toNat, Int.emod_eq_of_lt h0 h1]
/-- A number's bytes, the least first. -/
def le : Nat → Int → List UInt8
  | 0, _ => []
  | n + 1, v => B8 v :: le n (v / 256)
theorem le_length : ∀ (n : Nat) (v : Int), (le n v).length = n
  | 0, _ => rfl
  | n + 1, v => by simp [le, le_length n]
theorem le_succ : ∀ (n : Nat) (v : Int), le (n + 1) v = le n v ++ [B8 (v / 256 ^ n)]
  | 0, v => by simp [le]
  | n + 1, v => by
    rw [show le (n + 1 + 1) v = B8 v :: le (n + 1) (v / 256) from rfl, le_succ n (v / 256)]
    simp only [le, List.cons_append]
    rw [Int.pow_succ, Int.mul_comm, Int.ediv_ediv_of_nonneg (by decide)]
/-- The number of some bytes. -/
def num : List UInt8 → Int
  | [] => 0
  | x :: l => x.toNat + 256 * num l
theorem num_nonneg : ∀ l, 0 ≤ num l
  | [] => Int.le_refl _
  | x :: l => by have := num_nonneg l; simp only [num]; omega
theorem num_lt : ∀ l, num l < 256 ^ l.length
  | [] => by decide
  | x :: l => by
    have h1 := num_lt l
    have h2 := u8_lt x
    simp only [num, List.length_cons, Int.pow_succ]
    omega
theorem num_le : ∀ (n : Nat) (v : Int), 0 ≤ v → v < 256 ^ n → num (le n v) = v
  | 0, v, h0, h1 => by simp at h1; simp [le, num]; omega
  | n + 1, v, h0, h1 => by
    rw [Int.pow_succ] at h1
    simp only [le, num]
    rw [num_le n (v / 256) (by omega) (by omega), B8_toNat]
    omega
theorem B8_of (x : UInt8) : B8 (x.toNat : Int) = x := by
  apply UInt8.toNat_inj.1
  have h1 := B8_toNat (x.toNat : Int)
  have h2 := u8_lt x
  omega
theorem B8_add (x : UInt8) (m : Int) : B8 (x.toNat + 256 * m) = x := by
  apply UInt8.toNat_inj.1
  have h1 := B8_toNat (x.toNat + 256 * m)
  have h2 := u8_lt x
  omega
theorem le_num : ∀ l : List UInt8, le l.length (num l) = l
  | [] => rfl
  | x :: l => by
    have h2 := u8_lt x
    simp only [List.length_cons, le, num, B8_add]
    rw [show (x.toNat + 256 * num l) / 256 = num l by omega, le_num l]
theorem num_append : ∀ a b : List UInt8, num (a ++ b) = num a + 256 ^ a.length * num b
  | [], b => by simp [num]
  | x :: a, b => by
    simp only [List.cons_append, num, num_append a b, List.length_cons, Int.pow_succ]
    rw [Int.mul_add, ← Int.mul_assoc, Int.mul_comm (256 ^ a.length) 256]
    omega
theorem shr_256 (k : Nat) (v : Int) : v.fdiv (2 ^ (8 * k)) = v / 256 ^ k := by
  rw [Int.pow_mul, Int.fdiv_eq_ediv_of_nonneg _ (Int.le_of_lt (Int.pow_pos (by decide)))]
  rfl
theorem shr8 (v : Int) : v.fdiv (2 ^ min 8 64) = v / 256 := by
  have := shr_256 1 v
  simpa using this
theorem fdiv_zero_iff (k : Nat) (v : Int) : v / 256 ^ k = 0 ↔ 0 ≤ v ∧ v < 256 ^ k := by
  have hp : (0 : Int) < 256 ^ k := Int.pow_pos (by decide)
  constructor
  · intro h
    have h1 := Int.emod_add_mul_ediv v (256 ^ k)
    rw [h, Int.mul_zero, Int.add_zero] at h1
    rw [← h1]
    exact ⟨Int.emod_nonneg _ (Int.ne_of_gt hp), Int.emod_lt_of_pos _ hp⟩
  · rintro ⟨h1, h2⟩
    exact Int.ediv_eq_zero_of_lt h1 h2
end Go.Proofs.Ytnjjdpeglkiifaa.MX

/- The sum of bytes: two ways to reckon it come to the same; no program in sight. -/
namespace Go.Proofs.Ytnjjdpeglkiifaa.MX
open Go Go.Proofs
set_option linter.unusedSimpArgs false
set_option linter.unusedVariables false

def poly : Nat := 3988292384
def step (s : Nat) : Nat := if s % 2 = 1 then (s / 2) ^^^ poly else s / 2
def steps : Nat → Nat → Nat
  | 0, s => s
  | k + 1, s => step (steps k s)
def rstep (s b k : Nat) : Nat := if s % 2 = b / 2 ^ k % 2 then s / 2 else (s / 2) ^^^ poly
def rsteps (b : Nat) : Nat → Nat → Nat
  | 0, s => s
  | k + 1, s => rstep (rsteps b k s) b k
theorem xor_lt32 {a b : Nat} (ha : a < 4294967296) (hb : b < 4294967296) : a ^^^ b < 4294967296 := Nat.xor_lt_two_pow (n := 32) ha hb
theorem step_lt {s : Nat} (h : s < 4294967296) : step s < 4294967296 := by
  unfold step poly
  split
  · exact xor_lt32 (by omega) (by decide)
  · omega
theorem steps_lt {s : Nat} (h : s < 4294967296) : ∀ k, steps k s < 4294967296
  | 0 => h
  | k + 1 => step_lt (steps_lt h k)
theorem rstep_lt {s b k : Nat} (h : s < 4294967296) : rstep s b k < 4294967296 := by
  unfold rstep poly
  split
  · omega
  · exact xor_lt32 (by omega) (by decide)
theorem rsteps_lt {s b : Nat} (h : s < 4294967296) : ∀ k, rsteps b k s < 4294967296
  | 0 => h
  | k + 1 => rstep_lt (rsteps_lt h k)
theorem xor_half (a b : Nat) : (a ^^^ b) / 2 = (a / 2) ^^^ (b / 2) := by
  have := Nat.shiftRight_xor_distrib (a := a) (b := b) (i := 1)
  simpa [Nat.shiftRight_eq_div_pow] using this
theorem steps_eq (s b : Nat) : ∀ k, steps k (s ^^^ b) = rsteps b k s ^^^ (b / 2 ^ k)
  | 0 => by simp [steps, rsteps]
  | k + 1 => by
    have ih := steps_eq s b k
    simp only [steps, rsteps, ih]
    generalize rsteps b k s = r
    have h2 : b / 2 ^ (k + 1) = b / 2 ^ k / 2 := by rw [Nat.pow_succ, Nat.div_div_eq_div_mul]
    rw [h2]
    unfold rstep step
    generalize b / 2 ^ k = q
    have hm : (r ^^^ q) % 2 = (r + q) % 2 := by
      have h := @Nat.xor_mod_two_eq_one r q
      omega
    rw [hm, xor_half]
    by_cases h : r % 2 = q % 2
    · rw [if_pos h, if_neg (by omega)]
    · rw [if_neg h, if_pos (by omega), Nat.xor_assoc, Nat.xor_comm (q / 2), Nat.xor_assoc]
theorem steps8 (s b : Nat) (hb : b < 256) : steps 8 (s ^^^ b) = rsteps b 8 s := by
  rw [steps_eq, Nat.div_eq_of_lt (show b < 2 ^ 8 from hb), Nat.xor_zero]
def eat (s : Nat) (b : UInt8) : Nat := steps 8 (s ^^^ b.toNat)
theorem eat_lt {s : Nat} (h : s < 4294967296) (b : UInt8) : eat s b < 4294967296 := steps_lt (xor_lt32 h (by have := b.toNat_lt; omega)) 8
def crcOf (l : List UInt8) : Nat := l.foldl eat 4294967295
theorem crc_lt (l : List UInt8) : crcOf l < 4294967296 := by
  unfold crcOf
  have : ∀ (l : List UInt8) s, s < 4294967296 → l.foldl eat s < 4294967296 := by
    intro l
    induction l with
    | nil => exact fun s h => h
    | cons b l ih => exact fun s h => ih _ (eat_lt h b)
  exact this l _ (by decide)
theorem crc_succ (l : List UInt8) {i : Nat} (hi : i < l.length) : crcOf (l.take (i + 1)) = eat (crcOf (l.take i)) l[i] := by
  unfold crcOf
  rw [List.take_succ_eq_append_getElem hi, List.foldl_append]
  rfl
def sumOf (l : List UInt8) : Nat := crcOf l ^^^ 4294967295
theorem sum_lt (l : List UInt8) : sumOf l < 4294967296 := xor_lt32 (crc_lt l) (by decide)
theorem sum_check : sumOf [49, 50, 51, 52, 53, 54, 55, 56, 57] = 3421780262 := by decide +kernel

/-! What the operations on numbers of 32 bits are. -/
theorem wrap_nat32 {n : Nat} (h : n < 4294967296) : IntKind.u32.wrap (n : Int) = n := wrap_u32 (by omega) (by omega)
theorem ofInt32 {a : Int} (h0 : 0 ≤ a) (h1 : a < 4294967296) : (BitVec.ofInt IntKind.u32.bits a).toNat = a.toNat := by
  rw [BitVec.toNat_ofInt]
  have : ((2 ^ IntKind.u32.bits : Nat) : Int) = 4294967296 := rfl
  rw [this, Int.emod_eq_of_lt h0 h1]
theorem xor32 {a b : Int} (h0 : 0 ≤ a) (h1 : a < 4294967296) (h2 : 0 ≤ b) (h3 : b < 4294967296) : (BitVec.ofInt 32 a ^^^ BitVec.ofInt 32 b).toNat = a.toNat ^^^ b.toNat := by
  have e1 := ofInt32 h0 h1
  have e2 := ofInt32 h2 h3
  rw [BitVec.toNat_xor]
  exact congr (congrArg _ e1) e2
theorem and32 {a : Int} (h0 : 0 ≤ a) (h1 : a < 4294967296) : (BitVec.ofInt 32 a &&& BitVec.ofInt 32 1).toNat = a.toNat % 2 := by
  have e1 := ofInt32 h0 h1
  have e2 : (BitVec.ofInt 32 1).toNat = 1 := rfl
  rw [BitVec.toNat_and, e2]
  exact (congrArg (· &&& 1) e1).trans (Nat.and_one_is_mod _)
theorem bxor32 {a b : Int} (h0 : 0 ≤ a) (h1 : a < 4294967296) (h2 : 0 ≤ b) (h3 : b < 4294967296) : binV .xor (.int .u32 a) (.int .u32 b) = some (.int .u32 ((a.toNat ^^^ b.toNat : Nat) : Int)) := by
  rw [bin_xor]
  have e : (BitVec.ofInt IntKind.u32.bits a ^^^ BitVec.ofInt IntKind.u32.bits b).toNat = a.toNat ^^^ b.toNat := xor32 h0 h1 h2 h3
  rw [e, wrap_nat32 (xor_lt32 (by omega) (by omega))]
theorem band32 {a : Int} (h0 : 0 ≤ a) (h1 : a < 4294967296) : binV .and (.int .u32 a) (.int .u32 1) = some (.int .u32 ((a.toNat % 2 : Nat) : Int)) := by
  rw [bin_and]
  have e : (BitVec.ofInt IntKind.u32.bits a &&& BitVec.ofInt IntKind.u32.bits 1).toNat = a.toNat % 2 := and32 h0 h1
  rw [e, wrap_nat32 (by omega)]
theorem un_xor32 {a : Int} (h0 : 0 ≤ a) (h1 : a < 4294967296) : unV .xor (.int .u32 a) = some (.int .u32 ((a.toNat ^^^ 4294967295 : Nat) : Int)) := by
  have : unV .xor (.int .u32 a) = some (.int .u32 (IntKind.u32.wrap ((BitVec.ofInt IntKind.u32.bits 4294967295 ^^^ BitVec.ofInt IntKind.u32.bits a).toNat : Int))) := rfl
  have e : (BitVec.ofInt IntKind.u32.bits 4294967295 ^^^ BitVec.ofInt IntKind.u32.bits a).toNat = a.toNat ^^^ 4294967295 := (xor32 (by decide) (by decide) h0 h1).trans (Nat.xor_comm _ _)
  rw [this, e, wrap_nat32 (xor_lt32 (by omega) (by decide))]
theorem shr1_32 (s : Nat) : (s : Int).fdiv (2 ^ min 1 32) = ((s / 2 : Nat) : Int) := by
  rw [Int.fdiv_eq_ediv_of_nonneg _ (by decide)]
  show (s : Int) / 2 = _
  omega
end Go.Proofs.Ytnjjdpeglkiifaa.MX
