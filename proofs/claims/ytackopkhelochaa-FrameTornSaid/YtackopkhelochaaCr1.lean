/- The sum of bytes: two ways to reckon it come to the same; no program in sight. -/
import Derived.Test.YtackopkhelochaaBy1
namespace Go.Proofs.Ytackopkhelochaa.MX
open Go Go.Proofs
set_option linter.unusedSimpArgs false
set_option linter.unusedVariables false

def poly : Nat := 3988292384
def step (s : Nat) : Nat := if s % 2 = 1 then (s / 2) ^^^ poly else s / 2
def steps : Nat → Nat → Nat
  | 0, s => s
  | k + 1, s => step (steps k s)
def rstep (s b k : Nat) : Nat := if s % 2 = b / 2 ^ k % 2 then s / 2 else (s / 2) ^^^ poly
def rsteps (b : Nat) : Nat → Nat → Nat
  | 0, s => s
  | k + 1, s => rstep (rsteps b k s) b k
theorem xor_lt32 {a b : Nat} (ha : a < 4294967296) (hb : b < 4294967296) : a ^^^ b < 4294967296 := Nat.xor_lt_two_pow (n := 32) ha hb
theorem step_lt {s : Nat} (h : s < 4294967296) : step s < 4294967296 := by
  unfold step poly
  split
  · exact xor_lt32 (by omega) (by decide)
  · omega
theorem steps_lt {s : Nat} (h : s < 4294967296) : ∀ k, steps k s < 4294967296
  | 0 => h
  | k + 1 => step_lt (steps_lt h k)
theorem rstep_lt {s b k : Nat} (h : s < 4294967296) : rstep s b k < 4294967296 := by
  unfold rstep poly
  split
  · omega
  · exact xor_lt32 (by omega) (by decide)
theorem rsteps_lt {s b : Nat} (h : s < 4294967296) : ∀ k, rsteps b k s < 4294967296
  | 0 => h
  | k + 1 => rstep_lt (rsteps_lt h k)
theorem xor_half (a b : Nat) : (a ^^^ b) / 2 = (a / 2) ^^^ (b / 2) := by
  have := Nat.shiftRight_xor_distrib (a := a) (b := b) (i := 1)
  simpa [Nat.shiftRight_eq_div_pow] using this
theorem steps_eq (s b : Nat) : ∀ k, steps k (s ^^^ b) = rsteps b k s ^^^ (b / 2 ^ k)
  | 0 => by simp [steps, rsteps]
  | k + 1 => by
    have ih := steps_eq s b k
    simp only [steps, rsteps, ih]
    generalize rsteps b k s = r
    have h2 : b / 2 ^ (k + 1) = b / 2 ^ k / 2 := by rw [Nat.pow_succ, Nat.div_div_eq_div_mul]
    rw [h2]
    unfold rstep step
    generalize b / 2 ^ k = q
    have hm : (r ^^^ q) % 2 = (r + q) % 2 := by
      have h := @Nat.xor_mod_two_eq_one r q
      omega
    rw [hm, xor_half]
    by_cases h : r % 2 = q % 2
    · rw [if_pos h, if_neg (by omega)]
    · rw [if_neg h, if_pos (by omega), Nat.xor_assoc, Nat.xor_comm (q / 2), Nat.xor_assoc]
theorem steps8 (s b : Nat) (hb : b < 256) : steps 8 (s ^^^ b) = rsteps b 8 s := by
  rw [steps_eq, Nat.div_eq_of_lt (show b < 2 ^ 8 from hb), Nat.xor_zero]
def eat (s : Nat) (b : UInt8) : Nat := steps 8 (s ^^^ b.toNat)
theorem eat_lt {s : Nat} (h : s < 4294967296) (b : UInt8) : eat s b < 4294967296 := steps_lt (xor_lt32 h (by have := b.toNat_lt; omega)) 8
def crcOf (l : List UInt8) : Nat := l.foldl eat 4294967295
theorem crc_lt (l : List UInt8) : crcOf l < 4294967296 := by
  unfold crcOf
  have : ∀ (l : List UInt8) s, s < 4294967296 → l.foldl eat s < 4294967296 := by
    intro l
    induction l with
    | nil => exact fun s h => h
    | cons b l ih => exact fun s h => ih _ (eat_lt h b)
  exact this l _ (by decide)
theorem crc_succ (l : List UInt8) {i : Nat} (hi : i < l.length) : crcOf (l.take (i + 1)) = eat (crcOf (l.take i)) l[i] := by
  unfold crcOf
  rw [List.take_succ_eq_append_getElem hi, List.foldl_append]
  rfl
def sumOf (l : List UInt8) : Nat := crcOf l ^^^ 4294967295
theorem sum_lt (l : List UInt8) : sumOf l < 4294967296 := xor_lt32 (crc_lt l) (by decide)
theorem sum_check : sumOf [49, 50, 51, 52, 53, 54, 55, 56, 57] = 3421780262 := by decide +kernel

/-! What the operations on numbers of 32 bits are. -/
theorem wrap_nat32 {n : Nat} (h : n < 4294967296) : IntKind.u32.wrap (n : Int) = n := wrap_u32 (by omega) (by omega)
theorem ofInt32 {a : Int} (h0 : 0 ≤ a) (h1 : a < 4294967296) : (BitVec.ofInt IntKind.u32.bits a).toNat = a.toNat := by
  rw [BitVec.toNat_ofInt]
  have : ((2 ^ IntKind.u32.bits : Nat) : Int) = 4294967296 := rfl
  rw [this, Int.emod_eq_of_lt h0 h1]
theorem xor32 {a b : Int} (h0 : 0 ≤ a) (h1 : a < 4294967296) (h2 : 0 ≤ b) (h3 : b < 4294967296) : (BitVec.ofInt 32 a ^^^ BitVec.ofInt 32 b).toNat = a.toNat ^^^ b.toNat := by
  have e1 := ofInt32 h0 h1
  have e2 := ofInt32 h2 h3
  rw [BitVec.toNat_xor]
  exact congr (congrArg _ e1) e2
theorem and32 {a : Int} (h0 : 0 ≤ a) (h1 : a < 4294967296) : (BitVec.ofInt 32 a &&& BitVec.ofInt 32 1).toNat = a.toNat % 2 := by
  have e1 := ofInt32 h0 h1
  have e2 : (BitVec.ofInt 32 1).toNat = 1 := rfl
  rw [BitVec.toNat_and, e2]
  exact (congrArg (· &&& 1) e1).trans (Nat.and_one_is_mod _)
theorem bxor32 {a b : Int} (h0 : 0 ≤ a) (h1 : a < 4294967296) (h2 : 0 ≤ b) (h3 : b < 4294967296) : binV .xor (.int .u32 a) (.int .u32 b) = some (.int .u32 ((a.toNat ^^^ b.toNat : Nat) : Int)) := by
  rw [bin_xor]
  have e : (BitVec.ofInt IntKind.u32.bits a ^^^ BitVec.ofInt IntKind.u32.bits b).toNat = a.toNat ^^^ b.toNat := xor32 h0 h1 h2 h3
  rw [e, wrap_nat32 (xor_lt32 (by omega) (by omega))]
theorem band32 {a : Int} (h0 : 0 ≤ a) (h1 : a < 4294967296) : binV .and (.int .u32 a) (.int .u32 1) = some (.int .u32 ((a.toNat % 2 : Nat) : Int)) := by
  rw [bin_and]
  have e : (BitVec.ofInt IntKind.u32.bits a &&& BitVec.ofInt IntKind.u32.bits 1).toNat = a.toNat % 2 := and32 h0 h1
  rw [e, wrap_nat32 (by omega)]
theorem un_xor32 {a : Int} (h0 : 0 ≤ a) (h1 : a < 4294967296) : unV .xor (.int .u32 a) = some (.int .u32 ((a.toNat ^^^ 4294967295 : Nat) : Int)) := by
  have : unV .xor (.int .u32 a) = some (.int .u32 (IntKind.u32.wrap ((BitVec.ofInt IntKind.u32.bits 4294967295 ^^^ BitVec.ofInt IntKind.u32.bits a).toNat : Int))) := rfl
  have e : (BitVec.ofInt IntKind.u32.bits 4294967295 ^^^ BitVec.ofInt IntKind.u32.bits a).toNat = a.toNat ^^^ 4294967295 := (xor32 (by decide) (by decide) h0 h1).trans (Nat.xor_comm _ _)
  rw [this, e, wrap_nat32 (xor_lt32 (by omega) (by decide))]
theorem shr1_32 (s : Nat) : (s : Int).fdiv (2 ^ min 1 32) = ((s / 2 : Nat) : Int) := by
  rw [Int.fdiv_eq_ediv_of_nonneg _ (by decide)]
  show (s : Int) / 2 = _
  omega
end Go.Proofs.Ytackopkhelochaa.MX
