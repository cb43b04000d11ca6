import Derived.Test.YtcgbhcgfdcfmaaaGreatK08
import Derived.Test.YtcgbhcgfdcfmaaaGreatK09
import Derived.Test.YtcgbhcgfdcfmaaaGreatK10
import Derived.Test.YtcgbhcgfdcfmaaaGreatIR
namespace Go.Proofs.YtcgbhcgfdcfmaaaGreat.MX
open Go Go.Proofs
set_option linter.unusedSimpArgs false
set_option linter.unusedVariables false
def I64 (n : Int) : Prop := -9223372036854775808 ≤ n ∧ n < 9223372036854775808
def a9F (x : UInt8) : List Value := [.int .u8 (x.toNat : Int)]
theorem a5J (x : UInt8) : (a9F x).length = 1 := rfl
theorem a4I (x : UInt8) : pC (a9F x) = true := rfl
theorem b4g (x : UInt8) : (x.toNat : Int) < 256 := by have := x.toNat_lt; omega
def B8 (n : Int) : UInt8 := UInt8.ofNat (n % 256).toNat
theorem a8J (n : Int) : ((B8 n).toNat : Int) = n % 256 := by
 have h1 : 0 ≤ n % 256 := Int.emod_nonneg _ (by decide)
 have h2 : n % 256 < 256 := Int.emod_lt_of_pos _ (by decide)
 simp only [B8, UInt8.toNat_ofNat']
 omega
theorem a7p (n : Int) : IntKind.u8.wrap n = n % 256 := by
 simp only [IntKind.wrap, IntKind.signed, IntKind.bits]
 simp
theorem b5B (n : Int) : IntKind.u8.wrap n = ((B8 n).toNat : Int) := by rw [a7p, a8J]
def le : Nat → Int → List UInt8
 | 0, _ => []
 | n + 1, v => B8 v :: le n (v / 256)
theorem a1N : ∀ (n : Nat) (v : Int), (le n v).length = n
 | 0, _ => rfl
 | n + 1, v => by simp [le, a1N n]
theorem b1d : ∀ (n : Nat) (v : Int), le (n + 1) v = le n v ++ [B8 (v / 256 ^ n)]
 | 0, v => by simp [le]
 | n + 1, v => by
  rw [show le (n + 1 + 1) v = B8 v :: le (n + 1) (v / 256) from rfl, b1d n (v / 256)]
  simp only [le, l_j]
  rw [Int.pow_succ, Int.mul_comm, Int.ediv_ediv_of_nonneg (by decide)]
def num : List UInt8 → Int
 | [] => 0
 | x :: l => x.toNat + 256 * num l
theorem a4R : ∀ l, 0 ≤ num l
 | [] => Int.le_refl _
 | x :: l => by have := a4R l; simp only [num]; omega
theorem b5M : ∀ l, num l < 256 ^ l.length
 | [] => by decide
 | x :: l => by
  have h1 := b5M l
  have h2 := b4g x
  simp only [num, l_f, Int.pow_succ]
  omega
theorem c0n (x : UInt8) (m : Int) : B8 (x.toNat + 256 * m) = x := by
 apply UInt8.toNat_inj.1
 have h1 := a8J (x.toNat + 256 * m)
 have h2 := b4g x
 omega
theorem b4Q : ∀ l : List UInt8, le l.length (num l) = l
 | [] => rfl
 | x :: l => by
  have h2 := b4g x
  simp only [l_f, le, num, c0n]
  rw [show (x.toNat + 256 * num l) / 256 = num l by omega, b4Q l]
theorem b0O (k : Nat) (v : Int) : v.fdiv (2 ^ (8 * k)) = v / 256 ^ k := by
 rw [Int.pow_mul, Int.fdiv_eq_ediv_of_nonneg _ (Int.le_of_lt (Int.pow_pos (by decide)))]
 rfl
theorem shr8 (v : Int) : v.fdiv (2 ^ min 8 64) = v / 256 := by
 have := b0O 1 v
 simpa using this
theorem a5P (k : Nat) (v : Int) : v / 256 ^ k = 0 ↔ 0 ≤ v ∧ v < 256 ^ k := by
 have hp : (0 : Int) < 256 ^ k := Int.pow_pos (by decide)
 constructor
 ·intro h
  have h1 := Int.emod_add_mul_ediv v (256 ^ k)
  rw [h, Int.mul_zero, Int.add_zero] at h1
  rw [← h1]
  exact ⟨Int.emod_nonneg _ (Int.ne_of_gt hp), Int.emod_lt_of_pos _ hp⟩
 ·rintro ⟨h1, h2⟩
  exact Int.ediv_eq_zero_of_lt h1 h2
section
set_option maxHeartbeats 8000000
structure Ret where
 num : Int
 ord : Int
 rea : Int
 want : Int
 res : Int
 cred : Bool
 state : Int
 day : Int
 us : List Int
 gs : List Int
 worth : Int
 paid : Int
 credd : Int
 given : Int
structure j0 where
 r : Ret
 A : Option Addr
 c : Nat
 B : Option Addr
 d : Nat
def j0.enc (x : j0) : List Value := [.int .i64 x.r.num, .int .i64 x.r.ord, .int .i64 x.r.rea, .int .i64 x.r.want, .int .i64 x.r.res, .bool x.r.cred, .int .i64 x.r.state, .int .i64 x.r.day, .slice x.A x.r.us.length x.c, .slice x.B x.r.gs.length x.d, .int .i64 x.r.worth, .int .i64 x.r.paid, .int .i64 x.r.credd, .int .i64 x.r.given]
theorem j0.enc_len (x : j0) : x.enc.length = 14 := rfl
theorem j0.enc_plain (x : j0) : pC x.enc = true := rfl
def btw (n a b : Int) : Prop := a ≤ n ∧ n ≤ b
def a2l (us gs : List Int) (k : Nat) : Prop := btw (us.getD k 0) 0 199 ∧ (0 < k → us.getD (k - 1) 0 < us.getD k 0) ∧ btw (gs.getD k 0) (-1) 4
def K2 (us gs : List Int) : Prop := btw us.length 1 200 ∧ gs.length = us.length ∧ ∀ k, k < us.length → a2l us gs k
theorem a9C {us gs : List Int} {i : Nat} (h : ∀ k, k < i → a2l us gs k) (hi : a2l us gs i) : ∀ k, k < i + 1 → a2l us gs k := fun k hk => by
 by_cases e : k = i
 ·rw [e]; exact hi
 ·exact h k (by omega)
theorem m8 {us : List Int} {i : Nat} (hi : i < us.length) : us.getD i 0 = us[i] := by simp [l_s, hi]
def a0M (n : Int) : Prop := btw n 0 1125899906842624
def Ret.right (r : Ret) : Prop := btw r.num 1 100 ∧ btw r.ord 0 19 ∧ btw r.rea 0 3 ∧ btw r.want 0 1000 ∧ btw r.res (-1) 199 ∧ btw r.state 1 9 ∧ btw r.day 0 100000 ∧ K2 r.us r.gs ∧ a0M r.worth ∧ a0M r.paid ∧ a0M r.credd ∧ a0M r.given
theorem B5 (n a b : Int) (h : c9) : d8 Tryz.prog 132 [.int .i64 n, .int .i64 a, .int .i64 b] h fun v h' => v = .bool (dcd (btw n a b)) ∧ h' = h := by
 by_cases h1 : a ≤ n
 ·by_cases h2 : n ≤ b
  ·refine EN i132.eq_1 fun K hK => ?_
   refine Wc h1 h2 ?_
   exact hK _ _ ⟨by rw [dT ⟨h1, h2⟩], rfl⟩
  ·refine EN i132.eq_1 fun K hK => ?_
   refine Wc h1 h2 ?_
   exact hK _ _ ⟨by rw [dF fun h => h2 h.2], rfl⟩
 ·refine EN i132.eq_1 fun K hK => ?_
  refine Wb h1 ?_
  exact hK _ _ ⟨by rw [dF fun h => h1 h.1], rfl⟩
end
section
set_option maxHeartbeats 4000000
theorem Y6 {n : Nat} (h : n < 18446744073709551616) : IntKind.u64.wrap (n : Int) = n := by
 have : IntKind.u64.wrap (n : Int) = (n : Int) % 18446744073709551616 := rfl
 rw [this]
 omega
theorem a4k {a b c : Nat} (h : a * b = c) (hc : c < 18446744073709551616) : v6 .mul (.int .u64 a) (.int .u64 b) = some (.int .u64 c) := by
 rw [a7b, ← Int.natCast_mul, h, Y6 hc]
theorem b5g {a b : Nat} : v6 .mul (.int .u64 a) (.int .u64 b) = some (.int .u64 (a * b % 18446744073709551616 : Nat)) := by
 rw [a7b, ← Int.natCast_mul]
 rfl
theorem a3I {a b c : Nat} (h : a + b = c) (hc : c < 18446744073709551616) : v6 .add (.int .u64 a) (.int .u64 b) = some (.int .u64 c) := by
 rw [a7T, ← Int.natCast_add, h, Y6 hc]
theorem a7G {a b c : Nat} (h : a = c + b) (hc : c < 18446744073709551616) : v6 .sub (.int .u64 a) (.int .u64 b) = some (.int .u64 c) := by
 rw [a7q, show (a : Int) - b = c by omega, Y6 hc]
theorem addM {a b : Nat} : v6 .add (.int .u64 a) (.int .u64 b) = some (.int .u64 ((a + b) % 18446744073709551616 : Nat)) := by
 rw [a7T, ← Int.natCast_add]
 rfl
theorem subM {a b c : Nat} (h : (a + (18446744073709551616 - b)) % 18446744073709551616 = c ∧ b ≤ 18446744073709551616) : v6 .sub (.int .u64 a) (.int .u64 b) = some (.int .u64 c) := by
 rw [a7q]
 have : IntKind.u64.wrap ((a : Int) - b) = ((a : Int) - b) % 18446744073709551616 := rfl
 rw [this, show ((a : Int) - b) % 18446744073709551616 = (c : Nat) by omega]
theorem b9v {a b c : Nat} (h : a / b = c) (hb : b ≠ 0) (ha : a < 18446744073709551616) : v6 .quo (.int .u64 a) (.int .u64 b) = some (.int .u64 c) := by
 have hc : c ≤ a := h ▸ Nat.div_le_self a b
 rw [b1U (by omega), Int.tdiv_eq_ediv_of_nonneg (by omega), ← Int.natCast_ediv, h, Y6 (by omega)]
theorem remE {a b c : Nat} (h : a % b = c) (hb : b ≠ 0) : v6 .rem (.int .u64 a) (.int .u64 b) = some (.int .u64 c) := by
 rw [b1J (by omega), Int.tmod_eq_emod_of_nonneg (by omega), ← Int.natCast_emod, h]
theorem b6N {a k c : Nat} {k' : IntKind} (hk : k ≤ 64) (h : a / 2 ^ k = c) : v6 .shr (.int .u64 a) (.int k' k) = some (.int .u64 c) := by
 rw [a7U (by omega), M7, show IntKind.u64.bits = 64 from rfl, Nat.min_eq_left hk, Int.fdiv_eq_ediv_of_nonneg _ (Int.le_of_lt (Int.pow_pos (by decide)))]
 rw [← h]
 simp
theorem b9T {a k c : Nat} {k' : IntKind} (hk : k ≤ 64) (h : a * 2 ^ k % 18446744073709551616 = c) : v6 .shl (.int .u64 a) (.int k' k) = some (.int .u64 c) := by
 rw [b1p (by omega), M7, show IntKind.u64.bits = 64 from rfl, Nat.min_eq_left hk, ← h]
 have : (a : Int) * 2 ^ k = ((a * 2 ^ k : Nat) : Int) := by simp
 rw [this]
 rfl
theorem a7x {n : Nat} : BitVec.ofInt IntKind.u64.bits (n : Int) = BitVec.ofNat 64 n := BitVec.ofInt_natCast 64 n
theorem andE {a b c : Nat} (ha : a < 18446744073709551616) (hb : b < 18446744073709551616) (h : a &&& b = c) : v6 .and (.int .u64 a) (.int .u64 b) = some (.int .u64 c) := by
 have hc : c ≤ a := h ▸ Nat.and_le_left
 rw [a7i, a7x, a7x]
 have e : (BitVec.ofNat 64 a &&& BitVec.ofNat 64 b).toNat = c := by
  rw [BitVec.toNat_and, BitVec.toNat_ofNat, BitVec.toNat_ofNat, Nat.mod_eq_of_lt (by simpa using ha), Nat.mod_eq_of_lt (by simpa using hb), h]
 exact (congrArg (fun n : Nat => some (Value.int IntKind.u64 (IntKind.u64.wrap (n : Int)))) e).trans (by rw [Y6 (by omega)])
theorem orE {a b c : Nat} (ha : a < 18446744073709551616) (hb : b < 18446744073709551616) (h : a ||| b = c) : v6 .or (.int .u64 a) (.int .u64 b) = some (.int .u64 c) := by
 have hc : c < 18446744073709551616 := h ▸ Nat.or_lt_two_pow (n := 64) ha hb
 rw [b3Z, a7x, a7x]
 have e : (BitVec.ofNat 64 a ||| BitVec.ofNat 64 b).toNat = c := by
  rw [BitVec.toNat_or, BitVec.toNat_ofNat, BitVec.toNat_ofNat, Nat.mod_eq_of_lt (by simpa using ha), Nat.mod_eq_of_lt (by simpa using hb), h]
 exact (congrArg (fun n : Nat => some (Value.int IntKind.u64 (IntKind.u64.wrap (n : Int)))) e).trans (by rw [Y6 (by omega)])
theorem a5d (a : Nat) (ha : a < 18446744073709551616) : v6 .and (.int .u64 a) (.int .u64 4294967295) = some (.int .u64 ((a % 4294967296 : Nat) : Int)) :=
 andE (b := 4294967295) ha (by decide) (Nat.and_two_pow_sub_one_eq_mod a 32)
theorem a1j (a : Nat) : v6 .shr (.int .u64 a) (.int .u64 32) = some (.int .u64 ((a / 4294967296 : Nat) : Int)) := b6N (k := 32) (by omega) rfl
theorem a7u {a b c d : Nat} (h1 : a ≤ c) (h2 : b ≤ d) : a * b ≤ c * d := Nat.mul_le_mul h1 h2
theorem b2N (x y : Nat) : x * y = (x / 4294967296) * (y / 4294967296) * 18446744073709551616 + ((x / 4294967296) * (y % 4294967296) + (x % 4294967296) * (y / 4294967296)) * 4294967296 + (x % 4294967296) * (y % 4294967296) := by
 have hx : x = (x / 4294967296) * 4294967296 + x % 4294967296 := by omega
 have hy : y = (y / 4294967296) * 4294967296 + y % 4294967296 := by omega
 conv => lhs; rw [hx, hy]
 generalize x / 4294967296 = a
 generalize x % 4294967296 = b
 generalize y / 4294967296 = c
 generalize y % 4294967296 = d
 rw [M1, Nat.mul_add, Nat.mul_add, Nat.mul_mul_mul_comm, Nat.mul_right_comm a 4294967296 d, ← Nat.mul_assoc b c]
 omega
theorem a8N (x y : Nat) (hx : x < 18446744073709551616) (hy : y < 18446744073709551616) (h : c9) : d8 Tryz.prog 110 [.int .u64 x, .int .u64 y] h fun v h' => v = .tuple #[.int .u64 (x * y / 18446744073709551616 : Nat), .int .u64 (x * y % 18446744073709551616 : Nat)] ∧ h' = h := by
 have hs := b2N x y
 have a1 := a5d x hx
 have a2 := a5d y hy
 have s1 := a1j x
 have s2 := a1j y
 have b1 : x / 4294967296 ≤ 4294967295 := by omega
 have b2 : y / 4294967296 ≤ 4294967295 := by omega
 have b3 : x % 4294967296 ≤ 4294967295 := by omega
 have b4 : y % 4294967296 ≤ 4294967295 := by omega
 have hlo := b5g (a := x) (b := y)
 generalize x / 4294967296 = x1 at *
 generalize y / 4294967296 = y1 at *
 generalize x % 4294967296 = x0 at *
 generalize y % 4294967296 = y0 at *
 have c11 := a7u b1 b2
 have c10 := a7u b1 b4
 have c01 := a7u b3 b2
 have c00 := a7u b3 b4
 generalize h00 : x0 * y0 = p00 at *
 generalize h10 : x1 * y0 = p10 at *
 generalize h01 : x0 * y1 = p01 at *
 generalize h11 : x1 * y1 = p11 at *
 have m00 := a4k h00 (by omega)
 have m10 := a4k h10 (by omega)
 have m01 := a4k h01 (by omega)
 have m11 := a4k h11 (by omega)
 have s3 := a1j p00
 have d1 := a3I (a := p10) (b := p00 / 4294967296) rfl (by omega)
 have a3 := a5d (p10 + p00 / 4294967296) (by omega)
 have s4 := a1j (p10 + p00 / 4294967296)
 have d2 := a3I (a := (p10 + p00 / 4294967296) % 4294967296) (b := p01) rfl (by omega)
 have d3 := a3I (a := p11) (b := (p10 + p00 / 4294967296) / 4294967296) rfl (by omega)
 have s5 := a1j ((p10 + p00 / 4294967296) % 4294967296 + p01)
 have d4 := a3I (a := p11 + (p10 + p00 / 4294967296) / 4294967296) (b := ((p10 + p00 / 4294967296) % 4294967296 + p01) / 4294967296) rfl (by omega)
 have hhi : p11 + (p10 + p00 / 4294967296) / 4294967296 + ((p10 + p00 / 4294967296) % 4294967296 + p01) / 4294967296 = x * y / 18446744073709551616 := by omega
 rw [hhi] at d4
 refine EN i110.eq_1 fun K hK => ?_
 refine Wi @i110.eq_1 a1 a2 s1 s2 m00 m10 (Pf m01 m11 s3 d1 (Pf a3 s4 d2 d3 (Pd s5 d4 hlo))) ?_
 exact hK _ _ ⟨rfl, rfl⟩
def x7 (n : Nat) : Nat := if n = 0 then 0 else n.log2 + 1
theorem B3 (n k : Nat) (h : 2 ^ k ≤ n) : x7 n = k + x7 (n / 2 ^ k) := by
 have hp : 0 < 2 ^ k := Nat.pow_pos (by decide)
 have h1 : n / 2 ^ k ≠ 0 := by
  have := Nat.div_pos h hp
  omega
 have h0 : n ≠ 0 := by omega
 unfold x7
 rw [if_neg h0, if_neg h1]
 have : n.log2 = k + (n / 2 ^ k).log2 := by
  rw [Nat.log2_eq_iff h0]
  have h2 := (Nat.log2_eq_iff h1).1 rfl
  constructor
  ·rw [Nat.pow_add, U5]
   exact (Nat.le_div_iff_mul_le hp).1 h2.1
  ·rw [show k + (n / 2 ^ k).log2 + 1 = ((n / 2 ^ k).log2 + 1) + k by omega, Nat.pow_add]
   exact (Nat.div_lt_iff_lt_mul hp).1 h2.2
 omega
theorem P7 {n : Nat} (h : n ≠ 0) : 2 ^ (x7 n - 1) ≤ n ∧ n < 2 ^ x7 n ∧ 0 < x7 n := by
 unfold x7
 rw [if_neg h]
 have := (Nat.log2_eq_iff h).1 rfl
 exact ⟨by simpa using this.1, this.2, by omega⟩
def b9h (T : Value) : Bool := (List.range 256).all fun n => match a4M T (.int .u8 n) with
 | some (.int .u8 k) => k == (x7 n : Int)
 | _ => false
theorem c0g {T : Value} (h : b9h T = true) {n : Nat} (hn : n < 256) : a4M T (.int .u8 n) = some (.int .u8 (x7 n : Nat)) := by
 have := List.all_eq_true.1 h n (List.mem_range.2 hn)
 split at this
 ·rename_i k e
  rw [e, eq_of_beq this]
 ·cases this
theorem O9 {T : Value} {n : Nat} {K : Value → Prop} {t : Tag K} (h : b9h T = true) (hn : n < 256) (hk : K (.int .u8 (x7 n : Nat))) : z7 (a4M T (.int .u8 n)) K t := by
 rw [c0g h hn]
 exact hk
theorem a4h {n : Nat} (h : n < 256) : IntKind.u8.wrap (n : Int) = n := by
 have : IntKind.u8.wrap (n : Int) = (n : Int) % 256 := rfl
 rw [this]
 omega
theorem P8 {n : Nat} (h : n < 256) : x7 n ≤ 8 := by
 by_cases h0 : n = 0
 ·subst h0; decide
 ·have := (P7 h0).1
  have h2 := (P7 h0).2.2
  apply Nat.le_of_not_lt
  intro h3
  have : 2 ^ 8 ≤ 2 ^ (x7 n - 1) := Nat.pow_le_pow_right (by decide) (by omega)
  omega
theorem L5 {b m a : Nat} (h : a = m + b) (hb : b ≤ 8) (hm : m ≤ 56) : IntKind.i64.wrap ((m : Int) + IntKind.i64.wrap (b : Int)) = a := by
 rw [m9 (x := (b : Int)) (by omega) (by omega), m9 (by omega) (by omega)]
 omega
set_option maxRecDepth 1000000 in
theorem b5Z (x : Nat) (hx : x < 18446744073709551616) (h : c9) : d8 Tryz.prog 167 [.int .u64 x] h fun v h' => v = .int .i64 (x7 x : Nat) ∧ h' = h := by
 have s32 := fun n => a1j n
 have s16 : ∀ n : Nat, v6 .shr (.int .u64 n) (.int .u64 16) = some (.int .u64 ((n / 65536 : Nat) : Int)) := fun n => b6N (k := 16) (by omega) rfl
 have s8 : ∀ n : Nat, v6 .shr (.int .u64 n) (.int .u64 8) = some (.int .u64 ((n / 256 : Nat) : Int)) := fun n => b6N (k := 8) (by omega) rfl
 have w16 : IntKind.i64.wrap ((0 : Int) + 16) = 16 := by decide
 have w8 : IntKind.i64.wrap ((0 : Int) + 8) = 8 := by decide
 have w48 : IntKind.i64.wrap ((32 : Int) + 16) = 48 := by decide
 have w40 : IntKind.i64.wrap ((32 : Int) + 8) = 40 := by decide
 have w56 : IntKind.i64.wrap ((48 : Int) + 8) = 56 := by decide
 have w24 : IntKind.i64.wrap ((16 : Int) + 8) = 24 := by decide
 refine EN i167.eq_1 fun K hK => ?_
 by_cases c0 : (4294967296 : Int) ≤ (x : Nat)
 ·refine Wi @i167.eq_1 c0 s32 s16 s8 w16 w8 (Pe w48 w40 w56 w24) ?_
  by_cases c1 : (65536 : Int) ≤ ((x) / 4294967296 : Nat)
  ·refine Wi c1 s32 s16 s8 w16 w8 w48 (Pd w40 w56 w24) ?_
   by_cases c2 : (256 : Int) ≤ (((x) / 4294967296) / 65536 : Nat)
   ·refine Wi c2 s32 s16 s8 w16 w8 w48 (Pd w40 w56 w24) ?_
    have hw := a4h (n := (((x) / 4294967296) / 65536) / 256) (by omega)
    refine Wb hw ?_
    refine O9 (by kernel_rfl) (by omega) ?_
    refine Wa ?_
    refine hK _ _ ⟨congrArg (Value.int .i64) (L5 (m := 56) ?_ (P8 (by omega)) (by omega)), rfl⟩
    have q32 := B3 (x) 32 (by omega)
    rw [show (2 : Nat) ^ 32 = 4294967296 from rfl] at q32
    have q16 := B3 ((x) / 4294967296) 16 (by omega)
    rw [show (2 : Nat) ^ 16 = 65536 from rfl] at q16
    have q8 := B3 (((x) / 4294967296) / 65536) 8 (by omega)
    rw [show (2 : Nat) ^ 8 = 256 from rfl] at q8
    omega
   ·refine Wi c2 s32 s16 s8 w16 w8 w48 (Pd w40 w56 w24) ?_
    have hw := a4h (n := ((x) / 4294967296) / 65536) (by omega)
    refine Wb hw ?_
    refine O9 (by kernel_rfl) (by omega) ?_
    refine Wa ?_
    refine hK _ _ ⟨congrArg (Value.int .i64) (L5 (m := 48) ?_ (P8 (by omega)) (by omega)), rfl⟩
    have q32 := B3 (x) 32 (by omega)
    rw [show (2 : Nat) ^ 32 = 4294967296 from rfl] at q32
    have q16 := B3 ((x) / 4294967296) 16 (by omega)
    rw [show (2 : Nat) ^ 16 = 65536 from rfl] at q16
    omega
  ·refine Wi c1 s32 s16 s8 w16 w8 w48 (Pd w40 w56 w24) ?_
   by_cases c2 : (256 : Int) ≤ ((x) / 4294967296 : Nat)
   ·refine Wi c2 s32 s16 s8 w16 w8 w48 (Pd w40 w56 w24) ?_
    have hw := a4h (n := ((x) / 4294967296) / 256) (by omega)
    refine Wb hw ?_
    refine O9 (by kernel_rfl) (by omega) ?_
    refine Wa ?_
    refine hK _ _ ⟨congrArg (Value.int .i64) (L5 (m := 40) ?_ (P8 (by omega)) (by omega)), rfl⟩
    have q32 := B3 (x) 32 (by omega)
    rw [show (2 : Nat) ^ 32 = 4294967296 from rfl] at q32
    have q8 := B3 ((x) / 4294967296) 8 (by omega)
    rw [show (2 : Nat) ^ 8 = 256 from rfl] at q8
    omega
   ·refine Wi c2 s32 s16 s8 w16 w8 w48 (Pd w40 w56 w24) ?_
    have hw := a4h (n := (x) / 4294967296) (by omega)
    refine Wb hw ?_
    refine O9 (by kernel_rfl) (by omega) ?_
    refine Wa ?_
    refine hK _ _ ⟨congrArg (Value.int .i64) (L5 (m := 32) ?_ (P8 (by omega)) (by omega)), rfl⟩
    have q32 := B3 (x) 32 (by omega)
    rw [show (2 : Nat) ^ 32 = 4294967296 from rfl] at q32
    omega
 ·refine Wi @i167.eq_1 c0 s32 s16 s8 w16 w8 (Pe w48 w40 w56 w24) ?_
  by_cases c1 : (65536 : Int) ≤ (x : Nat)
  ·refine Wi c1 s32 s16 s8 w16 w8 w48 (Pd w40 w56 w24) ?_
   by_cases c2 : (256 : Int) ≤ ((x) / 65536 : Nat)
   ·refine Wi c2 s32 s16 s8 w16 w8 w48 (Pd w40 w56 w24) ?_
    have hw := a4h (n := ((x) / 65536) / 256) (by omega)
    refine Wb hw ?_
    refine O9 (by kernel_rfl) (by omega) ?_
    refine Wa ?_
    refine hK _ _ ⟨congrArg (Value.int .i64) (L5 (m := 24) ?_ (P8 (by omega)) (by omega)), rfl⟩
    have q16 := B3 (x) 16 (by omega)
    rw [show (2 : Nat) ^ 16 = 65536 from rfl] at q16
    have q8 := B3 ((x) / 65536) 8 (by omega)
    rw [show (2 : Nat) ^ 8 = 256 from rfl] at q8
    omega
   ·refine Wi c2 s32 s16 s8 w16 w8 w48 (Pd w40 w56 w24) ?_
    have hw := a4h (n := (x) / 65536) (by omega)
    refine Wb hw ?_
    refine O9 (by kernel_rfl) (by omega) ?_
    refine Wa ?_
    refine hK _ _ ⟨congrArg (Value.int .i64) (L5 (m := 16) ?_ (P8 (by omega)) (by omega)), rfl⟩
    have q16 := B3 (x) 16 (by omega)
    rw [show (2 : Nat) ^ 16 = 65536 from rfl] at q16
    omega
  ·refine Wi c1 s32 s16 s8 w16 w8 w48 (Pd w40 w56 w24) ?_
   by_cases c2 : (256 : Int) ≤ (x : Nat)
   ·refine Wi c2 s32 s16 s8 w16 w8 w48 (Pd w40 w56 w24) ?_
    have hw := a4h (n := (x) / 256) (by omega)
    refine Wb hw ?_
    refine O9 (by kernel_rfl) (by omega) ?_
    refine Wa ?_
    refine hK _ _ ⟨congrArg (Value.int .i64) (L5 (m := 8) ?_ (P8 (by omega)) (by omega)), rfl⟩
    have q8 := B3 (x) 8 (by omega)
    rw [show (2 : Nat) ^ 8 = 256 from rfl] at q8
    omega
   ·refine Wi c2 s32 s16 s8 w16 w8 w48 (Pd w40 w56 w24) ?_
    have hw := a4h (n := x) (by omega)
    refine Wb hw ?_
    refine O9 (by kernel_rfl) (by omega) ?_
    refine Wa ?_
    refine hK _ _ ⟨congrArg (Value.int .i64) (L5 (m := 0) ?_ (P8 (by omega)) (by omega)), rfl⟩
    omega
end
section
set_option maxHeartbeats 8000000
set_option maxRecDepth 100000
section
variable {y1 y0 u u1 q r : Nat}
theorem b1R (hy : 0 < y1) (hu1 : u1 < 4294967296) : (u * 4294967296 + u1) / (y1 * 4294967296 + y0) ≤ u / y1 := by
 have h1 : (u * 4294967296 + u1) / (y1 * 4294967296 + y0) ≤ (u * 4294967296 + u1) / (4294967296 * y1) := Nat.div_le_div_left (by omega) (by omega)
 rw [← Nat.div_div_eq_div_mul, show (u * 4294967296 + u1) / 4294967296 = u by omega] at h1
 exact h1
theorem a1B (hy : 0 < y1) (hq : q * y1 + r = u) (h : q * y0 ≤ r * 4294967296 + u1) : q ≤ (u * 4294967296 + u1) / (y1 * 4294967296 + y0) := by
 rw [Nat.le_div_iff_mul_le (by omega), Nat.mul_add, ← Nat.mul_assoc, ← hq, M1]
 omega
theorem a7X (hy : 0 < y1) (hq : q * y1 + r = u) (h : r * 4294967296 + u1 < q * y0) : (u * 4294967296 + u1) / (y1 * 4294967296 + y0) < q := by
 rw [Nat.div_lt_iff_lt_mul (by omega)]
 have e1 : q * (y1 * 4294967296 + y0) = q * y1 * 4294967296 + q * y0 := by rw [Nat.mul_add, ← Nat.mul_assoc]
 rw [e1, ← hq]
 generalize q * y1 = a at *
 generalize q * y0 = b at *
 rw [M1, Nat.add_assoc]
 exact Nat.add_lt_add_left h _
theorem a7n (hy : 0 < y1) (hu1 : u1 < 4294967296) (hu : u < y1 * 4294967296 + y0) : (u * 4294967296 + u1) / (y1 * 4294967296 + y0) < 4294967296 := by
 rw [Nat.div_lt_iff_lt_mul (by omega)]
 omega
theorem b6D (hy : 2147483648 ≤ y1) (hy0 : y0 < 4294967296) (hu : u < y1 * 4294967296 + y0) : u / y1 ≤ 4294967297 := by
 apply Nat.le_of_lt_succ
 rw [Nat.div_lt_iff_lt_mul (by omega)]
 omega
end
theorem Z5 {P : Program} {c : j3} {id : Nat} {T : Env → c9 → Prop} {Q : D5 → Env → c9 → Prop} {ρ : Env} {h : c9} {t1 : Tag c} {t2 : Tag (a2w id (Q6 T Q))} {t3 : Tag ρ} {t4 : Tag h} (I : Env → c9 → Prop)
  (hw : ∀ J : Env → c9 → Prop, (∀ ρ h, I ρ h → J ρ h) → a8c P c (a2w id (Q6 J Q)) ρ h ⟨⟩ ⟨⟩ ⟨⟩ ⟨⟩) (hT : ∀ ρ h, I ρ h → T ρ h) : a8c P c (a2w id (Q6 T Q)) ρ h t1 t2 t3 t4 := hw T hT
theorem a3e (x : Nat) (hx : x < 18446744073709551616) (h : c9) : d8 Tryz.prog 151 [.int .u64 x] h fun v h' => v = .int .i64 (64 - (x7 x : Int)) ∧ h' = h := by
 refine EN i151.eq_1 fun K hK => Wa ?_
 refine cI (b5Z x hx h) ?_
 rintro _ _ ⟨rfl, rfl⟩
 have hb : x7 x ≤ 64 := by
  by_cases h0 : x = 0
  ·subst h0; decide
  ·have := (P7 h0).1
   have h2 := (P7 h0).2.2
   apply Nat.le_of_not_lt
   intro h3
   have : 2 ^ 64 ≤ 2 ^ (x7 x - 1) := Nat.pow_le_pow_right (by decide) (by omega)
   omega
 have hw : IntKind.i64.wrap (64 - (x7 x : Int)) = 64 - (x7 x : Int) := m9 (by omega) (by omega)
 refine Wb hw ?_
 exact hK _ _ ⟨rfl, rfl⟩
theorem b3S {y : Nat} (h0 : 0 < y) (hy : y < 18446744073709551616) : ∃ s : Nat, 64 - (x7 y : Int) = s ∧ s < 64 ∧ y * 2 ^ s < 18446744073709551616 ∧ 9223372036854775808 ≤ y * 2 ^ s := by
 obtain ⟨h1, h2, h3⟩ := P7 (n := y) (by omega)
 have hb : x7 y ≤ 64 := by
  apply Nat.le_of_not_lt
  intro h4
  have : 2 ^ 64 ≤ 2 ^ (x7 y - 1) := Nat.pow_le_pow_right (by decide) (by omega)
  omega
 refine ⟨64 - x7 y, by omega, by omega, ?_, ?_⟩
 ·have : y * 2 ^ (64 - x7 y) < 2 ^ x7 y * 2 ^ (64 - x7 y) := Nat.mul_lt_mul_of_pos_right h2 (Nat.pow_pos (by decide))
  rw [← Nat.pow_add, show x7 y + (64 - x7 y) = 64 by omega] at this
  exact this
 ·have : 2 ^ (x7 y - 1) * 2 ^ (64 - x7 y) ≤ y * 2 ^ (64 - x7 y) := Z0 _ h1
  rw [← Nat.pow_add, show x7 y - 1 + (64 - x7 y) = 63 by omega] at this
  exact this
theorem a9G {hi lo s : Nat} (hs : s < 64) (hlo : lo < 18446744073709551616) : (hi * 2 ^ s + lo / 2 ^ (64 - s)) * 18446744073709551616 + lo * 2 ^ s % 18446744073709551616 = (hi * 18446744073709551616 + lo) * 2 ^ s := by
 have e : 2 ^ (64 - s) * 2 ^ s = 18446744073709551616 := by rw [← Nat.pow_add, show 64 - s + s = 64 by omega]
 have h1 : lo * 2 ^ s / 18446744073709551616 = lo / 2 ^ (64 - s) := by rw [← e, Nat.mul_div_mul_right _ _ (Nat.pow_pos (by decide))]
 have h2 := Nat.div_add_mod (lo * 2 ^ s) 18446744073709551616
 rw [h1] at h2
 rw [M1, M1, Nat.mul_right_comm hi]
 omega
theorem b0J {Y u32 u1 u0 : Nat} (hY : 0 < Y) (h0 : u0 < 4294967296) :
  let N1 := u32 * 4294967296 + u1
  let N0 := (N1 % Y) * 4294967296 + u0
  (u32 * 18446744073709551616 + (u1 * 4294967296 + u0)) / Y = (N1 / Y) * 4294967296 + N0 / Y ∧ (u32 * 18446744073709551616 + (u1 * 4294967296 + u0)) % Y = N0 % Y := by
 intro N1 N0
 have e1 := Nat.div_add_mod N1 Y
 have e2 := Nat.div_add_mod N0 Y
 have hlt := Nat.mod_lt N0 hY
 have hW : u32 * 18446744073709551616 + (u1 * 4294967296 + u0) = ((N1 / Y) * 4294967296 + N0 / Y) * Y + N0 % Y := by
  have e3 : N1 * 4294967296 + u0 = u32 * 18446744073709551616 + (u1 * 4294967296 + u0) := by show (u32 * 4294967296 + u1) * 4294967296 + u0 = _; omega
  have e4 : N0 = N1 % Y * 4294967296 + u0 := rfl
  rw [M1, Nat.mul_right_comm, U5 (N1 / Y) Y, U5 (N0 / Y) Y, Nat.add_assoc, e2, e4, ← e3, ← Nat.add_assoc, ← M1, e1]
 rw [hW]
 constructor
 ·rw [U5, Nat.mul_add_div hY, Nat.div_eq_of_lt hlt, T2]
 ·rw [U5, Nat.mul_add_mod, Nat.mod_eq_of_lt hlt]
theorem b2R {Y u32 u1 u0 : Nat} (hY : 0 < Y) (h0 : u0 < 4294967296) : ∃ q1 u21 q0 rm, q1 = (u32 * 4294967296 + u1) / Y ∧ q1 * Y + u21 = u32 * 4294967296 + u1 ∧ u21 < Y ∧ q0 = (u21 * 4294967296 + u0) / Y ∧ q0 * Y + rm = u21 * 4294967296 + u0 ∧ rm < Y ∧
  (u32 * 18446744073709551616 + (u1 * 4294967296 + u0)) / Y = q1 * 4294967296 + q0 ∧ (u32 * 18446744073709551616 + (u1 * 4294967296 + u0)) % Y = rm := by
 have h := b0J (u32 := u32) (u1 := u1) hY h0
 refine ⟨_, _, _, _, rfl, ?_, Nat.mod_lt _ hY, rfl, ?_, Nat.mod_lt _ hY, h.1, h.2⟩
 ·rw [U5]; exact Nat.div_add_mod _ _
 ·rw [U5]; exact Nat.div_add_mod _ _
theorem c0G {q : Nat} (h : q < 4294967296) : q * 4294967296 < 18446744073709551616 := by omega
theorem c0X {q r : Nat} (h : q < 4294967296) (k : r < 4294967296) : q * 4294967296 + r < 18446744073709551616 := by omega
end
section
set_option maxHeartbeats 4000000
def j4 (x : Int) : List Value := [.int .i64 x]
theorem zEl (x : Int) : (j4 x).length = 1 := rfl
theorem zEp (x : Int) : pC (j4 x) = true := rfl
section
variable {h0 h : c9} {l : List HP}
theorem B4 {T b n c : Nat} {D : List Int} (S : St h0 h (f9 j4 1 T (.slice (some ⟨b, 0, none⟩) n c) D :: l)) {i : Nat} {x : Int} (hx : D[i]? = some x) : rd1 h (.pointer (some ⟨b, i * 1, none⟩)) = some (.int .i64 x) := by
 obtain ⟨hi, rfl⟩ := List.getElem?_eq_some_iff.1 hx
 obtain ⟨b', o', hA, hr⟩ := S.arr zEl i hi
 cases hA
 have := rP hr 0 (by omega)
 simpa [j4] using this
theorem Y8 (A1 A2 A3 : List Int) (x y : Int) :
  let D := A1 ++ x :: (A2 ++ y :: A3)
  D[A1.length]? = some x ∧ D[A1.length + 1 + A2.length]? = some y ∧ (D.set A1.length y).set (A1.length + 1 + A2.length) x = A1 ++ y :: (A2 ++ x :: A3) ∧ (D.set (A1.length + 1 + A2.length) x).set A1.length y = A1 ++ y :: (A2 ++ x :: A3) := by
 have e : ∀ a : Int, (A1 ++ a :: (A2 ++ y :: A3)) = (A1 ++ a :: A2) ++ y :: A3 := fun a => by simp
 have e2 : ∀ a : Int, (A1 ++ a :: (A2 ++ x :: A3)) = (A1 ++ a :: A2) ++ x :: A3 := fun a => by simp
 have hl : ∀ a : Int, (A1 ++ a :: A2).length = A1.length + 1 + A2.length := fun a => by simp; omega
 intro D
 refine ⟨?_, ?_, ?_, ?_⟩
 ·show (A1 ++ x :: _)[A1.length]? = _
  rw [a5S (v8 _), Nat.sub_self]; rfl
 ·show (A1 ++ x :: (A2 ++ y :: A3))[_]? = _
  rw [e, ← hl x, a5S (v8 _), Nat.sub_self]; rfl
 ·show ((A1 ++ x :: (A2 ++ y :: A3)).set _ y).set _ x = _
  rw [a4o _ _ (v8 _), Nat.sub_self, l_h, e, ← hl y, a4o _ _ (v8 _), Nat.sub_self, l_h, e2]
 ·show ((A1 ++ x :: (A2 ++ y :: A3)).set _ x).set _ y = _
  rw [e, ← hl x, a4o _ _ (v8 _), Nat.sub_self, l_h, ← e2, a4o _ _ (v8 _), Nat.sub_self, l_h]
theorem a9e {n : Nat} (h : n < 9223372036854775808) : IntKind.i64.wrap (n : Int) = n := m9 (by omega) (by omega)
theorem a2s {a b c : Nat} (h : a + b = c) (hc : c < 9223372036854775808) : IntKind.i64.wrap ((a : Int) + b) = c := by rw [show (a : Int) + b = c by omega]; exact a9e hc
theorem a0k {a b c : Nat} (h : a = c + b) (hc : c < 9223372036854775808) : IntKind.i64.wrap ((a : Int) - b) = c := by rw [show (a : Int) - b = c by omega]; exact a9e hc
theorem a0i {A : Option Addr} {c : Nat} {fv : Value} (L P M Q R : List Int) (hPQ : P.length = Q.length) {n a b : Nat} (hn : n = (L ++ (P ++ (M ++ (Q ++ R)))).length) (ha : a = L.length) (hb : b = L.length + P.length + M.length) (hs : n < 1000000) {k : Nat} (hk : k = P.length)
  (S : St h0 h (f9 j4 1 3 (.slice A n c) (L ++ (P ++ (M ++ (Q ++ R)))) :: l)) :
  d8 Tryz.prog 179 [.slice A n c, .int .i64 a, .int .i64 b, .int .i64 k, fv] h fun v h' => St h0 h' (f9 j4 1 3 (.slice A n c) (L ++ (Q ++ (M ++ (P ++ R)))) :: l) := by
 subst hk
 have hnl : n = L.length + (P.length + (M.length + (Q.length + R.length))) := by rw [hn]; simp only [l_m]
 refine EN i179.eq_1 fun K hK => Wa ?_
 refine lI (fun ρ h' => ρ 0 = .slice A n c ∧ ρ 1 = .int .i64 a ∧ ρ 2 = .int .i64 b ∧ ρ 3 = .int .i64 P.length ∧ ∃ i : Nat, ρ 10 = .int .i64 i ∧ i ≤ P.length ∧ St h0 h' (f9 j4 1 3 (.slice A n c) (L ++ ((Q.take i ++ P.drop i) ++ (M ++ ((P.take i ++ Q.drop i) ++ R)))) :: l)) (fun ρ _ => P.length - (iv (ρ 10)).toNat) ?_ ?_
 ·refine Wa ?_
  exact ⟨0, rfl, by omega, by simpa using S⟩
 ·clear S
  rintro ρ h J hJ ⟨e0, e1, e2, e3, i, e10, hi, S⟩
  refine Wc e10 e3 ?_
  refine cD (fun hlt => ?_) (fun hlt => ?_)
  ·have hiP : i < P.length := by omega
   have hiQ : i < Q.length := by omega
   have hD : L ++ ((Q.take i ++ P.drop i) ++ (M ++ ((P.take i ++ Q.drop i) ++ R))) = (L ++ Q.take i) ++ P[i] :: ((P.drop (i + 1) ++ M ++ P.take i) ++ Q[i] :: (Q.drop (i + 1) ++ R)) := by
    rw [U6 hiP, U6 hiQ]
    simp only [l_q, l_j, l_k]
   have hD2 : (L ++ Q.take i) ++ Q[i] :: ((P.drop (i + 1) ++ M ++ P.take i) ++ P[i] :: (Q.drop (i + 1) ++ R)) = L ++ ((Q.take (i + 1) ++ P.drop (i + 1)) ++ (M ++ ((P.take (i + 1) ++ Q.drop (i + 1)) ++ R))) := by
    rw [l_t hiP, l_t hiQ]
    simp only [l_q, l_j, l_k]
   have hl1 : (L ++ Q.take i).length = a + i := by rw [l_m, u6]; omega
   have hl2 : (L ++ Q.take i).length + 1 + (P.drop (i + 1) ++ M ++ P.take i).length = b + i := by simp only [l_m, u6, H8]; omega
   obtain ⟨g1, g2, g3, _⟩ := Y8 (L ++ Q.take i) (P.drop (i + 1) ++ M ++ P.take i) (Q.drop (i + 1) ++ R) P[i] Q[i]
   rw [hD] at S
   obtain ⟨bk, rfl⟩ := S.ownAt (by simp only [l_m, l_f]; omega)
   have r1 := B4 S g1
   have r2 := B4 S g2
   rw [hl2] at r2 g3
   rw [hl1] at r1 g3
   have w1 := a2s (a := a) (b := i) rfl (by omega)
   have w2 := a2s (a := b) (b := i) rfl (by omega)
   refine Wa ?_
   refine dE ?_
   refine Wi e0 e1 e2 e10 w1 w2 r1 r2 ?_
   refine u3 (i := a + i) (x := Q[i]) zEl S (by rw [← hl1]; simp only [l_m, l_f]; omega) rfl rfl rfl rfl ?_
   clear S r1 r2
   intro h S
   refine Wa ?_
   refine u3 (i := b + i) (x := P[i]) zEl S (by rw [P0, ← hl2]; simp only [l_m, l_f]; omega) rfl rfl rfl rfl ?_
   clear S
   intro h S
   rw [g3, hD2] at S
   refine Wb e10 ?_
   refine hJ _ _ ?_ ?_
   ·refine We e0 e1 e2 e3 ?_
    exact ⟨i + 1, rfl, by omega, S⟩
   ·refine Wb e10 ?_
    omega
  ·obtain rfl : i = P.length := by omega
   refine Wa ?_
   refine hK _ _ ?_
   rw [E8, List.drop_length, hPQ, E8, List.drop_length] at S
   simpa using S
end
end
section
set_option maxHeartbeats 4000000
section
variable {h0 h : c9} {l : List HP}
theorem b2O {A : Option Addr} {c : Nat} {fv : Value} (L X Y R : List Int) {n a m b : Nat} (hn : n = (L ++ (X ++ (Y ++ R))).length) (ha : a = L.length) (hm : m = L.length + X.length) (hb : b = m + Y.length) (hX : 0 < X.length) (hY : 0 < Y.length) (hs : n < 1000000)
  (S : St h0 h (f9 j4 1 3 (.slice A n c) (L ++ (X ++ (Y ++ R))) :: l)) :
  d8 Tryz.prog 175 [.slice A n c, .int .i64 a, .int .i64 m, .int .i64 b, fv] h fun v h' => St h0 h' (f9 j4 1 3 (.slice A n c) (L ++ (Y ++ (X ++ R))) :: l) := by
 have hnl : n = L.length + (X.length + (Y.length + R.length)) := by rw [hn]; simp only [l_m]
 have w1 := a0k (a := m) (b := a) (c := X.length) (by omega) (by omega)
 have w2 := a0k (a := b) (b := m) (c := Y.length) (by omega) (by omega)
 refine EN i175.eq_1 fun K hK => ?_
 refine Wd @i175.eq_1 w1 w2 ?_
 refine lI (fun ρ h' => ρ 0 = .slice A n c ∧ ρ 2 = .int .i64 m ∧ ρ 4 = fv ∧ ∃ L' P Q R' : List Int, ρ 10 = .int .i64 P.length ∧ ρ 11 = .int .i64 Q.length ∧ 0 < P.length ∧ 0 < Q.length ∧ m = L'.length + P.length ∧ n = (L' ++ (P ++ (Q ++ R'))).length ∧ L' ++ (Q ++ (P ++ R')) = L ++ (Y ++ (X ++ R)) ∧ St h0 h' (f9 j4 1 3 (.slice A n c) (L' ++ (P ++ (Q ++ R'))) :: l)) (fun ρ _ => (iv (ρ 10)).toNat + (iv (ρ 11)).toNat) ?_ ?_
 ·refine Wa ?_
  exact ⟨L, X, Y, R, rfl, rfl, hX, hY, hm, hn, rfl, S⟩
 ·clear S w1 w2
  rintro ρ h J hJ ⟨e0, e2, e4, L', P, Q, R', e10, e11, hP, hQ, hm', hn', ht, S⟩
  have hnl' : n = L'.length + (P.length + (Q.length + R'.length)) := by rw [hn']; simp only [l_m]
  have w1 := a0k (a := m) (b := P.length) (c := L'.length) (by omega) (by omega)
  by_cases heq : (P.length : Int) = Q.length
  case neg =>
   refine Wd e10 e11 @heq ?_
   by_cases hgt : (Q.length : Int) < P.length
   ·have w2 := a0k (a := P.length) (b := Q.length) (c := P.length - Q.length) (by omega) (by omega)
    have hsp : P = P.take Q.length ++ P.drop Q.length := (C6 _ _).symm
    have hl1 : (P.take Q.length).length = Q.length := by rw [u6]; omega
    have hl2 : (P.drop Q.length).length = P.length - Q.length := H8
    refine Wh e0 e2 e4 e10 e11 hgt w1 ?_
    rw [← hl2] at w2
    generalize P.take Q.length = P1 at hsp hl1
    generalize P.drop Q.length = P2 at hsp hl2 w2
    subst hsp
    rw [l_q] at S
    refine cI (a0i L' P1 P2 Q R' hl1 (by rw [hn', l_q]) rfl (by rw [hm', l_m]; omega) hs hl1.symm S) ?_
    clear S
    intro _ h S
    refine Wd e10 e11 w2 ?_
    refine hJ _ _ ?_ ?_
    ·refine Wd e0 e2 e4 ?_
     refine ⟨L' ++ Q, P2, P1, R', rfl, by rw [hl1, e11], by simp only [l_m] at *; omega, by omega, by simp only [l_m] at *; omega, by simp only [l_m] at *; omega, ?_, ?_⟩
     ·rw [← ht]; simp only [l_q]
     ·rw [l_q]; exact S
    ·refine Wc e10 e11 ?_
     simp only [l_m] at *
     omega
   ·have hlt : P.length < Q.length := by omega
    have w2 := a0k (a := Q.length) (b := P.length) (c := Q.length - P.length) (by omega) (by omega)
    have w3 := a2s (a := m) (b := Q.length) rfl (by omega)
    have w4 := a0k (a := m + Q.length) (b := P.length) (c := m + (Q.length - P.length)) (by omega) (by omega)
    have hsp : Q = Q.take (Q.length - P.length) ++ Q.drop (Q.length - P.length) := (C6 _ _).symm
    have hl1 : (Q.take (Q.length - P.length)).length = Q.length - P.length := by rw [u6]; omega
    have hl2 : (Q.drop (Q.length - P.length)).length = P.length := by rw [H8]; omega
    refine Wi e0 e2 e4 e10 e11 hgt w1 (Pc w3 w4) ?_
    rw [← hl1] at w2
    generalize hQ1 : Q.take (Q.length - P.length) = Q1 at hsp hl1 w2
    generalize hQ2 : Q.drop (Q.length - P.length) = Q2 at hsp hl2
    have hbl : m + (Q.length - P.length) = L'.length + P.length + Q1.length := by omega
    rw [hbl]
    have S2 := S
    rw [hsp, l_q] at S2
    refine cI (a0i L' P Q1 Q2 R' hl2.symm (by rw [hn', hsp, l_q]) rfl rfl hs rfl S2) ?_
    clear S S2
    intro _ h S
    refine Wd e10 e11 w2 ?_
    refine hJ _ _ ?_ ?_
    ·refine We e0 e2 e4 e10 ?_
     refine ⟨L', Q2, Q1, P ++ R', by rw [hl2], rfl, by omega, by omega, by omega, by simp only [l_m] at *; omega, ?_, S⟩
     rw [← ht, hsp]; simp only [l_q]
    ·refine Wc e10 e11 ?_
     omega
  case pos =>
   have heq' : P.length = Q.length := by omega
   have hd := dT heq
   refine Wh e0 e2 e4 e10 e11 hd w1 ?_
   have S0 : St h0 h (f9 j4 1 3 (.slice A n c) (L' ++ (P ++ ([] ++ (Q ++ R')))) :: l) := S
   have hc := a0i (fv := fv) L' P [] Q R' heq' hn' rfl (show m = L'.length + P.length + 0 from hm') hs rfl S0
   refine cI hc ?_
   clear S
   intro _ h S
   refine Wa ?_
   rw [l_k, ht] at S
   exact hK _ _ S
end
end
end Go.Proofs.YtcgbhcgfdcfmaaaGreat.MX
