import Derived.Test.YtijnkebgciaieaaGreatK13
import Derived.Test.YtijnkebgciaieaaGreatK15
import Derived.Test.YtijnkebgciaieaaGreatK08
import Derived.Test.YtijnkebgciaieaaGreatIR
namespace Go.Proofs.YtijnkebgciaieaaGreat.MX
open Go Go.Proofs
set_option linter.unusedSimpArgs false
set_option linter.unusedVariables false
section
set_option maxHeartbeats 4000000
theorem wrapU {n : Nat} (h : n < 18446744073709551616) : IntKind.u64.wrap (n : Int) = n := by
 have : IntKind.u64.wrap (n : Int) = (n : Int) % 18446744073709551616 := rfl
 rw [this]
 omega
theorem mulE {a b c : Nat} (h : a * b = c) (hc : c < 18446744073709551616) : binV .mul (.int .u64 a) (.int .u64 b) = some (.int .u64 c) := by
 rw [bin_mul, ← Int.natCast_mul, h, wrapU hc]
theorem mulM {a b : Nat} : binV .mul (.int .u64 a) (.int .u64 b) = some (.int .u64 (a * b % 18446744073709551616 : Nat)) := by
 rw [bin_mul, ← Int.natCast_mul]
 rfl
theorem addE {a b c : Nat} (h : a + b = c) (hc : c < 18446744073709551616) : binV .add (.int .u64 a) (.int .u64 b) = some (.int .u64 c) := by
 rw [bin_add, ← Int.natCast_add, h, wrapU hc]
theorem subE {a b c : Nat} (h : a = c + b) (hc : c < 18446744073709551616) : binV .sub (.int .u64 a) (.int .u64 b) = some (.int .u64 c) := by
 rw [bin_sub, show (a : Int) - b = c by omega, wrapU hc]
theorem addM {a b : Nat} : binV .add (.int .u64 a) (.int .u64 b) = some (.int .u64 ((a + b) % 18446744073709551616 : Nat)) := by
 rw [bin_add, ← Int.natCast_add]
 rfl
theorem subM {a b c : Nat} (h : (a + (18446744073709551616 - b)) % 18446744073709551616 = c ∧ b ≤ 18446744073709551616) : binV .sub (.int .u64 a) (.int .u64 b) = some (.int .u64 c) := by
 rw [bin_sub]
 have : IntKind.u64.wrap ((a : Int) - b) = ((a : Int) - b) % 18446744073709551616 := rfl
 rw [this, show ((a : Int) - b) % 18446744073709551616 = (c : Nat) by omega]
theorem quoE {a b c : Nat} (h : a / b = c) (hb : b ≠ 0) (ha : a < 18446744073709551616) : binV .quo (.int .u64 a) (.int .u64 b) = some (.int .u64 c) := by
 have hc : c ≤ a := h ▸ Nat.div_le_self a b
 rw [bin_quo (by omega), Int.tdiv_eq_ediv_of_nonneg (by omega), ← Int.natCast_ediv, h, wrapU (by omega)]
theorem remE {a b c : Nat} (h : a % b = c) (hb : b ≠ 0) : binV .rem (.int .u64 a) (.int .u64 b) = some (.int .u64 c) := by
 rw [bin_rem (by omega), Int.tmod_eq_emod_of_nonneg (by omega), ← Int.natCast_emod, h]
theorem shrE {a k c : Nat} {k' : IntKind} (hk : k ≤ 64) (h : a / 2 ^ k = c) : binV .shr (.int .u64 a) (.int k' k) = some (.int .u64 c) := by
 rw [bin_shr (by omega), l_ap, show IntKind.u64.bits = 64 from rfl, Nat.min_eq_left hk, Int.fdiv_eq_ediv_of_nonneg _ (Int.le_of_lt (Int.pow_pos (by decide)))]
 rw [← h]
 simp
theorem shlE {a k c : Nat} {k' : IntKind} (hk : k ≤ 64) (h : a * 2 ^ k % 18446744073709551616 = c) : binV .shl (.int .u64 a) (.int k' k) = some (.int .u64 c) := by
 rw [bin_shl (by omega), l_ap, show IntKind.u64.bits = 64 from rfl, Nat.min_eq_left hk, ← h]
 have : (a : Int) * 2 ^ k = ((a * 2 ^ k : Nat) : Int) := by simp
 rw [this]
 rfl
theorem ofIntN {n : Nat} : BitVec.ofInt IntKind.u64.bits (n : Int) = BitVec.ofNat 64 n := BitVec.ofInt_natCast 64 n
theorem andE {a b c : Nat} (ha : a < 18446744073709551616) (hb : b < 18446744073709551616) (h : a &&& b = c) : binV .and (.int .u64 a) (.int .u64 b) = some (.int .u64 c) := by
 have hc : c ≤ a := h ▸ Nat.and_le_left
 rw [bin_and, ofIntN, ofIntN]
 have e : (BitVec.ofNat 64 a &&& BitVec.ofNat 64 b).toNat = c := by
  rw [BitVec.toNat_and, BitVec.toNat_ofNat, BitVec.toNat_ofNat, Nat.mod_eq_of_lt (by simpa using ha), Nat.mod_eq_of_lt (by simpa using hb), h]
 exact (congrArg (fun n : Nat => some (Value.int IntKind.u64 (IntKind.u64.wrap (n : Int)))) e).trans (by rw [wrapU (by omega)])
theorem orE {a b c : Nat} (ha : a < 18446744073709551616) (hb : b < 18446744073709551616) (h : a ||| b = c) : binV .or (.int .u64 a) (.int .u64 b) = some (.int .u64 c) := by
 have hc : c < 18446744073709551616 := h ▸ Nat.or_lt_two_pow (n := 64) ha hb
 rw [bin_or, ofIntN, ofIntN]
 have e : (BitVec.ofNat 64 a ||| BitVec.ofNat 64 b).toNat = c := by
  rw [BitVec.toNat_or, BitVec.toNat_ofNat, BitVec.toNat_ofNat, Nat.mod_eq_of_lt (by simpa using ha), Nat.mod_eq_of_lt (by simpa using hb), h]
 exact (congrArg (fun n : Nat => some (Value.int IntKind.u64 (IntKind.u64.wrap (n : Int)))) e).trans (by rw [wrapU (by omega)])
theorem and32L (a : Nat) (ha : a < 18446744073709551616) : binV .and (.int .u64 a) (.int .u64 4294967295) = some (.int .u64 ((a % 4294967296 : Nat) : Int)) :=
 andE (b := 4294967295) ha (by decide) (Nat.and_two_pow_sub_one_eq_mod a 32)
theorem shr32L (a : Nat) : binV .shr (.int .u64 a) (.int .u64 32) = some (.int .u64 ((a / 4294967296 : Nat) : Int)) := shrE (k := 32) (by omega) rfl
theorem mul_lt {a b c d : Nat} (h1 : a ≤ c) (h2 : b ≤ d) : a * b ≤ c * d := Nat.mul_le_mul h1 h2
theorem mul_split (x y : Nat) : x * y = (x / 4294967296) * (y / 4294967296) * 18446744073709551616 + ((x / 4294967296) * (y % 4294967296) + (x % 4294967296) * (y / 4294967296)) * 4294967296 + (x % 4294967296) * (y % 4294967296) := by
 have hx : x = (x / 4294967296) * 4294967296 + x % 4294967296 := by omega
 have hy : y = (y / 4294967296) * 4294967296 + y % 4294967296 := by omega
 conv => lhs; rw [hx, hy]
 generalize x / 4294967296 = a
 generalize x % 4294967296 = b
 generalize y / 4294967296 = c
 generalize y % 4294967296 = d
 rw [Nat.add_mul, Nat.mul_add, Nat.mul_add, Nat.mul_mul_mul_comm, Nat.mul_right_comm a 4294967296 d, ← Nat.mul_assoc b c]
 omega
theorem Mul64_ok (x y : Nat) (hx : x < 18446744073709551616) (hy : y < 18446744073709551616) (h : Heap) : CallsH Tryz.prog 133 [.int .u64 x, .int .u64 y] h fun v h' => v = .tuple #[.int .u64 (x * y / 18446744073709551616 : Nat), .int .u64 (x * y % 18446744073709551616 : Nat)] ∧ h' = h := by
 have hs := mul_split x y
 have a1 := and32L x hx
 have a2 := and32L y hy
 have s1 := shr32L x
 have s2 := shr32L y
 have b1 : x / 4294967296 ≤ 4294967295 := by omega
 have b2 : y / 4294967296 ≤ 4294967295 := by omega
 have b3 : x % 4294967296 ≤ 4294967295 := by omega
 have b4 : y % 4294967296 ≤ 4294967295 := by omega
 have hlo := mulM (a := x) (b := y)
 generalize x / 4294967296 = x1 at *
 generalize y / 4294967296 = y1 at *
 generalize x % 4294967296 = x0 at *
 generalize y % 4294967296 = y0 at *
 have c11 := mul_lt b1 b2
 have c10 := mul_lt b1 b4
 have c01 := mul_lt b3 b2
 have c00 := mul_lt b3 b4
 generalize h00 : x0 * y0 = p00 at *
 generalize h10 : x1 * y0 = p10 at *
 generalize h01 : x0 * y1 = p01 at *
 generalize h11 : x1 * y1 = p11 at *
 have m00 := mulE h00 (by omega)
 have m10 := mulE h10 (by omega)
 have m01 := mulE h01 (by omega)
 have m11 := mulE h11 (by omega)
 have s3 := shr32L p00
 have d1 := addE (a := p10) (b := p00 / 4294967296) rfl (by omega)
 have a3 := and32L (p10 + p00 / 4294967296) (by omega)
 have s4 := shr32L (p10 + p00 / 4294967296)
 have d2 := addE (a := (p10 + p00 / 4294967296) % 4294967296) (b := p01) rfl (by omega)
 have d3 := addE (a := p11) (b := (p10 + p00 / 4294967296) / 4294967296) rfl (by omega)
 have s5 := shr32L ((p10 + p00 / 4294967296) % 4294967296 + p01)
 have d4 := addE (a := p11 + (p10 + p00 / 4294967296) / 4294967296) (b := ((p10 + p00 / 4294967296) % 4294967296 + p01) / 4294967296) rfl (by omega)
 have hhi : p11 + (p10 + p00 / 4294967296) / 4294967296 + ((p10 + p00 / 4294967296) % 4294967296 + p01) / 4294967296 = x * y / 18446744073709551616 := by omega
 rw [hhi] at d4
 refine eK c_math_bits_Mul64 (l_a rfl) fun K hK => ?_
 (try simp (disch := first|omega|assumption|exact l_a rfl) only [go_sem, ↓wBk, simprocAttr, ir_math_bits_Mul64, a1, a2, s1, s2, m00, m10, m01, m11, s3, d1, a3, s4, d2, d3, s5, d4, hlo])
 exact hK _ _ ⟨rfl, rfl⟩
def bitLen (n : Nat) : Nat := if n = 0 then 0 else n.log2 + 1
theorem bitLen_shr (n k : Nat) (h : 2 ^ k ≤ n) : bitLen n = k + bitLen (n / 2 ^ k) := by
 have hp : 0 < 2 ^ k := Nat.pow_pos (by decide)
 have h1 : n / 2 ^ k ≠ 0 := by
  have := Nat.div_pos h hp
  omega
 have h0 : n ≠ 0 := by omega
 unfold bitLen
 rw [if_neg h0, if_neg h1]
 have : n.log2 = k + (n / 2 ^ k).log2 := by
  rw [Nat.log2_eq_iff h0]
  have h2 := (Nat.log2_eq_iff h1).1 rfl
  constructor
  ·rw [Nat.pow_add, Nat.mul_comm]
   exact (Nat.le_div_iff_mul_le hp).1 h2.1
  ·rw [show k + (n / 2 ^ k).log2 + 1 = ((n / 2 ^ k).log2 + 1) + k by omega, Nat.pow_add]
   exact (Nat.div_lt_iff_lt_mul hp).1 h2.2
 omega
theorem bitLen_spec {n : Nat} (h : n ≠ 0) : 2 ^ (bitLen n - 1) ≤ n ∧ n < 2 ^ bitLen n ∧ 0 < bitLen n := by
 unfold bitLen
 rw [if_neg h]
 have := (Nat.log2_eq_iff h).1 rfl
 exact ⟨by simpa using this.1, this.2, by omega⟩
def tabOk (T : Value) : Bool := (List.range 256).all fun n => match idxTV T (.int .u8 n) with
 | some (.int .u8 k) => k == (bitLen n : Int)
 | _ => false
theorem tab_at {T : Value} (h : tabOk T = true) {n : Nat} (hn : n < 256) : idxTV T (.int .u8 n) = some (.int .u8 (bitLen n : Nat)) := by
 have := List.all_eq_true.1 h n (List.mem_range.2 hn)
 split at this
 ·rename_i k e
  rw [e, eq_of_beq this]
 ·cases this
theorem bind_tab {T : Value} {n : Nat} {K : Value → Prop} {t : Tag K} (h : tabOk T = true) (hn : n < 256) (hk : K (.int .u8 (bitLen n : Nat))) : bindT (idxTV T (.int .u8 n)) K t := by
 rw [tab_at h hn]
 exact hk
theorem wrapB {n : Nat} (h : n < 256) : IntKind.u8.wrap (n : Int) = n := by
 have : IntKind.u8.wrap (n : Int) = (n : Int) % 256 := rfl
 rw [this]
 omega
theorem bitLen_8 {n : Nat} (h : n < 256) : bitLen n ≤ 8 := by
 by_cases h0 : n = 0
 ·subst h0; decide
 ·have := (bitLen_spec h0).1
  have h2 := (bitLen_spec h0).2.2
  apply Nat.le_of_not_lt
  intro h3
  have : 2 ^ 8 ≤ 2 ^ (bitLen n - 1) := Nat.pow_le_pow_right (by decide) (by omega)
  omega
theorem Len64_fin {b m a : Nat} (h : a = m + b) (hb : b ≤ 8) (hm : m ≤ 56) : IntKind.i64.wrap ((m : Int) + IntKind.i64.wrap (b : Int)) = a := by
 rw [wrap_i64 (x := (b : Int)) (by omega) (by omega), wrap_i64 (by omega) (by omega)]
 omega
set_option maxRecDepth 1000000 in
theorem Len64_ok (x : Nat) (hx : x < 18446744073709551616) (h : Heap) : CallsH Tryz.prog 163 [.int .u64 x] h fun v h' => v = .int .i64 (bitLen x : Nat) ∧ h' = h := by
 have s32 := fun n => shr32L n
 have s16 : ∀ n : Nat, binV .shr (.int .u64 n) (.int .u64 16) = some (.int .u64 ((n / 65536 : Nat) : Int)) := fun n => shrE (k := 16) (by omega) rfl
 have s8 : ∀ n : Nat, binV .shr (.int .u64 n) (.int .u64 8) = some (.int .u64 ((n / 256 : Nat) : Int)) := fun n => shrE (k := 8) (by omega) rfl
 have w16 : IntKind.i64.wrap ((0 : Int) + 16) = 16 := by decide
 have w8 : IntKind.i64.wrap ((0 : Int) + 8) = 8 := by decide
 have w48 : IntKind.i64.wrap ((32 : Int) + 16) = 48 := by decide
 have w40 : IntKind.i64.wrap ((32 : Int) + 8) = 40 := by decide
 have w56 : IntKind.i64.wrap ((48 : Int) + 8) = 56 := by decide
 have w24 : IntKind.i64.wrap ((16 : Int) + 8) = 24 := by decide
 refine eK c_math_bits_Len64 (l_a rfl) fun K hK => ?_
 by_cases c0 : (4294967296 : Int) ≤ (x : Nat)
 ·(try simp (disch := first|omega|assumption|exact l_a rfl) only [go_sem, ↓wBk, simprocAttr, ir_math_bits_Len64, c0, s32, s16, s8, w16, w8, w48, w40, w56, w24])
  by_cases c1 : (65536 : Int) ≤ ((x) / 4294967296 : Nat)
  ·(try simp (disch := first|omega|assumption|exact l_a rfl) only [go_sem, ↓wBk, simprocAttr, c1, s32, s16, s8, w16, w8, w48, w40, w56, w24])
   by_cases c2 : (256 : Int) ≤ (((x) / 4294967296) / 65536 : Nat)
   ·(try simp (disch := first|omega|assumption|exact l_a rfl) only [go_sem, ↓wBk, simprocAttr, c2, s32, s16, s8, w16, w8, w48, w40, w56, w24])
    have hw := wrapB (n := (((x) / 4294967296) / 65536) / 256) (by omega)
    (try simp (disch := first|omega|assumption|exact l_a rfl) only [go_sem, ↓wBk, simprocAttr, hw])
    refine bind_tab (by kernel_rfl) (by omega) ?_
    (try simp (disch := first|omega|assumption|exact l_a rfl) only [go_sem, ↓wBk, simprocAttr])
    refine hK _ _ ⟨congrArg (Value.int .i64) (Len64_fin (m := 56) ?_ (bitLen_8 (by omega)) (by omega)), rfl⟩
    have q32 := bitLen_shr (x) 32 (by omega)
    rw [show (2 : Nat) ^ 32 = 4294967296 from rfl] at q32
    have q16 := bitLen_shr ((x) / 4294967296) 16 (by omega)
    rw [show (2 : Nat) ^ 16 = 65536 from rfl] at q16
    have q8 := bitLen_shr (((x) / 4294967296) / 65536) 8 (by omega)
    rw [show (2 : Nat) ^ 8 = 256 from rfl] at q8
    omega
   ·(try simp (disch := first|omega|assumption|exact l_a rfl) only [go_sem, ↓wBk, simprocAttr, c2, s32, s16, s8, w16, w8, w48, w40, w56, w24])
    have hw := wrapB (n := ((x) / 4294967296) / 65536) (by omega)
    (try simp (disch := first|omega|assumption|exact l_a rfl) only [go_sem, ↓wBk, simprocAttr, hw])
    refine bind_tab (by kernel_rfl) (by omega) ?_
    (try simp (disch := first|omega|assumption|exact l_a rfl) only [go_sem, ↓wBk, simprocAttr])
    refine hK _ _ ⟨congrArg (Value.int .i64) (Len64_fin (m := 48) ?_ (bitLen_8 (by omega)) (by omega)), rfl⟩
    have q32 := bitLen_shr (x) 32 (by omega)
    rw [show (2 : Nat) ^ 32 = 4294967296 from rfl] at q32
    have q16 := bitLen_shr ((x) / 4294967296) 16 (by omega)
    rw [show (2 : Nat) ^ 16 = 65536 from rfl] at q16
    omega
  ·(try simp (disch := first|omega|assumption|exact l_a rfl) only [go_sem, ↓wBk, simprocAttr, c1, s32, s16, s8, w16, w8, w48, w40, w56, w24])
   by_cases c2 : (256 : Int) ≤ ((x) / 4294967296 : Nat)
   ·(try simp (disch := first|omega|assumption|exact l_a rfl) only [go_sem, ↓wBk, simprocAttr, c2, s32, s16, s8, w16, w8, w48, w40, w56, w24])
    have hw := wrapB (n := ((x) / 4294967296) / 256) (by omega)
    (try simp (disch := first|omega|assumption|exact l_a rfl) only [go_sem, ↓wBk, simprocAttr, hw])
    refine bind_tab (by kernel_rfl) (by omega) ?_
    (try simp (disch := first|omega|assumption|exact l_a rfl) only [go_sem, ↓wBk, simprocAttr])
    refine hK _ _ ⟨congrArg (Value.int .i64) (Len64_fin (m := 40) ?_ (bitLen_8 (by omega)) (by omega)), rfl⟩
    have q32 := bitLen_shr (x) 32 (by omega)
    rw [show (2 : Nat) ^ 32 = 4294967296 from rfl] at q32
    have q8 := bitLen_shr ((x) / 4294967296) 8 (by omega)
    rw [show (2 : Nat) ^ 8 = 256 from rfl] at q8
    omega
   ·(try simp (disch := first|omega|assumption|exact l_a rfl) only [go_sem, ↓wBk, simprocAttr, c2, s32, s16, s8, w16, w8, w48, w40, w56, w24])
    have hw := wrapB (n := (x) / 4294967296) (by omega)
    (try simp (disch := first|omega|assumption|exact l_a rfl) only [go_sem, ↓wBk, simprocAttr, hw])
    refine bind_tab (by kernel_rfl) (by omega) ?_
    (try simp (disch := first|omega|assumption|exact l_a rfl) only [go_sem, ↓wBk, simprocAttr])
    refine hK _ _ ⟨congrArg (Value.int .i64) (Len64_fin (m := 32) ?_ (bitLen_8 (by omega)) (by omega)), rfl⟩
    have q32 := bitLen_shr (x) 32 (by omega)
    rw [show (2 : Nat) ^ 32 = 4294967296 from rfl] at q32
    omega
 ·(try simp (disch := first|omega|assumption|exact l_a rfl) only [go_sem, ↓wBk, simprocAttr, ir_math_bits_Len64, c0, s32, s16, s8, w16, w8, w48, w40, w56, w24])
  by_cases c1 : (65536 : Int) ≤ (x : Nat)
  ·(try simp (disch := first|omega|assumption|exact l_a rfl) only [go_sem, ↓wBk, simprocAttr, c1, s32, s16, s8, w16, w8, w48, w40, w56, w24])
   by_cases c2 : (256 : Int) ≤ ((x) / 65536 : Nat)
   ·(try simp (disch := first|omega|assumption|exact l_a rfl) only [go_sem, ↓wBk, simprocAttr, c2, s32, s16, s8, w16, w8, w48, w40, w56, w24])
    have hw := wrapB (n := ((x) / 65536) / 256) (by omega)
    (try simp (disch := first|omega|assumption|exact l_a rfl) only [go_sem, ↓wBk, simprocAttr, hw])
    refine bind_tab (by kernel_rfl) (by omega) ?_
    (try simp (disch := first|omega|assumption|exact l_a rfl) only [go_sem, ↓wBk, simprocAttr])
    refine hK _ _ ⟨congrArg (Value.int .i64) (Len64_fin (m := 24) ?_ (bitLen_8 (by omega)) (by omega)), rfl⟩
    have q16 := bitLen_shr (x) 16 (by omega)
    rw [show (2 : Nat) ^ 16 = 65536 from rfl] at q16
    have q8 := bitLen_shr ((x) / 65536) 8 (by omega)
    rw [show (2 : Nat) ^ 8 = 256 from rfl] at q8
    omega
   ·(try simp (disch := first|omega|assumption|exact l_a rfl) only [go_sem, ↓wBk, simprocAttr, c2, s32, s16, s8, w16, w8, w48, w40, w56, w24])
    have hw := wrapB (n := (x) / 65536) (by omega)
    (try simp (disch := first|omega|assumption|exact l_a rfl) only [go_sem, ↓wBk, simprocAttr, hw])
    refine bind_tab (by kernel_rfl) (by omega) ?_
    (try simp (disch := first|omega|assumption|exact l_a rfl) only [go_sem, ↓wBk, simprocAttr])
    refine hK _ _ ⟨congrArg (Value.int .i64) (Len64_fin (m := 16) ?_ (bitLen_8 (by omega)) (by omega)), rfl⟩
    have q16 := bitLen_shr (x) 16 (by omega)
    rw [show (2 : Nat) ^ 16 = 65536 from rfl] at q16
    omega
  ·(try simp (disch := first|omega|assumption|exact l_a rfl) only [go_sem, ↓wBk, simprocAttr, c1, s32, s16, s8, w16, w8, w48, w40, w56, w24])
   by_cases c2 : (256 : Int) ≤ (x : Nat)
   ·(try simp (disch := first|omega|assumption|exact l_a rfl) only [go_sem, ↓wBk, simprocAttr, c2, s32, s16, s8, w16, w8, w48, w40, w56, w24])
    have hw := wrapB (n := (x) / 256) (by omega)
    (try simp (disch := first|omega|assumption|exact l_a rfl) only [go_sem, ↓wBk, simprocAttr, hw])
    refine bind_tab (by kernel_rfl) (by omega) ?_
    (try simp (disch := first|omega|assumption|exact l_a rfl) only [go_sem, ↓wBk, simprocAttr])
    refine hK _ _ ⟨congrArg (Value.int .i64) (Len64_fin (m := 8) ?_ (bitLen_8 (by omega)) (by omega)), rfl⟩
    have q8 := bitLen_shr (x) 8 (by omega)
    rw [show (2 : Nat) ^ 8 = 256 from rfl] at q8
    omega
   ·(try simp (disch := first|omega|assumption|exact l_a rfl) only [go_sem, ↓wBk, simprocAttr, c2, s32, s16, s8, w16, w8, w48, w40, w56, w24])
    have hw := wrapB (n := x) (by omega)
    (try simp (disch := first|omega|assumption|exact l_a rfl) only [go_sem, ↓wBk, simprocAttr, hw])
    refine bind_tab (by kernel_rfl) (by omega) ?_
    (try simp (disch := first|omega|assumption|exact l_a rfl) only [go_sem, ↓wBk, simprocAttr])
    refine hK _ _ ⟨congrArg (Value.int .i64) (Len64_fin (m := 0) ?_ (bitLen_8 (by omega)) (by omega)), rfl⟩
    omega
end
section
set_option maxHeartbeats 8000000
set_option maxRecDepth 100000
section
variable {y1 y0 u u1 q r : Nat}
theorem dig_top (hy : 0 < y1) (hu1 : u1 < 4294967296) : (u * 4294967296 + u1) / (y1 * 4294967296 + y0) ≤ u / y1 := by
 have h1 : (u * 4294967296 + u1) / (y1 * 4294967296 + y0) ≤ (u * 4294967296 + u1) / (4294967296 * y1) := Nat.div_le_div_left (by omega) (by omega)
 rw [← Nat.div_div_eq_div_mul, show (u * 4294967296 + u1) / 4294967296 = u by omega] at h1
 exact h1
theorem dig_low (hy : 0 < y1) (hq : q * y1 + r = u) (h : q * y0 ≤ r * 4294967296 + u1) : q ≤ (u * 4294967296 + u1) / (y1 * 4294967296 + y0) := by
 rw [Nat.le_div_iff_mul_le (by omega), Nat.mul_add, ← Nat.mul_assoc, ← hq, Nat.add_mul]
 omega
theorem dig_step (hy : 0 < y1) (hq : q * y1 + r = u) (h : r * 4294967296 + u1 < q * y0) : (u * 4294967296 + u1) / (y1 * 4294967296 + y0) < q := by
 rw [Nat.div_lt_iff_lt_mul (by omega)]
 have e1 : q * (y1 * 4294967296 + y0) = q * y1 * 4294967296 + q * y0 := by rw [Nat.mul_add, ← Nat.mul_assoc]
 rw [e1, ← hq]
 generalize q * y1 = a at *
 generalize q * y0 = b at *
 rw [Nat.add_mul, Nat.add_assoc]
 exact Nat.add_lt_add_left h _
theorem dig_lt (hy : 0 < y1) (hu1 : u1 < 4294967296) (hu : u < y1 * 4294967296 + y0) : (u * 4294967296 + u1) / (y1 * 4294967296 + y0) < 4294967296 := by
 rw [Nat.div_lt_iff_lt_mul (by omega)]
 omega
theorem dig_q0 (hy : 2147483648 ≤ y1) (hy0 : y0 < 4294967296) (hu : u < y1 * 4294967296 + y0) : u / y1 ≤ 4294967297 := by
 apply Nat.le_of_lt_succ
 rw [Nat.div_lt_iff_lt_mul (by omega)]
 omega
end
theorem loop_join {P : Program} {c : MCode} {id : Nat} {T : Env → Heap → Prop} {Q : MExit → Env → Heap → Prop} {ρ : Env} {h : Heap} {t1 : Tag c} {t2 : Tag (qblk id (qseq T Q))} {t3 : Tag ρ} {t4 : Tag h} (I : Env → Heap → Prop)
  (hw : ∀ J : Env → Heap → Prop, (∀ ρ h, I ρ h → J ρ h) → loopT P c (qblk id (qseq J Q)) ρ h ⟨⟩ ⟨⟩ ⟨⟩ ⟨⟩) (hT : ∀ ρ h, I ρ h → T ρ h) : loopT P c (qblk id (qseq T Q)) ρ h t1 t2 t3 t4 := hw T hT
theorem LeadingZeros64_ok (x : Nat) (hx : x < 18446744073709551616) (h : Heap) : CallsH Tryz.prog 155 [.int .u64 x] h fun v h' => v = .int .i64 (64 - (bitLen x : Int)) ∧ h' = h := by
 (refine eK c_math_bits_LeadingZeros64 (l_a rfl) fun K hK => ?_; (try simp (disch := first|omega|assumption|exact l_a rfl) only [go_sem, ↓wBk, simprocAttr, ir_math_bits_LeadingZeros64]))
 refine cI (Len64_ok x hx h) ?_
 rintro _ _ ⟨rfl, rfl⟩
 have hb : bitLen x ≤ 64 := by
  by_cases h0 : x = 0
  ·subst h0; decide
  ·have := (bitLen_spec h0).1
   have h2 := (bitLen_spec h0).2.2
   apply Nat.le_of_not_lt
   intro h3
   have : 2 ^ 64 ≤ 2 ^ (bitLen x - 1) := Nat.pow_le_pow_right (by decide) (by omega)
   omega
 have hw : IntKind.i64.wrap (64 - (bitLen x : Int)) = 64 - (bitLen x : Int) := wrap_i64 (by omega) (by omega)
 (try simp (disch := first|omega|assumption|exact l_a rfl) only [go_sem, ↓wBk, simprocAttr, hw])
 exact hK _ _ ⟨rfl, rfl⟩
theorem norm_spec {y : Nat} (h0 : 0 < y) (hy : y < 18446744073709551616) : ∃ s : Nat, 64 - (bitLen y : Int) = s ∧ s < 64 ∧ y * 2 ^ s < 18446744073709551616 ∧ 9223372036854775808 ≤ y * 2 ^ s := by
 obtain ⟨h1, h2, h3⟩ := bitLen_spec (n := y) (by omega)
 have hb : bitLen y ≤ 64 := by
  apply Nat.le_of_not_lt
  intro h4
  have : 2 ^ 64 ≤ 2 ^ (bitLen y - 1) := Nat.pow_le_pow_right (by decide) (by omega)
  omega
 refine ⟨64 - bitLen y, by omega, by omega, ?_, ?_⟩
 ·have : y * 2 ^ (64 - bitLen y) < 2 ^ bitLen y * 2 ^ (64 - bitLen y) := Nat.mul_lt_mul_of_pos_right h2 (Nat.pow_pos (by decide))
  rw [← Nat.pow_add, show bitLen y + (64 - bitLen y) = 64 by omega] at this
  exact this
 ·have : 2 ^ (bitLen y - 1) * 2 ^ (64 - bitLen y) ≤ y * 2 ^ (64 - bitLen y) := Nat.mul_le_mul_right _ h1
  rw [← Nat.pow_add, show bitLen y - 1 + (64 - bitLen y) = 63 by omega] at this
  exact this
theorem whole_spec {hi lo s : Nat} (hs : s < 64) (hlo : lo < 18446744073709551616) : (hi * 2 ^ s + lo / 2 ^ (64 - s)) * 18446744073709551616 + lo * 2 ^ s % 18446744073709551616 = (hi * 18446744073709551616 + lo) * 2 ^ s := by
 have e : 2 ^ (64 - s) * 2 ^ s = 18446744073709551616 := by rw [← Nat.pow_add, show 64 - s + s = 64 by omega]
 have h1 : lo * 2 ^ s / 18446744073709551616 = lo / 2 ^ (64 - s) := by rw [← e, Nat.mul_div_mul_right _ _ (Nat.pow_pos (by decide))]
 have h2 := Nat.div_add_mod (lo * 2 ^ s) 18446744073709551616
 rw [h1] at h2
 rw [Nat.add_mul, Nat.add_mul, Nat.mul_right_comm hi]
 omega
theorem two_digits {Y u32 u1 u0 : Nat} (hY : 0 < Y) (h0 : u0 < 4294967296) :
  let N1 := u32 * 4294967296 + u1
  let N0 := (N1 % Y) * 4294967296 + u0
  (u32 * 18446744073709551616 + (u1 * 4294967296 + u0)) / Y = (N1 / Y) * 4294967296 + N0 / Y ∧ (u32 * 18446744073709551616 + (u1 * 4294967296 + u0)) % Y = N0 % Y := by
 intro N1 N0
 have e1 := Nat.div_add_mod N1 Y
 have e2 := Nat.div_add_mod N0 Y
 have hlt := Nat.mod_lt N0 hY
 have hW : u32 * 18446744073709551616 + (u1 * 4294967296 + u0) = ((N1 / Y) * 4294967296 + N0 / Y) * Y + N0 % Y := by
  have e3 : N1 * 4294967296 + u0 = u32 * 18446744073709551616 + (u1 * 4294967296 + u0) := by show (u32 * 4294967296 + u1) * 4294967296 + u0 = _; omega
  have e4 : N0 = N1 % Y * 4294967296 + u0 := rfl
  rw [Nat.add_mul, Nat.mul_right_comm, Nat.mul_comm (N1 / Y) Y, Nat.mul_comm (N0 / Y) Y, Nat.add_assoc, e2, e4, ← e3, ← Nat.add_assoc, ← Nat.add_mul, e1]
 rw [hW]
 constructor
 ·rw [Nat.mul_comm, Nat.mul_add_div hY, Nat.div_eq_of_lt hlt, Nat.add_zero]
 ·rw [Nat.mul_comm, Nat.mul_add_mod, Nat.mod_eq_of_lt hlt]
theorem digits_ex {Y u32 u1 u0 : Nat} (hY : 0 < Y) (h0 : u0 < 4294967296) : ∃ q1 u21 q0 rm, q1 = (u32 * 4294967296 + u1) / Y ∧ q1 * Y + u21 = u32 * 4294967296 + u1 ∧ u21 < Y ∧ q0 = (u21 * 4294967296 + u0) / Y ∧ q0 * Y + rm = u21 * 4294967296 + u0 ∧ rm < Y ∧
  (u32 * 18446744073709551616 + (u1 * 4294967296 + u0)) / Y = q1 * 4294967296 + q0 ∧ (u32 * 18446744073709551616 + (u1 * 4294967296 + u0)) % Y = rm := by
 have h := two_digits (u32 := u32) (u1 := u1) hY h0
 refine ⟨_, _, _, _, rfl, ?_, Nat.mod_lt _ hY, rfl, ?_, Nat.mod_lt _ hY, h.1, h.2⟩
 ·rw [Nat.mul_comm]; exact Nat.div_add_mod _ _
 ·rw [Nat.mul_comm]; exact Nat.div_add_mod _ _
theorem lt_m1 {q : Nat} (h : q < 4294967296) : q * 4294967296 < 18446744073709551616 := by omega
theorem lt_m2 {q r : Nat} (h : q < 4294967296) (k : r < 4294967296) : q * 4294967296 + r < 18446744073709551616 := by omega
end
section
set_option maxHeartbeats 4000000
def zEnc (x : Int) : List Value := [.int .i64 x]
theorem zEl (x : Int) : (zEnc x).length = 1 := rfl
theorem zEp (x : Int) : pC (zEnc x) = true := rfl
section
variable {h0 h : Heap} {l : List HP}
theorem own_rd {T b n c : Nat} {D : List Int} (S : St h0 h (ownA zEnc 1 T (.slice (some ⟨b, 0, none⟩) n c) D :: l)) {i : Nat} {x : Int} (hx : D[i]? = some x) : rd1 h (.pointer (some ⟨b, i * 1, none⟩)) = some (.int .i64 x) := by
 obtain ⟨hi, rfl⟩ := List.getElem?_eq_some_iff.1 hx
 obtain ⟨b', o', hA, hr⟩ := S.arr zEl i hi
 cases hA
 have := rP hr 0 (by omega)
 simpa [zEnc] using this
theorem swap_list (A1 A2 A3 : List Int) (x y : Int) :
  let D := A1 ++ x :: (A2 ++ y :: A3)
  D[A1.length]? = some x ∧ D[A1.length + 1 + A2.length]? = some y ∧ (D.set A1.length y).set (A1.length + 1 + A2.length) x = A1 ++ y :: (A2 ++ x :: A3) ∧ (D.set (A1.length + 1 + A2.length) x).set A1.length y = A1 ++ y :: (A2 ++ x :: A3) := by
 have e : ∀ a : Int, (A1 ++ a :: (A2 ++ y :: A3)) = (A1 ++ a :: A2) ++ y :: A3 := fun a => by simp
 have e2 : ∀ a : Int, (A1 ++ a :: (A2 ++ x :: A3)) = (A1 ++ a :: A2) ++ x :: A3 := fun a => by simp
 have hl : ∀ a : Int, (A1 ++ a :: A2).length = A1.length + 1 + A2.length := fun a => by simp; omega
 intro D
 refine ⟨?_, ?_, ?_, ?_⟩
 ·show (A1 ++ x :: _)[A1.length]? = _
  rw [List.getElem?_append_right (Nat.le_refl _), Nat.sub_self]; rfl
 ·show (A1 ++ x :: (A2 ++ y :: A3))[_]? = _
  rw [e, ← hl x, List.getElem?_append_right (Nat.le_refl _), Nat.sub_self]; rfl
 ·show ((A1 ++ x :: (A2 ++ y :: A3)).set _ y).set _ x = _
  rw [List.set_append_right _ _ (Nat.le_refl _), Nat.sub_self, l_h, e, ← hl y, List.set_append_right _ _ (Nat.le_refl _), Nat.sub_self, l_h, e2]
 ·show ((A1 ++ x :: (A2 ++ y :: A3)).set _ x).set _ y = _
  rw [e, ← hl x, List.set_append_right _ _ (Nat.le_refl _), Nat.sub_self, l_h, ← e2, List.set_append_right _ _ (Nat.le_refl _), Nat.sub_self, l_h]
theorem i64N {n : Nat} (h : n < 9223372036854775808) : IntKind.i64.wrap (n : Int) = n := wrap_i64 (by omega) (by omega)
theorem addI {a b c : Nat} (h : a + b = c) (hc : c < 9223372036854775808) : IntKind.i64.wrap ((a : Int) + b) = c := by rw [show (a : Int) + b = c by omega]; exact i64N hc
theorem subI {a b c : Nat} (h : a = c + b) (hc : c < 9223372036854775808) : IntKind.i64.wrap ((a : Int) - b) = c := by rw [show (a : Int) - b = c by omega]; exact i64N hc
theorem swapRange_ok {A : Option Addr} {c : Nat} {fv : Value} (L P M Q R : List Int) (hPQ : P.length = Q.length) {n a b : Nat} (hn : n = (L ++ (P ++ (M ++ (Q ++ R)))).length) (ha : a = L.length) (hb : b = L.length + P.length + M.length) (hs : n < 1000000) {k : Nat} (hk : k = P.length)
  (S : St h0 h (ownA zEnc 1 3 (.slice A n c) (L ++ (P ++ (M ++ (Q ++ R)))) :: l)) :
  CallsH Tryz.prog 170 [.slice A n c, .int .i64 a, .int .i64 b, .int .i64 k, fv] h fun v h' => St h0 h' (ownA zEnc 1 3 (.slice A n c) (L ++ (Q ++ (M ++ (P ++ R)))) :: l) := by
 subst hk
 have hnl : n = L.length + (P.length + (M.length + (Q.length + R.length))) := by rw [hn]; simp only [l_m]
 (refine eK c_slices_swapRangeCmpFunc_int (l_a rfl) fun K hK => ?_; (try simp (disch := first|omega|assumption|exact l_a rfl) only [go_sem, ↓wBk, simprocAttr, ir_slices_swapRangeCmpFunc_int]))
 refine lI (fun ρ h' => ρ 0 = .slice A n c ∧ ρ 1 = .int .i64 a ∧ ρ 2 = .int .i64 b ∧ ρ 3 = .int .i64 P.length ∧ ∃ i : Nat, ρ 10 = .int .i64 i ∧ i ≤ P.length ∧ St h0 h' (ownA zEnc 1 3 (.slice A n c) (L ++ ((Q.take i ++ P.drop i) ++ (M ++ ((P.take i ++ Q.drop i) ++ R)))) :: l)) (fun ρ _ => P.length - (iv (ρ 10)).toNat) ?_ ?_
 ·(try simp (disch := first|omega|assumption|exact l_a rfl) only [go_sem, ↓wBk, simprocAttr])
  exact ⟨0, rfl, by omega, by simpa using S⟩
 ·clear S
  rintro ρ h J hJ ⟨e0, e1, e2, e3, i, e10, hi, S⟩
  (try simp (disch := first|omega|assumption|exact l_a rfl) only [go_sem, ↓wBk, simprocAttr, e10, e3])
  refine cD (fun hlt => ?_) (fun hlt => ?_)
  ·have hiP : i < P.length := by omega
   have hiQ : i < Q.length := by omega
   have hD : L ++ ((Q.take i ++ P.drop i) ++ (M ++ ((P.take i ++ Q.drop i) ++ R))) = (L ++ Q.take i) ++ P[i] :: ((P.drop (i + 1) ++ M ++ P.take i) ++ Q[i] :: (Q.drop (i + 1) ++ R)) := by
    rw [List.drop_eq_getElem_cons hiP, List.drop_eq_getElem_cons hiQ]
    simp only [l_q, l_j, l_k]
   have hD2 : (L ++ Q.take i) ++ Q[i] :: ((P.drop (i + 1) ++ M ++ P.take i) ++ P[i] :: (Q.drop (i + 1) ++ R)) = L ++ ((Q.take (i + 1) ++ P.drop (i + 1)) ++ (M ++ ((P.take (i + 1) ++ Q.drop (i + 1)) ++ R))) := by
    rw [l_t hiP, l_t hiQ]
    simp only [l_q, l_j, l_k]
   have hl1 : (L ++ Q.take i).length = a + i := by rw [l_m, l_ad]; omega
   have hl2 : (L ++ Q.take i).length + 1 + (P.drop (i + 1) ++ M ++ P.take i).length = b + i := by simp only [l_m, l_ad, List.length_drop]; omega
   obtain ⟨g1, g2, g3, _⟩ := swap_list (L ++ Q.take i) (P.drop (i + 1) ++ M ++ P.take i) (Q.drop (i + 1) ++ R) P[i] Q[i]
   rw [hD] at S
   obtain ⟨bk, rfl⟩ := S.ownAt (by simp only [l_m, l_f]; omega)
   have r1 := own_rd S g1
   have r2 := own_rd S g2
   rw [hl2] at r2 g3
   rw [hl1] at r1 g3
   have w1 := addI (a := a) (b := i) rfl (by omega)
   have w2 := addI (a := b) (b := i) rfl (by omega)
   (try simp (disch := first|omega|assumption|exact l_a rfl) only [go_sem, ↓wBk, simprocAttr])
   refine dE ?_
   (try simp (disch := first|omega|assumption|exact l_a rfl) only [go_sem, ↓wBk, simprocAttr, e0, e1, e2, e10, w1, w2, r1, r2])
   refine st_setOwn (i := a + i) (x := Q[i]) zEl S (by rw [← hl1]; simp only [l_m, l_f]; omega) rfl rfl rfl rfl ?_
   clear S r1 r2
   intro h S
   (try simp (disch := first|omega|assumption|exact l_a rfl) only [go_sem, ↓wBk, simprocAttr])
   refine st_setOwn (i := b + i) (x := P[i]) zEl S (by rw [l_ak, ← hl2]; simp only [l_m, l_f]; omega) rfl rfl rfl rfl ?_
   clear S
   intro h S
   rw [g3, hD2] at S
   (try simp (disch := first|omega|assumption|exact l_a rfl) only [go_sem, ↓wBk, simprocAttr, e10])
   refine hJ _ _ ?_ ?_
   ·(try simp (disch := first|omega|assumption|exact l_a rfl) only [go_sem, ↓wBk, simprocAttr, e0, e1, e2, e3])
    exact ⟨i + 1, rfl, by omega, S⟩
   ·(try simp (disch := first|omega|assumption|exact l_a rfl) only [go_sem, ↓wBk, simprocAttr, e10])
    omega
  ·obtain rfl : i = P.length := by omega
   (try simp (disch := first|omega|assumption|exact l_a rfl) only [go_sem, ↓wBk, simprocAttr])
   refine hK _ _ ?_
   rw [l_aj, List.drop_length, hPQ, l_aj, List.drop_length] at S
   simpa using S
end
end
section
set_option maxHeartbeats 4000000
section
variable {h0 h : Heap} {l : List HP}
theorem rotate_ok {A : Option Addr} {c : Nat} {fv : Value} (L X Y R : List Int) {n a m b : Nat} (hn : n = (L ++ (X ++ (Y ++ R))).length) (ha : a = L.length) (hm : m = L.length + X.length) (hb : b = m + Y.length) (hX : 0 < X.length) (hY : 0 < Y.length) (hs : n < 1000000)
  (S : St h0 h (ownA zEnc 1 3 (.slice A n c) (L ++ (X ++ (Y ++ R))) :: l)) :
  CallsH Tryz.prog 169 [.slice A n c, .int .i64 a, .int .i64 m, .int .i64 b, fv] h fun v h' => St h0 h' (ownA zEnc 1 3 (.slice A n c) (L ++ (Y ++ (X ++ R))) :: l) := by
 have hnl : n = L.length + (X.length + (Y.length + R.length)) := by rw [hn]; simp only [l_m]
 have w1 := subI (a := m) (b := a) (c := X.length) (by omega) (by omega)
 have w2 := subI (a := b) (b := m) (c := Y.length) (by omega) (by omega)
 refine eK c_slices_rotateCmpFunc_int (l_a rfl) fun K hK => ?_
 (try simp (disch := first|omega|assumption|exact l_a rfl) only [go_sem, ↓wBk, simprocAttr, ir_slices_rotateCmpFunc_int, w1, w2])
 refine lI (fun ρ h' => ρ 0 = .slice A n c ∧ ρ 2 = .int .i64 m ∧ ρ 4 = fv ∧ ∃ L' P Q R' : List Int, ρ 10 = .int .i64 P.length ∧ ρ 11 = .int .i64 Q.length ∧ 0 < P.length ∧ 0 < Q.length ∧ m = L'.length + P.length ∧ n = (L' ++ (P ++ (Q ++ R'))).length ∧ L' ++ (Q ++ (P ++ R')) = L ++ (Y ++ (X ++ R)) ∧ St h0 h' (ownA zEnc 1 3 (.slice A n c) (L' ++ (P ++ (Q ++ R'))) :: l)) (fun ρ _ => (iv (ρ 10)).toNat + (iv (ρ 11)).toNat) ?_ ?_
 ·(try simp (disch := first|omega|assumption|exact l_a rfl) only [go_sem, ↓wBk, simprocAttr])
  exact ⟨L, X, Y, R, rfl, rfl, hX, hY, hm, hn, rfl, S⟩
 ·clear S w1 w2
  rintro ρ h J hJ ⟨e0, e2, e4, L', P, Q, R', e10, e11, hP, hQ, hm', hn', ht, S⟩
  have hnl' : n = L'.length + (P.length + (Q.length + R'.length)) := by rw [hn']; simp only [l_m]
  have w1 := subI (a := m) (b := P.length) (c := L'.length) (by omega) (by omega)
  by_cases heq : (P.length : Int) = Q.length
  case neg =>
   (try simp (disch := first|omega|assumption|exact l_a rfl) only [go_sem, ↓wBk, simprocAttr, e10, e11, heq])
   by_cases hgt : (Q.length : Int) < P.length
   ·have w2 := subI (a := P.length) (b := Q.length) (c := P.length - Q.length) (by omega) (by omega)
    have hsp : P = P.take Q.length ++ P.drop Q.length := (List.take_append_drop _ _).symm
    have hl1 : (P.take Q.length).length = Q.length := by rw [l_ad]; omega
    have hl2 : (P.drop Q.length).length = P.length - Q.length := List.length_drop
    (try simp (disch := first|omega|assumption|exact l_a rfl) only [go_sem, ↓wBk, simprocAttr, e0, e2, e4, e10, e11, hgt, w1])
    rw [← hl2] at w2
    generalize P.take Q.length = P1 at hsp hl1
    generalize P.drop Q.length = P2 at hsp hl2 w2
    subst hsp
    rw [l_q] at S
    refine cI (swapRange_ok L' P1 P2 Q R' hl1 (by rw [hn', l_q]) rfl (by rw [hm', l_m]; omega) hs hl1.symm S) ?_
    clear S
    intro _ h S
    (try simp (disch := first|omega|assumption|exact l_a rfl) only [go_sem, ↓wBk, simprocAttr, e10, e11, w2])
    refine hJ _ _ ?_ ?_
    ·(try simp (disch := first|omega|assumption|exact l_a rfl) only [go_sem, ↓wBk, simprocAttr, e0, e2, e4])
     refine ⟨L' ++ Q, P2, P1, R', rfl, by rw [hl1, e11], by simp only [l_m] at *; omega, by omega, by simp only [l_m] at *; omega, by simp only [l_m] at *; omega, ?_, ?_⟩
     ·rw [← ht]; simp only [l_q]
     ·rw [l_q]; exact S
    ·(try simp (disch := first|omega|assumption|exact l_a rfl) only [go_sem, ↓wBk, simprocAttr, e10, e11])
     simp only [l_m] at *
     omega
   ·have hlt : P.length < Q.length := by omega
    have w2 := subI (a := Q.length) (b := P.length) (c := Q.length - P.length) (by omega) (by omega)
    have w3 := addI (a := m) (b := Q.length) rfl (by omega)
    have w4 := subI (a := m + Q.length) (b := P.length) (c := m + (Q.length - P.length)) (by omega) (by omega)
    have hsp : Q = Q.take (Q.length - P.length) ++ Q.drop (Q.length - P.length) := (List.take_append_drop _ _).symm
    have hl1 : (Q.take (Q.length - P.length)).length = Q.length - P.length := by rw [l_ad]; omega
    have hl2 : (Q.drop (Q.length - P.length)).length = P.length := by rw [List.length_drop]; omega
    (try simp (disch := first|omega|assumption|exact l_a rfl) only [go_sem, ↓wBk, simprocAttr, e0, e2, e4, e10, e11, hgt, w1, w3, w4])
    rw [← hl1] at w2
    generalize hQ1 : Q.take (Q.length - P.length) = Q1 at hsp hl1 w2
    generalize hQ2 : Q.drop (Q.length - P.length) = Q2 at hsp hl2
    have hbl : m + (Q.length - P.length) = L'.length + P.length + Q1.length := by omega
    rw [hbl]
    have S2 := S
    rw [hsp, l_q] at S2
    refine cI (swapRange_ok L' P Q1 Q2 R' hl2.symm (by rw [hn', hsp, l_q]) rfl rfl hs rfl S2) ?_
    clear S S2
    intro _ h S
    (try simp (disch := first|omega|assumption|exact l_a rfl) only [go_sem, ↓wBk, simprocAttr, e10, e11, w2])
    refine hJ _ _ ?_ ?_
    ·(try simp (disch := first|omega|assumption|exact l_a rfl) only [go_sem, ↓wBk, simprocAttr, e0, e2, e4, e10])
     refine ⟨L', Q2, Q1, P ++ R', by rw [hl2], rfl, by omega, by omega, by omega, by simp only [l_m] at *; omega, ?_, S⟩
     rw [← ht, hsp]; simp only [l_q]
    ·(try simp (disch := first|omega|assumption|exact l_a rfl) only [go_sem, ↓wBk, simprocAttr, e10, e11])
     omega
  case pos =>
   have heq' : P.length = Q.length := by omega
   have hd := dT heq
   (try simp (disch := first|omega|assumption|exact l_a rfl) only [go_sem, ↓wBk, simprocAttr, e0, e2, e4, e10, e11, hd, w1, Bool.not_true])
   have S0 : St h0 h (ownA zEnc 1 3 (.slice A n c) (L' ++ (P ++ ([] ++ (Q ++ R')))) :: l) := S
   have hc := swapRange_ok (fv := fv) L' P [] Q R' heq' hn' rfl (show m = L'.length + P.length + 0 from hm') hs rfl S0
   refine cI hc ?_
   clear S
   intro _ h S
   (try simp (disch := first|omega|assumption|exact l_a rfl) only [go_sem, ↓wBk, simprocAttr])
   rw [l_k, ht] at S
   exact hK _ _ S
end
end
end Go.Proofs.YtijnkebgciaieaaGreat.MX
