/- The library's Mul64, Len64, LeadingZeros64. -/
import Derived.Test.YtnjjdpeglkiifaaMXT
import Derived.Test.YtnjjdpeglkiifaaMXP
import Derived.Test.YtnjjdpeglkiifaaMXR
import Derived.Test.YtnjjdpeglkiifaaIR
namespace Go.Proofs.Ytnjjdpeglkiifaa.MX
open Go Go.Proofs
set_option linter.unusedSimpArgs false
set_option linter.unusedVariables false
set_option maxHeartbeats 4000000
theorem wrapU {n : Nat} (h : n < 18446744073709551616) : IntKind.u64.wrap (n : Int) = n := by
  have : IntKind.u64.wrap (n : Int) = (n : Int) % 18446744073709551616 := rfl
  rw [this]
  omega
theorem mulE {a b c : Nat} (h : a * b = c) (hc : c < 18446744073709551616) : binV .mul (.int .u64 a) (.int .u64 b) = some (.int .u64 c) := by
  rw [bin_mul, ← Int.natCast_mul, h, wrapU hc]
theorem mulM {a b : Nat} : binV .mul (.int .u64 a) (.int .u64 b) = some (.int .u64 (a * b % 18446744073709551616 : Nat)) := by
  rw [bin_mul, ← Int.natCast_mul]
  rfl
theorem addE {a b c : Nat} (h : a + b = c) (hc : c < 18446744073709551616) : binV .add (.int .u64 a) (.int .u64 b) = some (.int .u64 c) := by
  rw [bin_add, ← Int.natCast_add, h, wrapU hc]
theorem subE {a b c : Nat} (h : a = c + b) (hc : c < 18446744073709551616) : binV .sub (.int .u64 a) (.int .u64 b) = some (.int .u64 c) := by
  rw [bin_sub, show (a : Int) - b = c by omega, wrapU hc]
theorem addM {a b : Nat} : binV .add (.int .u64 a) (.int .u64 b) = some (.int .u64 ((a + b) % 18446744073709551616 : Nat)) := by
  rw [bin_add, ← Int.natCast_add]
  rfl
theorem subM {a b c : Nat} (h : (a + (18446744073709551616 - b)) % 18446744073709551616 = c ∧ b ≤ 18446744073709551616) : binV .sub (.int .u64 a) (.int .u64 b) = some (.int .u64 c) := by
  rw [bin_sub]
  have : IntKind.u64.wrap ((a : Int) - b) = ((a : Int) - b) % 18446744073709551616 := rfl
  rw [this, show ((a : Int) - b) % 18446744073709551616 = (c : Nat) by omega]
theorem quoE {a b c : Nat} (h : a / b = c) (hb : b ≠ 0) (ha : a < 18446744073709551616) : binV .quo (.int .u64 a) (.int .u64 b) = some (.int .u64 c) := by
  have hc : c ≤ a := h ▸ Nat.div_le_self a b
  rw [bin_quo (by omega), Int.tdiv_eq_ediv_of_nonneg (by omega), ← Int.natCast_ediv, h, wrapU (by omega)]
theorem remE {a b c : Nat} (h : a % b = c) (hb : b ≠ 0) : binV .rem (.int .u64 a) (.int .u64 b) = some (.int .u64 c) := by
  rw [bin_rem (by omega), Int.tmod_eq_emod_of_nonneg (by omega), ← Int.natCast_emod, h]
theorem shrE {a k c : Nat} {k' : IntKind} (hk : k ≤ 64) (h : a / 2 ^ k = c) : binV .shr (.int .u64 a) (.int k' k) = some (.int .u64 c) := by
  rw [bin_shr (by omega), Int.toNat_natCast, show IntKind.u64.bits = 64 from rfl, Nat.min_eq_left hk, Int.fdiv_eq_ediv_of_nonneg _ (Int.le_of_lt (Int.pow_pos (by decide)))]
  rw [← h]
  simp
theorem shlE {a k c : Nat} {k' : IntKind} (hk : k ≤ 64) (h : a * 2 ^ k % 18446744073709551616 = c) : binV .shl (.int .u64 a) (.int k' k) = some (.int .u64 c) := by
  rw [bin_shl (by omega), Int.toNat_natCast, show IntKind.u64.bits = 64 from rfl, Nat.min_eq_left hk, ← h]
  have : (a : Int) * 2 ^ k = ((a * 2 ^ k : Nat) : Int) := by simp
  rw [this]
  rfl
theorem ofIntN {n : Nat} : BitVec.ofInt IntKind.u64.bits (n : Int) = BitVec.ofNat 64 n := BitVec.ofInt_natCast 64 n
theorem andE {a b c : Nat} (ha : a < 18446744073709551616) (hb : b < 18446744073709551616) (h : a &&& b = c) : binV .and (.int .u64 a) (.int .u64 b) = some (.int .u64 c) := by
  have hc : c ≤ a := h ▸ Nat.and_le_left
  rw [bin_and, ofIntN, ofIntN]
  have e : (BitVec.ofNat 64 a &&& BitVec.ofNat 64 b).toNat = c := by
    rw [BitVec.toNat_and, BitVec.toNat_ofNat, BitVec.toNat_ofNat, Nat.mod_eq_of_lt (by simpa using ha), Nat.mod_eq_of_lt (by simpa using hb), h]
  exact (congrArg (fun n : Nat => some (Value.int IntKind.u64 (IntKind.u64.wrap (n : Int)))) e).trans (by rw [wrapU (by omega)])
theorem orE {a b c : Nat} (ha : a < 18446744073709551616) (hb : b < 18446744073709551616) (h : a ||| b = c) : binV .or (.int .u64 a) (.int .u64 b) = some (.int .u64 c) := by
  have hc : c < 18446744073709551616 := h ▸ Nat.or_lt_two_pow (n := 64) ha hb
  rw [bin_or, ofIntN, ofIntN]
  have e : (BitVec.ofNat 64 a ||| BitVec.ofNat 64 b).toNat = c := by
    rw [BitVec.toNat_or, BitVec.toNat_ofNat, BitVec.toNat_ofNat, Nat.mod_eq_of_lt (by simpa using ha), Nat.mod_eq_of_lt (by simpa using hb), h]
  exact (congrArg (fun n : Nat => some (Value.int IntKind.u64 (IntKind.u64.wrap (n : Int)))) e).trans (by rw [wrapU (by omega)])
theorem and32L (a : Nat) (ha : a < 18446744073709551616) : binV .and (.int .u64 a) (.int .u64 4294967295) = some (.int .u64 ((a % 4294967296 : Nat) : Int)) :=
  andE (b := 4294967295) ha (by decide) (Nat.and_two_pow_sub_one_eq_mod a 32)
theorem shr32L (a : Nat) : binV .shr (.int .u64 a) (.int .u64 32) = some (.int .u64 ((a / 4294967296 : Nat) : Int)) := shrE (k := 32) (by omega) rfl
theorem mul_lt {a b c d : Nat} (h1 : a ≤ c) (h2 : b ≤ d) : a * b ≤ c * d := Nat.mul_le_mul h1 h2
theorem mul_split (x y : Nat) : x * y = (x / 4294967296) * (y / 4294967296) * 18446744073709551616 + ((x / 4294967296) * (y % 4294967296) + (x % 4294967296) * (y / 4294967296)) * 4294967296 + (x % 4294967296) * (y % 4294967296) := by
  have hx : x = (x / 4294967296) * 4294967296 + x % 4294967296 := by omega
  have hy : y = (y / 4294967296) * 4294967296 + y % 4294967296 := by omega
  conv => lhs; rw [hx, hy]
  generalize x / 4294967296 = a
  generalize x % 4294967296 = b
  generalize y / 4294967296 = c
  generalize y % 4294967296 = d
  rw [Nat.add_mul, Nat.mul_add, Nat.mul_add, Nat.mul_mul_mul_comm, Nat.mul_right_comm a 4294967296 d, ← Nat.mul_assoc b c]
  omega
theorem Mul64_ok (x y : Nat) (hx : x < 18446744073709551616) (hy : y < 18446744073709551616) (h : Heap) : CallsH Try.prog 65 [.int .u64 x, .int .u64 y] h fun v h' => v = .tuple #[.int .u64 (x * y / 18446744073709551616 : Nat), .int .u64 (x * y % 18446744073709551616 : Nat)] ∧ h' = h := by
  have hs := mul_split x y
  have a1 := and32L x hx
  have a2 := and32L y hy
  have s1 := shr32L x
  have s2 := shr32L y
  have b1 : x / 4294967296 ≤ 4294967295 := by omega
  have b2 : y / 4294967296 ≤ 4294967295 := by omega
  have b3 : x % 4294967296 ≤ 4294967295 := by omega
  have b4 : y % 4294967296 ≤ 4294967295 := by omega
  have hlo := mulM (a := x) (b := y)
  generalize x / 4294967296 = x1 at *
  generalize y / 4294967296 = y1 at *
  generalize x % 4294967296 = x0 at *
  generalize y % 4294967296 = y0 at *
  have c11 := mul_lt b1 b2
  have c10 := mul_lt b1 b4
  have c01 := mul_lt b3 b2
  have c00 := mul_lt b3 b4
  generalize h00 : x0 * y0 = p00 at *
  generalize h10 : x1 * y0 = p10 at *
  generalize h01 : x0 * y1 = p01 at *
  generalize h11 : x1 * y1 = p11 at *
  have m00 := mulE h00 (by omega)
  have m10 := mulE h10 (by omega)
  have m01 := mulE h01 (by omega)
  have m11 := mulE h11 (by omega)
  have s3 := shr32L p00
  have d1 := addE (a := p10) (b := p00 / 4294967296) rfl (by omega)
  have a3 := and32L (p10 + p00 / 4294967296) (by omega)
  have s4 := shr32L (p10 + p00 / 4294967296)
  have d2 := addE (a := (p10 + p00 / 4294967296) % 4294967296) (b := p01) rfl (by omega)
  have d3 := addE (a := p11) (b := (p10 + p00 / 4294967296) / 4294967296) rfl (by omega)
  have s5 := shr32L ((p10 + p00 / 4294967296) % 4294967296 + p01)
  have d4 := addE (a := p11 + (p10 + p00 / 4294967296) / 4294967296) (b := ((p10 + p00 / 4294967296) % 4294967296 + p01) / 4294967296) rfl (by omega)
  have hhi : p11 + (p10 + p00 / 4294967296) / 4294967296 + ((p10 + p00 / 4294967296) % 4294967296 + p01) / 4294967296 = x * y / 18446744073709551616 := by omega
  rw [hhi] at d4
  refine enterK c_math_bits_Mul64 (Nat.le_of_ble_eq_true rfl) fun K hK => ?_
  (try simp (maxSteps := 1000000) (disch := first | omega | assumption | exact Nat.le_of_ble_eq_true rfl) only [go_sem, ↓mwp_block, simprocAttr, ir_math_bits_Mul64, a1, a2, s1, s2, m00, m10, m01, m11, s3, d1, a3, s4, d2, d3, s5, d4, hlo])
  exact hK _ _ ⟨rfl, rfl⟩
/-- How many bits a number has. -/
def bitLen (n : Nat) : Nat := if n = 0 then 0 else n.log2 + 1
theorem bitLen_shr (n k : Nat) (h : 2 ^ k ≤ n) : bitLen n = k + bitLen (n / 2 ^ k) := by
  have hp : 0 < 2 ^ k := Nat.pow_pos (by decide)
  have h1 : n / 2 ^ k ≠ 0 := by
    have := Nat.div_pos h hp
    omega
  have h0 : n ≠ 0 := by omega
  unfold bitLen
  rw [if_neg h0, if_neg h1]
  have : n.log2 = k + (n / 2 ^ k).log2 := by
    rw [Nat.log2_eq_iff h0]
    have h2 := (Nat.log2_eq_iff h1).1 rfl
    constructor
    · rw [Nat.pow_add, Nat.mul_comm]
      exact (Nat.le_div_iff_mul_le hp).1 h2.1
    · rw [show k + (n / 2 ^ k).log2 + 1 = ((n / 2 ^ k).log2 + 1) + k by omega, Nat.pow_add]
      exact (Nat.div_lt_iff_lt_mul hp).1 h2.2
  omega
theorem bitLen_spec {n : Nat} (h : n ≠ 0) : 2 ^ (bitLen n - 1) ≤ n ∧ n < 2 ^ bitLen n ∧ 0 < bitLen n := by
  unfold bitLen
  rw [if_neg h]
  have := (Nat.log2_eq_iff h).1 rfl
  exact ⟨by simpa using this.1, this.2, by omega⟩
def tabOk (T : Value) : Bool := (List.range 256).all fun n => match idxTV T (.int .u8 n) with
  | some (.int .u8 k) => k == (bitLen n : Int)
  | _ => false
theorem tab_at {T : Value} (h : tabOk T = true) {n : Nat} (hn : n < 256) : idxTV T (.int .u8 n) = some (.int .u8 (bitLen n : Nat)) := by
  have := List.all_eq_true.1 h n (List.mem_range.2 hn)
  split at this
  · rename_i k e
    rw [e, eq_of_beq this]
  · cases this
theorem condE {p : Prop} {X Y : Prop} {s : Tag X} {t : Tag Y} (hp : p) (hx : X) : condT (.bool (dcd p)) X Y s t := cond_dec (fun _ => hx) (fun h => absurd hp h)
theorem condN {p : Prop} {X Y : Prop} {s : Tag X} {t : Tag Y} (hp : ¬ p) (hy : Y) : condT (.bool (dcd p)) X Y s t := cond_dec (fun h => absurd h hp) (fun _ => hy)
theorem bind_tab {T : Value} {n : Nat} {K : Value → Prop} {t : Tag K} (h : tabOk T = true) (hn : n < 256) (hk : K (.int .u8 (bitLen n : Nat))) : bindT (idxTV T (.int .u8 n)) K t := by
  rw [tab_at h hn]
  exact hk
theorem wrapB {n : Nat} (h : n < 256) : IntKind.u8.wrap (n : Int) = n := by
  have : IntKind.u8.wrap (n : Int) = (n : Int) % 256 := rfl
  rw [this]
  omega
theorem bitLen_8 {n : Nat} (h : n < 256) : bitLen n ≤ 8 := by
  by_cases h0 : n = 0
  · subst h0; decide
  · have := (bitLen_spec h0).1
    have h2 := (bitLen_spec h0).2.2
    apply Nat.le_of_not_lt
    intro h3
    have : 2 ^ 8 ≤ 2 ^ (bitLen n - 1) := Nat.pow_le_pow_right (by decide) (by omega)
    omega
theorem Len64_fin {b m a : Nat} (h : a = m + b) (hb : b ≤ 8) (hm : m ≤ 56) : IntKind.i64.wrap ((m : Int) + IntKind.i64.wrap (b : Int)) = a := by
  rw [wrap_i64 (x := (b : Int)) (by omega) (by omega), wrap_i64 (by omega) (by omega)]
  omega
set_option maxRecDepth 1000000 in
theorem Len64_ok (x : Nat) (hx : x < 18446744073709551616) (h : Heap) : CallsH Try.prog 114 [.int .u64 x] h fun v h' => v = .int .i64 (bitLen x : Nat) ∧ h' = h := by
  have s32 := fun n => shr32L n
  have s16 : ∀ n : Nat, binV .shr (.int .u64 n) (.int .u64 16) = some (.int .u64 ((n / 65536 : Nat) : Int)) := fun n => shrE (k := 16) (by omega) rfl
  have s8 : ∀ n : Nat, binV .shr (.int .u64 n) (.int .u64 8) = some (.int .u64 ((n / 256 : Nat) : Int)) := fun n => shrE (k := 8) (by omega) rfl
  have w16 : IntKind.i64.wrap ((0 : Int) + 16) = 16 := by decide
  have w8 : IntKind.i64.wrap ((0 : Int) + 8) = 8 := by decide
  have w48 : IntKind.i64.wrap ((32 : Int) + 16) = 48 := by decide
  have w40 : IntKind.i64.wrap ((32 : Int) + 8) = 40 := by decide
  have w56 : IntKind.i64.wrap ((48 : Int) + 8) = 56 := by decide
  have w24 : IntKind.i64.wrap ((16 : Int) + 8) = 24 := by decide
  refine enterK c_math_bits_Len64 (Nat.le_of_ble_eq_true rfl) fun K hK => ?_
  by_cases c0 : (4294967296 : Int) ≤ (x : Nat)
  · (try simp (maxSteps := 1000000) (disch := first | omega | assumption | exact Nat.le_of_ble_eq_true rfl) only [go_sem, ↓mwp_block, simprocAttr, ir_math_bits_Len64, c0, s32, s16, s8, w16, w8, w48, w40, w56, w24])
    by_cases c1 : (65536 : Int) ≤ ((x) / 4294967296 : Nat)
    · (try simp (maxSteps := 1000000) (disch := first | omega | assumption | exact Nat.le_of_ble_eq_true rfl) only [go_sem, ↓mwp_block, simprocAttr, c1, s32, s16, s8, w16, w8, w48, w40, w56, w24])
      by_cases c2 : (256 : Int) ≤ (((x) / 4294967296) / 65536 : Nat)
      · (try simp (maxSteps := 1000000) (disch := first | omega | assumption | exact Nat.le_of_ble_eq_true rfl) only [go_sem, ↓mwp_block, simprocAttr, c2, s32, s16, s8, w16, w8, w48, w40, w56, w24])
        have hw := wrapB (n := (((x) / 4294967296) / 65536) / 256) (by omega)
        (try simp (maxSteps := 1000000) (disch := first | omega | assumption | exact Nat.le_of_ble_eq_true rfl) only [go_sem, ↓mwp_block, simprocAttr, hw])
        refine bind_tab (by kernel_rfl) (by omega) ?_
        (try simp (maxSteps := 1000000) (disch := first | omega | assumption | exact Nat.le_of_ble_eq_true rfl) only [go_sem, ↓mwp_block, simprocAttr])
        refine hK _ _ ⟨congrArg (Value.int .i64) (Len64_fin (m := 56) ?_ (bitLen_8 (by omega)) (by omega)), rfl⟩
        have q32 := bitLen_shr (x) 32 (by omega)
        rw [show (2 : Nat) ^ 32 = 4294967296 from rfl] at q32
        have q16 := bitLen_shr ((x) / 4294967296) 16 (by omega)
        rw [show (2 : Nat) ^ 16 = 65536 from rfl] at q16
        have q8 := bitLen_shr (((x) / 4294967296) / 65536) 8 (by omega)
        rw [show (2 : Nat) ^ 8 = 256 from rfl] at q8
        omega
      · (try simp (maxSteps := 1000000) (disch := first | omega | assumption | exact Nat.le_of_ble_eq_true rfl) only [go_sem, ↓mwp_block, simprocAttr, c2, s32, s16, s8, w16, w8, w48, w40, w56, w24])
        have hw := wrapB (n := ((x) / 4294967296) / 65536) (by omega)
        (try simp (maxSteps := 1000000) (disch := first | omega | assumption | exact Nat.le_of_ble_eq_true rfl) only [go_sem, ↓mwp_block, simprocAttr, hw])
        refine bind_tab (by kernel_rfl) (by omega) ?_
        (try simp (maxSteps := 1000000) (disch := first | omega | assumption | exact Nat.le_of_ble_eq_true rfl) only [go_sem, ↓mwp_block, simprocAttr])
        refine hK _ _ ⟨congrArg (Value.int .i64) (Len64_fin (m := 48) ?_ (bitLen_8 (by omega)) (by omega)), rfl⟩
        have q32 := bitLen_shr (x) 32 (by omega)
        rw [show (2 : Nat) ^ 32 = 4294967296 from rfl] at q32
        have q16 := bitLen_shr ((x) / 4294967296) 16 (by omega)
        rw [show (2 : Nat) ^ 16 = 65536 from rfl] at q16
        omega
    · (try simp (maxSteps := 1000000) (disch := first | omega | assumption | exact Nat.le_of_ble_eq_true rfl) only [go_sem, ↓mwp_block, simprocAttr, c1, s32, s16, s8, w16, w8, w48, w40, w56, w24])
      by_cases c2 : (256 : Int) ≤ ((x) / 4294967296 : Nat)
      · (try simp (maxSteps := 1000000) (disch := first | omega | assumption | exact Nat.le_of_ble_eq_true rfl) only [go_sem, ↓mwp_block, simprocAttr, c2, s32, s16, s8, w16, w8, w48, w40, w56, w24])
        have hw := wrapB (n := ((x) / 4294967296) / 256) (by omega)
        (try simp (maxSteps := 1000000) (disch := first | omega | assumption | exact Nat.le_of_ble_eq_true rfl) only [go_sem, ↓mwp_block, simprocAttr, hw])
        refine bind_tab (by kernel_rfl) (by omega) ?_
        (try simp (maxSteps := 1000000) (disch := first | omega | assumption | exact Nat.le_of_ble_eq_true rfl) only [go_sem, ↓mwp_block, simprocAttr])
        refine hK _ _ ⟨congrArg (Value.int .i64) (Len64_fin (m := 40) ?_ (bitLen_8 (by omega)) (by omega)), rfl⟩
        have q32 := bitLen_shr (x) 32 (by omega)
        rw [show (2 : Nat) ^ 32 = 4294967296 from rfl] at q32
        have q8 := bitLen_shr ((x) / 4294967296) 8 (by omega)
        rw [show (2 : Nat) ^ 8 = 256 from rfl] at q8
        omega
      · (try simp (maxSteps := 1000000) (disch := first | omega | assumption | exact Nat.le_of_ble_eq_true rfl) only [go_sem, ↓mwp_block, simprocAttr, c2, s32, s16, s8, w16, w8, w48, w40, w56, w24])
        have hw := wrapB (n := (x) / 4294967296) (by omega)
        (try simp (maxSteps := 1000000) (disch := first | omega | assumption | exact Nat.le_of_ble_eq_true rfl) only [go_sem, ↓mwp_block, simprocAttr, hw])
        refine bind_tab (by kernel_rfl) (by omega) ?_
        (try simp (maxSteps := 1000000) (disch := first | omega | assumption | exact Nat.le_of_ble_eq_true rfl) only [go_sem, ↓mwp_block, simprocAttr])
        refine hK _ _ ⟨congrArg (Value.int .i64) (Len64_fin (m := 32) ?_ (bitLen_8 (by omega)) (by omega)), rfl⟩
        have q32 := bitLen_shr (x) 32 (by omega)
        rw [show (2 : Nat) ^ 32 = 4294967296 from rfl] at q32
        omega
  · (try simp (maxSteps := 1000000) (disch := first | omega | assumption | exact Nat.le_of_ble_eq_true rfl) only [go_sem, ↓mwp_block, simprocAttr, ir_math_bits_Len64, c0, s32, s16, s8, w16, w8, w48, w40, w56, w24])
    by_cases c1 : (65536 : Int) ≤ (x : Nat)
    · (try simp (maxSteps := 1000000) (disch := first | omega | assumption | exact Nat.le_of_ble_eq_true rfl) only [go_sem, ↓mwp_block, simprocAttr, c1, s32, s16, s8, w16, w8, w48, w40, w56, w24])
      by_cases c2 : (256 : Int) ≤ ((x) / 65536 : Nat)
      · (try simp (maxSteps := 1000000) (disch := first | omega | assumption | exact Nat.le_of_ble_eq_true rfl) only [go_sem, ↓mwp_block, simprocAttr, c2, s32, s16, s8, w16, w8, w48, w40, w56, w24])
        have hw := wrapB (n := ((x) / 65536) / 256) (by omega)
        (try simp (maxSteps := 1000000) (disch := first | omega | assumption | exact Nat.le_of_ble_eq_true rfl) only [go_sem, ↓mwp_block, simprocAttr, hw])
        refine bind_tab (by kernel_rfl) (by omega) ?_
        (try simp (maxSteps := 1000000) (disch := first | omega | assumption | exact Nat.le_of_ble_eq_true rfl) only [go_sem, ↓mwp_block, simprocAttr])
        refine hK _ _ ⟨congrArg (Value.int .i64) (Len64_fin (m := 24) ?_ (bitLen_8 (by omega)) (by omega)), rfl⟩
        have q16 := bitLen_shr (x) 16 (by omega)
        rw [show (2 : Nat) ^ 16 = 65536 from rfl] at q16
        have q8 := bitLen_shr ((x) / 65536) 8 (by omega)
        rw [show (2 : Nat) ^ 8 = 256 from rfl] at q8
        omega
      · (try simp (maxSteps := 1000000) (disch := first | omega | assumption | exact Nat.le_of_ble_eq_true rfl) only [go_sem, ↓mwp_block, simprocAttr, c2, s32, s16, s8, w16, w8, w48, w40, w56, w24])
        have hw := wrapB (n := (x) / 65536) (by omega)
        (try simp (maxSteps := 1000000) (disch := first | omega | assumption | exact Nat.le_of_ble_eq_true rfl) only [go_sem, ↓mwp_block, simprocAttr, hw])
        refine bind_tab (by kernel_rfl) (by omega) ?_
        (try simp (maxSteps := 1000000) (disch := first | omega | assumption | exact Nat.le_of_ble_eq_true rfl) only [go_sem, ↓mwp_block, simprocAttr])
        refine hK _ _ ⟨congrArg (Value.int .i64) (Len64_fin (m := 16) ?_ (bitLen_8 (by omega)) (by omega)), rfl⟩
        have q16 := bitLen_shr (x) 16 (by omega)
        rw [show (2 : Nat) ^ 16 = 65536 from rfl] at q16
        omega
    · (try simp (maxSteps := 1000000) (disch := first | omega | assumption | exact Nat.le_of_ble_eq_true rfl) only [go_sem, ↓mwp_block, simprocAttr, c1, s32, s16, s8, w16, w8, w48, w40, w56, w24])
      by_cases c2 : (256 : Int) ≤ (x : Nat)
      · (try simp (maxSteps := 1000000) (disch := first | omega | assumption | exact Nat.le_of_ble_eq_true rfl) only [go_sem, ↓mwp_block, simprocAttr, c2, s32, s16, s8, w16, w8, w48, w40, w56, w24])
        have hw := wrapB (n := (x) / 256) (by omega)
        (try simp (maxSteps := 1000000) (disch := first | omega | assumption | exact Nat.le_of_ble_eq_true rfl) only [go_sem, ↓mwp_block, simprocAttr, hw])
        refine bind_tab (by kernel_rfl) (by omega) ?_
        (try simp (maxSteps := 1000000) (disch := first | omega | assumption | exact Nat.le_of_ble_eq_true rfl) only [go_sem, ↓mwp_block, simprocAttr])
        refine hK _ _ ⟨congrArg (Value.int .i64) (Len64_fin (m := 8) ?_ (bitLen_8 (by omega)) (by omega)), rfl⟩
        have q8 := bitLen_shr (x) 8 (by omega)
        rw [show (2 : Nat) ^ 8 = 256 from rfl] at q8
        omega
      · (try simp (maxSteps := 1000000) (disch := first | omega | assumption | exact Nat.le_of_ble_eq_true rfl) only [go_sem, ↓mwp_block, simprocAttr, c2, s32, s16, s8, w16, w8, w48, w40, w56, w24])
        have hw := wrapB (n := x) (by omega)
        (try simp (maxSteps := 1000000) (disch := first | omega | assumption | exact Nat.le_of_ble_eq_true rfl) only [go_sem, ↓mwp_block, simprocAttr, hw])
        refine bind_tab (by kernel_rfl) (by omega) ?_
        (try simp (maxSteps := 1000000) (disch := first | omega | assumption | exact Nat.le_of_ble_eq_true rfl) only [go_sem, ↓mwp_block, simprocAttr])
        refine hK _ _ ⟨congrArg (Value.int .i64) (Len64_fin (m := 0) ?_ (bitLen_8 (by omega)) (by omega)), rfl⟩
        omega
end Go.Proofs.Ytnjjdpeglkiifaa.MX
