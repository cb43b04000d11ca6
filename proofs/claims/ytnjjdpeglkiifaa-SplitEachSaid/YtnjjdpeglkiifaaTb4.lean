/- The document's tables: which are right, and their bytes. -/
import Derived.Test.YtnjjdpeglkiifaaTb3
import Derived.Test.YtnjjdpeglkiifaaBy2
namespace Go.Proofs.Ytnjjdpeglkiifaa.MX
open Go Go.Proofs
set_option linter.unusedSimpArgs false
set_option linter.unusedVariables false

def Pol.fee (p : Pol) : Nat → Int | 0 => p.f0 | 1 => p.f1 | 2 => p.f2 | _ => p.f3
def Pol.sh (p : Pol) : Nat → Int | 0 => p.s0 | 1 => p.s1 | 2 => p.s2 | _ => p.s3
def Pol.to (p : Pol) : Nat → Int | 0 => p.t0 | 1 => p.t1 | 2 => p.t2 | _ => p.t3
def Pol.okAt (p : Pol) (i : Nat) : Prop := okPts (p.fee i) ∧ okGrade (p.sh i) (p.to i)
theorem Pol.right_iff (p : Pol) : p.right ↔ (∀ i, i < 4 → p.okAt i) ∧ 0 ≤ p.w ∧ p.w ≤ 1000 := by
  constructor
  · rintro ⟨⟨a0, a1, a2, a3⟩, ⟨b0, b1, b2, b3⟩, hw⟩
    refine ⟨fun i hi => ?_, hw⟩
    obtain rfl | rfl | rfl | rfl : i = 0 ∨ i = 1 ∨ i = 2 ∨ i = 3 := by omega
    · exact ⟨a0, b0⟩
    · exact ⟨a1, b1⟩
    · exact ⟨a2, b2⟩
    · exact ⟨a3, b3⟩
  · rintro ⟨h, hw⟩
    have h0 := h 0 (by omega)
    have h1 := h 1 (by omega)
    have h2 := h 2 (by omega)
    have h3 := h 3 (by omega)
    exact ⟨⟨h0.1, h1.1, h2.1, h3.1⟩, ⟨h0.2, h1.2, h2.2, h3.2⟩, hw⟩
theorem Pol.enc_fee (p : Pol) {i : Nat} (hi : i < 4) : p.enc[4 + i]? = some (.int .i64 (p.fee i)) := by
  obtain rfl | rfl | rfl | rfl : i = 0 ∨ i = 1 ∨ i = 2 ∨ i = 3 := by omega
  all_goals rfl
theorem Pol.enc_gr (p : Pol) {i : Nat} (hi : i < 4) : (p.enc.drop (8 + i * 2)).take 2 = [.int .i64 (p.sh i), .int .i64 (p.to i)] := by
  obtain rfl | rfl | rfl | rfl : i = 0 ∨ i = 1 ∨ i = 2 ∨ i = 3 := by omega
  all_goals rfl
theorem Pol.enc_sh (p : Pol) {i : Nat} (hi : i < 4) : p.enc[8 + i * 2]? = some (.int .i64 (p.sh i)) := by
  obtain rfl | rfl | rfl | rfl : i = 0 ∨ i = 1 ∨ i = 2 ∨ i = 3 := by omega
  all_goals rfl
theorem Pol.enc_to (p : Pol) {i : Nat} (hi : i < 4) : p.enc[8 + i * 2 + 1]? = some (.int .i64 (p.to i)) := by
  obtain rfl | rfl | rfl | rfl : i = 0 ∨ i = 1 ∨ i = 2 ∨ i = 3 := by omega
  all_goals rfl

end Go.Proofs.Ytnjjdpeglkiifaa.MX
