/- The engine, part R: from a walk over heaps to what a row asks. -/
import Derived.Test.YtnjjdpeglkiifaaMXN
namespace Go.Proofs.Ytnjjdpeglkiifaa.MX
open Go Go.RowKit
theorem toBelow {P : Program} {f : FuncId} {args : List Value} {W : World} (hc : CallsH P f args W.heap fun v h' => v = .bool true ∧ Fr W.heap h' []) :
    Calls P f args.toArray W fun e w' => e = .returned (.bool true) ∧ Below W.heap.size W w' := by
  refine (hc W rfl).mono ?_
  rintro e w' ⟨v, rfl, ha, rfl, hf⟩
  exact ⟨rfl, ha.1, ha.2.1, ha.2.2, hf.size, fun k hk => hf.same k hk (by simp)⟩
theorem wf_i64 {n : Int} (h : (Lit.int .i64 n).wf = true) : -9223372036854775808 ≤ n ∧ n < 9223372036854775808 := by
  simp [Lit.wf, IntKind.min, IntKind.max, IntKind.signed, IntKind.bits] at h
  omega
theorem wf_u8 {n : Int} (h : (Lit.int .u8 n).wf = true) : 0 ≤ n ∧ n < 256 := by
  simp [Lit.wf, IntKind.min, IntKind.max, IntKind.signed, IntKind.bits] at h
  omega
theorem wf_u16 {n : Int} (h : (Lit.int .u16 n).wf = true) : 0 ≤ n ∧ n < 65536 := by
  simp [Lit.wf, IntKind.min, IntKind.max, IntKind.signed, IntKind.bits] at h
  omega
theorem wf_u32 {n : Int} (h : (Lit.int .u32 n).wf = true) : 0 ≤ n ∧ n < 4294967296 := by
  simp [Lit.wf, IntKind.min, IntKind.max, IntKind.signed, IntKind.bits] at h
  omega
theorem wf_u64 {n : Int} (h : (Lit.int .u64 n).wf = true) : 0 ≤ n ∧ n < 18446744073709551616 := by
  simp [Lit.wf, IntKind.min, IntKind.max, IntKind.signed, IntKind.bits] at h
  omega
end Go.Proofs.Ytnjjdpeglkiifaa.MX
