/- Timers, part 9: the arguments' cells; TimerClones. -/
import Derived.Test.YtnjjdpeglkiifaaTi8
namespace Go.Proofs.Ytnjjdpeglkiifaa.MX
open Go Go.Proofs
set_option linter.unusedSimpArgs false
set_option linter.unusedVariables false
abbrev Tm.enc : Tm → List Value := tmE
def Tm.ok (x : Tm) : Prop := (-9223372036854775808 ≤ x.day ∧ x.day < 9223372036854775808) ∧ (-9223372036854775808 ≤ x.num ∧ x.num < 9223372036854775808)
theorem tm_of {h : Heap} {d : Nat} {cs : List Value} (hg : Good Try.prog h d 30 cs) : ∃ x : Tm, cs = x.enc ∧ x.ok := by
  have hl : leaves Try.prog 3 30 = some [.int .i64, .int .i64] := by kernel_rfl
  obtain ⟨a, _, rfl, w0, b, _, rfl, w1, rfl⟩ := leaves_of 3 hg hl
  exact ⟨⟨a, b⟩, rfl, wf_i64 w0, wf_i64 w1⟩
def TA.ok (x : TA) : Prop := (0 ≤ x.kind ∧ x.kind < 256) ∧ (-9223372036854775808 ≤ x.num ∧ x.num < 9223372036854775808) ∧ (-9223372036854775808 ≤ x.day ∧ x.day < 9223372036854775808)
theorem ta_of {h : Heap} {d : Nat} {cs : List Value} (hg : Good Try.prog h d 38 cs) : ∃ x : TA, cs = x.enc ∧ x.ok := by
  have hl : leaves Try.prog 3 38 = some [.int .u8, .int .i64, .int .i64] := by kernel_rfl
  obtain ⟨k, _, rfl, w0, a, _, rfl, w1, b, _, rfl, w2, rfl⟩ := leaves_of 3 hg hl
  exact ⟨⟨k, a, b⟩, rfl, wf_u8 w0, wf_i64 w1, wf_i64 w2⟩
theorem TimerClones_row (A : Option Addr) (c : Nat) (l : List Tm) (B : Option Addr) (d : Nat) (s : List TA) (h0 : Heap) (ha : Arr Tm.enc 2 h0 A l) (_ : l.length ≤ c) (_ : c ≤ maxLen) (_ : ∀ x ∈ l, x.ok) (hb : Arr TA.enc 3 h0 B s) (_ : s.length ≤ d) (_ : d ≤ maxLen) (_ : ∀ x ∈ s, x.ok) :
    CallsH Try.prog 6 [.slice A l.length c, .slice B s.length d] h0 fun v h' => v = .bool true ∧ Fr h0 h' [] := TimerClones_ok A c l B d s h0 ha hb
end Go.Proofs.Ytnjjdpeglkiifaa.MX
