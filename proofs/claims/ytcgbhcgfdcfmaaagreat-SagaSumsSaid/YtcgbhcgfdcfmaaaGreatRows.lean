/-
  No cell of these rows narrows 'for every input' (looked for: loops, veiled, ifaces, maps, wideKeys, modest, calm, conditions, laid).
  DERIVED. THE GIVEN ROWS OF THIS SEAT. 3 by the template 'for every input the law returns true; each argument reads behind the call as it read before'; 0 by the template 'total and deterministic' (their statements: YtcgbhcgfdcfmaaaGreatTotals.lean).
  GIVEN WITH THE SEED: the statements are not yours to turn. If you find one false, say at which input.
  Laid BY PROGRAM, IN A SANDBOX (cutbox-rows.mjs): the forced cells as the released guide's own fill.sh prints them over the translation 71ebbc47a8dfb795… (all of the seat's roots in one cut). By AI agents, Wed Nov 11 2026. No macro, syntax, notation, axiom, sorry.
-/
import Derived.Test.YtcgbhcgfdcfmaaaGreatChecked
import GoSem.Claim
import GoSem.ClaimJoined
import GoSem.ClaimMapViews
import Derived.JoinedTies
import Derived.KernelRfl
namespace Go.Proofs.YtcgbhcgfdcfmaaaGreat
/- THE CELL 'sum', in the pinned program and in every row, IS THE sha256 OF THE DUMP (.gsa) THAT YtcgbhcgfdcfmaaaGreatProg.lean LOADS. Nothing in Lean hashes anything: it is a label: what it is worth is what the hold of that sum in a sandbox is worth. -/
noncomputable def Tryz.pinned : Pinned := { name := "ytcgbhcgfdcfmaaagreat", sum := "71ebbc47a8dfb795c088cdd2a975675d00d1e149e788c20b8cb0e95e3b530810", checked := Tryz.checked }
namespace Rows
def none {H : Type} : Left H := { results := [], args := [] }

/-- 'recouplaw16.SagaKeys': WHATEVER THE INPUT: true; the input reads as it did. -/
def sagaKeysSpec : ChangeSpec := { name := "sagaKeys", fn := fun _ => fun
  | [d1, d2] => { results := [.lit (.bool true)], args := [d1, d2] }
  | _ => none }
def sagaKeysRow : OpenClaim := { program := "ytcgbhcgfdcfmaaagreat", sum := "71ebbc47a8dfb795c088cdd2a975675d00d1e149e788c20b8cb0e95e3b530810", func := "recoup/recouplaw16.SagaKeys", spec := "sagaKeys", inPlace := ["slices.overlaps[recoup/timer.Timer]"], unfollowed := true, recurses := true, named := ["math/bits.divideError", "math/bits.overflowError"], apart := false }
def SagaKeysSaid : Prop := sagaKeysRow.holds Tryz.pinned (OpenSpec.ofChange sagaKeysSpec)

/-- ITS FALSE NEIGHBOUR: 'it returns false'. Refute it at one input. -/
def sagaKeysWrong : ChangeSpec := { name := "sagaKeys", fn := fun _ => fun
  | [d1, d2] => { results := [.lit (.bool false)], args := [d1, d2] }
  | _ => none }
def SagaKeysWrongFalsely : Prop := sagaKeysRow.holds Tryz.pinned (OpenSpec.ofChange sagaKeysWrong)

/-- 'recouplaw16.SagaSums': WHATEVER THE INPUT: true; the input reads as it did. -/
def sagaSumsSpec : ChangeSpec := { name := "sagaSums", fn := fun _ => fun
  | [d1, d2] => { results := [.lit (.bool true)], args := [d1, d2] }
  | _ => none }
def sagaSumsRow : OpenClaim := { program := "ytcgbhcgfdcfmaaagreat", sum := "71ebbc47a8dfb795c088cdd2a975675d00d1e149e788c20b8cb0e95e3b530810", func := "recoup/recouplaw16.SagaSums", spec := "sagaSums", inPlace := ["slices.overlaps[recoup/timer.Timer]"], unfollowed := true, recurses := true, named := ["math/bits.divideError", "math/bits.overflowError"], apart := false }
def SagaSumsSaid : Prop := sagaSumsRow.holds Tryz.pinned (OpenSpec.ofChange sagaSumsSpec)

/-- ITS FALSE NEIGHBOUR: 'it returns false'. Refute it at one input. -/
def sagaSumsWrong : ChangeSpec := { name := "sagaSums", fn := fun _ => fun
  | [d1, d2] => { results := [.lit (.bool false)], args := [d1, d2] }
  | _ => none }
def SagaSumsWrongFalsely : Prop := sagaSumsRow.holds Tryz.pinned (OpenSpec.ofChange sagaSumsWrong)

/-- 'recouplaw16.SagaUnits': WHATEVER THE INPUT: true; the input reads as it did. -/
def sagaUnitsSpec : ChangeSpec := { name := "sagaUnits", fn := fun _ => fun
  | [d1, d2] => { results := [.lit (.bool true)], args := [d1, d2] }
  | _ => none }
def sagaUnitsRow : OpenClaim := { program := "ytcgbhcgfdcfmaaagreat", sum := "71ebbc47a8dfb795c088cdd2a975675d00d1e149e788c20b8cb0e95e3b530810", func := "recoup/recouplaw16.SagaUnits", spec := "sagaUnits", inPlace := ["slices.overlaps[recoup/timer.Timer]"], unfollowed := true, recurses := true, named := ["math/bits.divideError", "math/bits.overflowError"], apart := false }
def SagaUnitsSaid : Prop := sagaUnitsRow.holds Tryz.pinned (OpenSpec.ofChange sagaUnitsSpec)

/-- ITS FALSE NEIGHBOUR: 'it returns false'. Refute it at one input. -/
def sagaUnitsWrong : ChangeSpec := { name := "sagaUnits", fn := fun _ => fun
  | [d1, d2] => { results := [.lit (.bool false)], args := [d1, d2] }
  | _ => none }
def SagaUnitsWrongFalsely : Prop := sagaUnitsRow.holds Tryz.pinned (OpenSpec.ofChange sagaUnitsWrong)

/- THE SECOND FORM. 'bulk': how many values and letters a reading holds, each counted each time it is reached (what is shared counts as often as it is met; a slice's spare places count too). A statement '..UptoSaid' is the law's where the arguments, and the package variables that the reading takes, are together of bulk at most 1048576: NARROWER than '..Said'. Prove '..Said' where nothing that the law and all that it calls make is longer than what came in: it says more and counts as full. Else prove '..UptoSaid'. A law counts once. -/
mutual
def uptoBulk {H : Type} : DataW H → Nat
  | .lit (.string bytes) => bytes.length + 1
  | .lit _ => 1
  | .nil => 1
  | .ptr d => uptoBulk d + 1
  | .slice elems spare => uptoBulkAll elems + uptoBulkAll spare + 1
  | .agg parts => uptoBulkAll parts + 1
  | .iface _ d => uptoBulk d + 1
  | .map entries => uptoBulkEntries entries + 1
  | .held _ => 1
def uptoBulkAll {H : Type} : List (DataW H) → Nat
  | [] => 0
  | d :: r => uptoBulk d + uptoBulkAll r
def uptoBulkEntries {H : Type} : List (Lit × DataW H) → Nat
  | [] => 0
  | x :: r => uptoBulkEntry x + uptoBulkEntries r
def uptoBulkEntry {H : Type} : Lit × DataW H → Nat
  | (.string bytes, d) => bytes.length + uptoBulk d + 1
  | (_, d) => uptoBulk d + 1
 end
def uptoSmall : (H : Type) → List (DataW H) → Bool := fun _ ds => decide (uptoBulkAll ds ≤ 1048576)
def OpenSpec.upto (s : _root_.Go.ChangeSpec) : _root_.Go.OpenSpec := { _root_.Go.OpenSpec.ofChange s with cond := some uptoSmall }

/-- 'recouplaw16.SagaKeys', WHERE WHAT IT READS IS OF BULK AT MOST 1048576: true; the input reads as it did. -/
def sagaKeysUptoRow : OpenClaim := { program := "ytcgbhcgfdcfmaaagreat", sum := "71ebbc47a8dfb795c088cdd2a975675d00d1e149e788c20b8cb0e95e3b530810", func := "recoup/recouplaw16.SagaKeys", spec := "sagaKeys", inPlace := ["slices.overlaps[recoup/timer.Timer]"], unfollowed := true, recurses := true, named := ["math/bits.divideError", "math/bits.overflowError"], apart := false, narrowed := true }
def SagaKeysUptoSaid : Prop := sagaKeysUptoRow.holds Tryz.pinned (OpenSpec.upto sagaKeysSpec)

/-- 'recouplaw16.SagaSums', WHERE WHAT IT READS IS OF BULK AT MOST 1048576: true; the input reads as it did. -/
def sagaSumsUptoRow : OpenClaim := { program := "ytcgbhcgfdcfmaaagreat", sum := "71ebbc47a8dfb795c088cdd2a975675d00d1e149e788c20b8cb0e95e3b530810", func := "recoup/recouplaw16.SagaSums", spec := "sagaSums", inPlace := ["slices.overlaps[recoup/timer.Timer]"], unfollowed := true, recurses := true, named := ["math/bits.divideError", "math/bits.overflowError"], apart := false, narrowed := true }
def SagaSumsUptoSaid : Prop := sagaSumsUptoRow.holds Tryz.pinned (OpenSpec.upto sagaSumsSpec)

/-- 'recouplaw16.SagaUnits', WHERE WHAT IT READS IS OF BULK AT MOST 1048576: true; the input reads as it did. -/
def sagaUnitsUptoRow : OpenClaim := { program := "ytcgbhcgfdcfmaaagreat", sum := "71ebbc47a8dfb795c088cdd2a975675d00d1e149e788c20b8cb0e95e3b530810", func := "recoup/recouplaw16.SagaUnits", spec := "sagaUnits", inPlace := ["slices.overlaps[recoup/timer.Timer]"], unfollowed := true, recurses := true, named := ["math/bits.divideError", "math/bits.overflowError"], apart := false, narrowed := true }
def SagaUnitsUptoSaid : Prop := sagaUnitsUptoRow.holds Tryz.pinned (OpenSpec.upto sagaUnitsSpec)

end Rows
end Go.Proofs.YtcgbhcgfdcfmaaaGreat
