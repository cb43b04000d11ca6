/-
  No cell of these rows narrows 'for every input' (looked for: loops, veiled, ifaces, maps, wideKeys, modest, calm, conditions, laid).
  DERIVED. THE GIVEN ROWS OF THIS SEAT. 5 by the template 'for every input the law returns true; each argument reads behind the call as it read before'; 0 by the template 'total and deterministic' (their statements: YtnddmpnidbmfiaaTotals.lean).
  GIVEN WITH THE SEED: the statements are not yours to turn. If you find one false, say at which input.
  Laid BY PROGRAM, IN A SANDBOX (cutbox-rows.mjs): the forced cells as the released guide's own fill.sh prints them over the translation 332706e85fb34696… (all of the seat's roots in one cut). By AI agents, Wed Nov 11 2026. No macro, syntax, notation, axiom, sorry.
-/
import Derived.Test.YtnddmpnidbmfiaaChecked
import GoSem.Claim
import GoSem.ClaimJoined
import GoSem.ClaimMapViews
import Derived.JoinedTies
import Derived.KernelRfl
namespace Go.Proofs.Ytnddmpnidbmfiaa
/- THE CELL 'sum', in the pinned program and in every row, IS THE sha256 OF THE DUMP (.gsa) THAT YtnddmpnidbmfiaaProg.lean LOADS. Nothing in Lean hashes anything: it is a label: what it is worth is what the hold of that sum in a sandbox is worth. -/
noncomputable def Try.pinned : Pinned := { name := "ytnddmpnidbmfiaa", sum := "332706e85fb34696c2779c7d2addb921bc069afb30497b6a63fa70ab9cab3730", checked := Try.checked }
namespace Rows
def none {H : Type} : Left H := { results := [], args := [] }

/-- 'recouplaw13.OutboxWaits': WHATEVER THE INPUT: true; the input reads as it did. -/
def outboxWaitsSpec : ChangeSpec := { name := "outboxWaits", fn := fun _ => fun
  | [d] => { results := [.lit (.bool true)], args := [d] }
  | _ => none }
def outboxWaitsRow : OpenClaim := { program := "ytnddmpnidbmfiaa", sum := "332706e85fb34696c2779c7d2addb921bc069afb30497b6a63fa70ab9cab3730", func := "recoup/recouplaw13.OutboxWaits", spec := "outboxWaits", apart := false }
def OutboxWaitsSaid : Prop := outboxWaitsRow.holds Try.pinned (OpenSpec.ofChange outboxWaitsSpec)

/-- ITS FALSE NEIGHBOUR: 'it returns false'. Refute it at one input. -/
def outboxWaitsWrong : ChangeSpec := { name := "outboxWaits", fn := fun _ => fun
  | [d] => { results := [.lit (.bool false)], args := [d] }
  | _ => none }
def OutboxWaitsWrongFalsely : Prop := outboxWaitsRow.holds Try.pinned (OpenSpec.ofChange outboxWaitsWrong)

/-- 'recouplaw13.OutboxLoads': WHATEVER THE INPUT: true; the input reads as it did. -/
def outboxLoadsSpec : ChangeSpec := { name := "outboxLoads", fn := fun _ => fun
  | [d1, d2] => { results := [.lit (.bool true)], args := [d1, d2] }
  | _ => none }
def outboxLoadsRow : OpenClaim := { program := "ytnddmpnidbmfiaa", sum := "332706e85fb34696c2779c7d2addb921bc069afb30497b6a63fa70ab9cab3730", func := "recoup/recouplaw13.OutboxLoads", spec := "outboxLoads", apart := false }
def OutboxLoadsSaid : Prop := outboxLoadsRow.holds Try.pinned (OpenSpec.ofChange outboxLoadsSpec)

/-- ITS FALSE NEIGHBOUR: 'it returns false'. Refute it at one input. -/
def outboxLoadsWrong : ChangeSpec := { name := "outboxLoads", fn := fun _ => fun
  | [d1, d2] => { results := [.lit (.bool false)], args := [d1, d2] }
  | _ => none }
def OutboxLoadsWrongFalsely : Prop := outboxLoadsRow.holds Try.pinned (OpenSpec.ofChange outboxLoadsWrong)

/-- 'recouplaw13.OutboxLabels': WHATEVER THE INPUT: true; the input reads as it did. -/
def outboxLabelsSpec : ChangeSpec := { name := "outboxLabels", fn := fun _ => fun
  | [d1, d2, d3, d4] => { results := [.lit (.bool true)], args := [d1, d2, d3, d4] }
  | _ => none }
def outboxLabelsRow : OpenClaim := { program := "ytnddmpnidbmfiaa", sum := "332706e85fb34696c2779c7d2addb921bc069afb30497b6a63fa70ab9cab3730", func := "recoup/recouplaw13.OutboxLabels", spec := "outboxLabels", apart := false }
def OutboxLabelsSaid : Prop := outboxLabelsRow.holds Try.pinned (OpenSpec.ofChange outboxLabelsSpec)

/-- ITS FALSE NEIGHBOUR: 'it returns false'. Refute it at one input. -/
def outboxLabelsWrong : ChangeSpec := { name := "outboxLabels", fn := fun _ => fun
  | [d1, d2, d3, d4] => { results := [.lit (.bool false)], args := [d1, d2, d3, d4] }
  | _ => none }
def OutboxLabelsWrongFalsely : Prop := outboxLabelsRow.holds Try.pinned (OpenSpec.ofChange outboxLabelsWrong)

/-- 'recouplaw13.OutboxPlays': WHATEVER THE INPUT: true; the input reads as it did. -/
def outboxPlaysSpec : ChangeSpec := { name := "outboxPlays", fn := fun _ => fun
  | [d] => { results := [.lit (.bool true)], args := [d] }
  | _ => none }
def outboxPlaysRow : OpenClaim := { program := "ytnddmpnidbmfiaa", sum := "332706e85fb34696c2779c7d2addb921bc069afb30497b6a63fa70ab9cab3730", func := "recoup/recouplaw13.OutboxPlays", spec := "outboxPlays", unfollowed := true, recurses := true, apart := false }
def OutboxPlaysSaid : Prop := outboxPlaysRow.holds Try.pinned (OpenSpec.ofChange outboxPlaysSpec)

/-- ITS FALSE NEIGHBOUR: 'it returns false'. Refute it at one input. -/
def outboxPlaysWrong : ChangeSpec := { name := "outboxPlays", fn := fun _ => fun
  | [d] => { results := [.lit (.bool false)], args := [d] }
  | _ => none }
def OutboxPlaysWrongFalsely : Prop := outboxPlaysRow.holds Try.pinned (OpenSpec.ofChange outboxPlaysWrong)

/-- 'recouplaw13.OutboxNil': WHATEVER THE INPUT: true; the input reads as it did. -/
def outboxNilSpec : ChangeSpec := { name := "outboxNil", fn := fun _ => fun
  | [d] => { results := [.lit (.bool true)], args := [d] }
  | _ => none }
def outboxNilRow : OpenClaim := { program := "ytnddmpnidbmfiaa", sum := "332706e85fb34696c2779c7d2addb921bc069afb30497b6a63fa70ab9cab3730", func := "recoup/recouplaw13.OutboxNil", spec := "outboxNil", unfollowed := true, recurses := true, apart := false }
def OutboxNilSaid : Prop := outboxNilRow.holds Try.pinned (OpenSpec.ofChange outboxNilSpec)

/-- ITS FALSE NEIGHBOUR: 'it returns false'. Refute it at one input. -/
def outboxNilWrong : ChangeSpec := { name := "outboxNil", fn := fun _ => fun
  | [d] => { results := [.lit (.bool false)], args := [d] }
  | _ => none }
def OutboxNilWrongFalsely : Prop := outboxNilRow.holds Try.pinned (OpenSpec.ofChange outboxNilWrong)

/- THE SECOND FORM. 'bulk': how many values and letters a reading holds, each counted each time it is reached (what is shared counts as often as it is met; a slice's spare places count too). A statement '..UptoSaid' is the law's where the arguments, and the package variables that the reading takes, are together of bulk at most 1048576: NARROWER than '..Said'. Prove '..Said' where nothing that the law and all that it calls make is longer than what came in: it says more and counts as full. Else prove '..UptoSaid'. A law counts once. -/
mutual
def uptoBulk {H : Type} : DataW H → Nat
  | .lit (.string bytes) => bytes.length + 1
  | .lit _ => 1
  | .nil => 1
  | .ptr d => uptoBulk d + 1
  | .slice elems spare => uptoBulkAll elems + uptoBulkAll spare + 1
  | .agg parts => uptoBulkAll parts + 1
  | .iface _ d => uptoBulk d + 1
  | .map entries => uptoBulkEntries entries + 1
  | .held _ => 1
def uptoBulkAll {H : Type} : List (DataW H) → Nat
  | [] => 0
  | d :: r => uptoBulk d + uptoBulkAll r
def uptoBulkEntries {H : Type} : List (Lit × DataW H) → Nat
  | [] => 0
  | x :: r => uptoBulkEntry x + uptoBulkEntries r
def uptoBulkEntry {H : Type} : Lit × DataW H → Nat
  | (.string bytes, d) => bytes.length + uptoBulk d + 1
  | (_, d) => uptoBulk d + 1
 end
def uptoSmall : (H : Type) → List (DataW H) → Bool := fun _ ds => decide (uptoBulkAll ds ≤ 1048576)
def OpenSpec.upto (s : _root_.Go.ChangeSpec) : _root_.Go.OpenSpec := { _root_.Go.OpenSpec.ofChange s with cond := some uptoSmall }

/-- 'recouplaw13.OutboxWaits', WHERE WHAT IT READS IS OF BULK AT MOST 1048576: true; the input reads as it did. -/
def outboxWaitsUptoRow : OpenClaim := { program := "ytnddmpnidbmfiaa", sum := "332706e85fb34696c2779c7d2addb921bc069afb30497b6a63fa70ab9cab3730", func := "recoup/recouplaw13.OutboxWaits", spec := "outboxWaits", apart := false, narrowed := true }
def OutboxWaitsUptoSaid : Prop := outboxWaitsUptoRow.holds Try.pinned (OpenSpec.upto outboxWaitsSpec)

/-- 'recouplaw13.OutboxLoads', WHERE WHAT IT READS IS OF BULK AT MOST 1048576: true; the input reads as it did. -/
def outboxLoadsUptoRow : OpenClaim := { program := "ytnddmpnidbmfiaa", sum := "332706e85fb34696c2779c7d2addb921bc069afb30497b6a63fa70ab9cab3730", func := "recoup/recouplaw13.OutboxLoads", spec := "outboxLoads", apart := false, narrowed := true }
def OutboxLoadsUptoSaid : Prop := outboxLoadsUptoRow.holds Try.pinned (OpenSpec.upto outboxLoadsSpec)

/-- 'recouplaw13.OutboxLabels', WHERE WHAT IT READS IS OF BULK AT MOST 1048576: true; the input reads as it did. -/
def outboxLabelsUptoRow : OpenClaim := { program := "ytnddmpnidbmfiaa", sum := "332706e85fb34696c2779c7d2addb921bc069afb30497b6a63fa70ab9cab3730", func := "recoup/recouplaw13.OutboxLabels", spec := "outboxLabels", apart := false, narrowed := true }
def OutboxLabelsUptoSaid : Prop := outboxLabelsUptoRow.holds Try.pinned (OpenSpec.upto outboxLabelsSpec)

/-- 'recouplaw13.OutboxPlays', WHERE WHAT IT READS IS OF BULK AT MOST 1048576: true; the input reads as it did. -/
def outboxPlaysUptoRow : OpenClaim := { program := "ytnddmpnidbmfiaa", sum := "332706e85fb34696c2779c7d2addb921bc069afb30497b6a63fa70ab9cab3730", func := "recoup/recouplaw13.OutboxPlays", spec := "outboxPlays", unfollowed := true, recurses := true, apart := false, narrowed := true }
def OutboxPlaysUptoSaid : Prop := outboxPlaysUptoRow.holds Try.pinned (OpenSpec.upto outboxPlaysSpec)

/-- 'recouplaw13.OutboxNil', WHERE WHAT IT READS IS OF BULK AT MOST 1048576: true; the input reads as it did. -/
def outboxNilUptoRow : OpenClaim := { program := "ytnddmpnidbmfiaa", sum := "332706e85fb34696c2779c7d2addb921bc069afb30497b6a63fa70ab9cab3730", func := "recoup/recouplaw13.OutboxNil", spec := "outboxNil", unfollowed := true, recurses := true, apart := false, narrowed := true }
def OutboxNilUptoSaid : Prop := outboxNilUptoRow.holds Try.pinned (OpenSpec.upto outboxNilSpec)

end Rows
end Go.Proofs.Ytnddmpnidbmfiaa
