/-
  No cell of these rows narrows 'for every input' (looked for: loops, veiled, ifaces, maps, wideKeys, modest, calm, conditions, laid).
  DERIVED. THE GIVEN ROWS OF THIS SEAT. 5 by the template 'for every input the law returns true; each argument reads behind the call as it read before'; 0 by the template 'total and deterministic' (their statements: YtblalmgahfbalaaTotals.lean).
  GIVEN WITH THE SEED: the statements are not yours to turn. If you find one false, say at which input.
  Laid BY PROGRAM, IN A SANDBOX (cutbox-rows.mjs): the forced cells as the released guide's own fill.sh prints them over the translation 1e06acf04c397097… (all of the seat's roots in one cut). By AI agents, Wed Nov 11 2026. No macro, syntax, notation, axiom, sorry.
-/
import Derived.Test.YtblalmgahfbalaaChecked
import GoSem.Claim
import GoSem.ClaimJoined
import GoSem.ClaimMapViews
import Derived.JoinedTies
import Derived.KernelRfl
namespace Go.Proofs.Ytblalmgahfbalaa
/- THE CELL 'sum', in the pinned program and in every row, IS THE sha256 OF THE DUMP (.gsa) THAT YtblalmgahfbalaaProg.lean LOADS. Nothing in Lean hashes anything: it is a label: what it is worth is what the hold of that sum in a sandbox is worth. -/
noncomputable def Try.pinned : Pinned := { name := "ytblalmgahfbalaa", sum := "1e06acf04c397097025ae4ff35371fb752bcde966424c629fe0225435b07eb5a", checked := Try.checked }
namespace Rows
def none {H : Type} : Left H := { results := [], args := [] }

/-- 'recouplaw10.OrderUnits': WHATEVER THE INPUT: true; the input reads as it did. -/
def orderUnitsSpec : ChangeSpec := { name := "orderUnits", fn := fun _ => fun
  | [d] => { results := [.lit (.bool true)], args := [d] }
  | _ => none }
def orderUnitsRow : OpenClaim := { program := "ytblalmgahfbalaa", sum := "1e06acf04c397097025ae4ff35371fb752bcde966424c629fe0225435b07eb5a", func := "recoup/recouplaw10.OrderUnits", spec := "orderUnits", unfollowed := true, recurses := true, named := ["math/bits.divideError", "math/bits.overflowError"], apart := false }
def OrderUnitsSaid : Prop := orderUnitsRow.holds Try.pinned (OpenSpec.ofChange orderUnitsSpec)

/-- ITS FALSE NEIGHBOUR: 'it returns false'. Refute it at one input. -/
def orderUnitsWrong : ChangeSpec := { name := "orderUnits", fn := fun _ => fun
  | [d] => { results := [.lit (.bool false)], args := [d] }
  | _ => none }
def OrderUnitsWrongFalsely : Prop := orderUnitsRow.holds Try.pinned (OpenSpec.ofChange orderUnitsWrong)

/-- 'recouplaw10.OrderSums': WHATEVER THE INPUT: true; the input reads as it did. -/
def orderSumsSpec : ChangeSpec := { name := "orderSums", fn := fun _ => fun
  | [d] => { results := [.lit (.bool true)], args := [d] }
  | _ => none }
def orderSumsRow : OpenClaim := { program := "ytblalmgahfbalaa", sum := "1e06acf04c397097025ae4ff35371fb752bcde966424c629fe0225435b07eb5a", func := "recoup/recouplaw10.OrderSums", spec := "orderSums", unfollowed := true, recurses := true, named := ["math/bits.divideError", "math/bits.overflowError"], apart := false }
def OrderSumsSaid : Prop := orderSumsRow.holds Try.pinned (OpenSpec.ofChange orderSumsSpec)

/-- ITS FALSE NEIGHBOUR: 'it returns false'. Refute it at one input. -/
def orderSumsWrong : ChangeSpec := { name := "orderSums", fn := fun _ => fun
  | [d] => { results := [.lit (.bool false)], args := [d] }
  | _ => none }
def OrderSumsWrongFalsely : Prop := orderSumsRow.holds Try.pinned (OpenSpec.ofChange orderSumsWrong)

/-- 'recouplaw10.OrderPrices': WHATEVER THE INPUT: true; the input reads as it did. -/
def orderPricesSpec : ChangeSpec := { name := "orderPrices", fn := fun _ => fun
  | [d1, d2, d3] => { results := [.lit (.bool true)], args := [d1, d2, d3] }
  | _ => none }
def orderPricesRow : OpenClaim := { program := "ytblalmgahfbalaa", sum := "1e06acf04c397097025ae4ff35371fb752bcde966424c629fe0225435b07eb5a", func := "recoup/recouplaw10.OrderPrices", spec := "orderPrices", unfollowed := true, recurses := true, named := ["math/bits.divideError", "math/bits.overflowError"], apart := false }
def OrderPricesSaid : Prop := orderPricesRow.holds Try.pinned (OpenSpec.ofChange orderPricesSpec)

/-- ITS FALSE NEIGHBOUR: 'it returns false'. Refute it at one input. -/
def orderPricesWrong : ChangeSpec := { name := "orderPrices", fn := fun _ => fun
  | [d1, d2, d3] => { results := [.lit (.bool false)], args := [d1, d2, d3] }
  | _ => none }
def OrderPricesWrongFalsely : Prop := orderPricesRow.holds Try.pinned (OpenSpec.ofChange orderPricesWrong)

/-- 'recouplaw10.OrderReads': WHATEVER THE INPUT: true; the input reads as it did. -/
def orderReadsSpec : ChangeSpec := { name := "orderReads", fn := fun _ => fun
  | [d] => { results := [.lit (.bool true)], args := [d] }
  | _ => none }
def orderReadsRow : OpenClaim := { program := "ytblalmgahfbalaa", sum := "1e06acf04c397097025ae4ff35371fb752bcde966424c629fe0225435b07eb5a", func := "recoup/recouplaw10.OrderReads", spec := "orderReads", unfollowed := true, recurses := true, named := ["math/bits.divideError", "math/bits.overflowError"], apart := false }
def OrderReadsSaid : Prop := orderReadsRow.holds Try.pinned (OpenSpec.ofChange orderReadsSpec)

/-- ITS FALSE NEIGHBOUR: 'it returns false'. Refute it at one input. -/
def orderReadsWrong : ChangeSpec := { name := "orderReads", fn := fun _ => fun
  | [d] => { results := [.lit (.bool false)], args := [d] }
  | _ => none }
def OrderReadsWrongFalsely : Prop := orderReadsRow.holds Try.pinned (OpenSpec.ofChange orderReadsWrong)

/-- 'recouplaw10.OrderBack': WHATEVER THE INPUT: true; the input reads as it did. -/
def orderBackSpec : ChangeSpec := { name := "orderBack", fn := fun _ => fun
  | [d] => { results := [.lit (.bool true)], args := [d] }
  | _ => none }
def orderBackRow : OpenClaim := { program := "ytblalmgahfbalaa", sum := "1e06acf04c397097025ae4ff35371fb752bcde966424c629fe0225435b07eb5a", func := "recoup/recouplaw10.OrderBack", spec := "orderBack", unfollowed := true, recurses := true, named := ["math/bits.divideError", "math/bits.overflowError"], apart := false }
def OrderBackSaid : Prop := orderBackRow.holds Try.pinned (OpenSpec.ofChange orderBackSpec)

/-- ITS FALSE NEIGHBOUR: 'it returns false'. Refute it at one input. -/
def orderBackWrong : ChangeSpec := { name := "orderBack", fn := fun _ => fun
  | [d] => { results := [.lit (.bool false)], args := [d] }
  | _ => none }
def OrderBackWrongFalsely : Prop := orderBackRow.holds Try.pinned (OpenSpec.ofChange orderBackWrong)

/- THE SECOND FORM. 'bulk': how many values and letters a reading holds, each counted each time it is reached (what is shared counts as often as it is met; a slice's spare places count too). A statement '..UptoSaid' is the law's where the arguments, and the package variables that the reading takes, are together of bulk at most 1048576: NARROWER than '..Said'. Prove '..Said' where nothing that the law and all that it calls make is longer than what came in: it says more and counts as full. Else prove '..UptoSaid'. A law counts once. -/
mutual
def uptoBulk {H : Type} : DataW H → Nat
  | .lit (.string bytes) => bytes.length + 1
  | .lit _ => 1
  | .nil => 1
  | .ptr d => uptoBulk d + 1
  | .slice elems spare => uptoBulkAll elems + uptoBulkAll spare + 1
  | .agg parts => uptoBulkAll parts + 1
  | .iface _ d => uptoBulk d + 1
  | .map entries => uptoBulkEntries entries + 1
  | .held _ => 1
def uptoBulkAll {H : Type} : List (DataW H) → Nat
  | [] => 0
  | d :: r => uptoBulk d + uptoBulkAll r
def uptoBulkEntries {H : Type} : List (Lit × DataW H) → Nat
  | [] => 0
  | x :: r => uptoBulkEntry x + uptoBulkEntries r
def uptoBulkEntry {H : Type} : Lit × DataW H → Nat
  | (.string bytes, d) => bytes.length + uptoBulk d + 1
  | (_, d) => uptoBulk d + 1
 end
def uptoSmall : (H : Type) → List (DataW H) → Bool := fun _ ds => decide (uptoBulkAll ds ≤ 1048576)
def OpenSpec.upto (s : _root_.Go.ChangeSpec) : _root_.Go.OpenSpec := { _root_.Go.OpenSpec.ofChange s with cond := some uptoSmall }

/-- 'recouplaw10.OrderUnits', WHERE WHAT IT READS IS OF BULK AT MOST 1048576: true; the input reads as it did. -/
def orderUnitsUptoRow : OpenClaim := { program := "ytblalmgahfbalaa", sum := "1e06acf04c397097025ae4ff35371fb752bcde966424c629fe0225435b07eb5a", func := "recoup/recouplaw10.OrderUnits", spec := "orderUnits", unfollowed := true, recurses := true, named := ["math/bits.divideError", "math/bits.overflowError"], apart := false, narrowed := true }
def OrderUnitsUptoSaid : Prop := orderUnitsUptoRow.holds Try.pinned (OpenSpec.upto orderUnitsSpec)

/-- 'recouplaw10.OrderSums', WHERE WHAT IT READS IS OF BULK AT MOST 1048576: true; the input reads as it did. -/
def orderSumsUptoRow : OpenClaim := { program := "ytblalmgahfbalaa", sum := "1e06acf04c397097025ae4ff35371fb752bcde966424c629fe0225435b07eb5a", func := "recoup/recouplaw10.OrderSums", spec := "orderSums", unfollowed := true, recurses := true, named := ["math/bits.divideError", "math/bits.overflowError"], apart := false, narrowed := true }
def OrderSumsUptoSaid : Prop := orderSumsUptoRow.holds Try.pinned (OpenSpec.upto orderSumsSpec)

/-- 'recouplaw10.OrderPrices', WHERE WHAT IT READS IS OF BULK AT MOST 1048576: true; the input reads as it did. -/
def orderPricesUptoRow : OpenClaim := { program := "ytblalmgahfbalaa", sum := "1e06acf04c397097025ae4ff35371fb752bcde966424c629fe0225435b07eb5a", func := "recoup/recouplaw10.OrderPrices", spec := "orderPrices", unfollowed := true, recurses := true, named := ["math/bits.divideError", "math/bits.overflowError"], apart := false, narrowed := true }
def OrderPricesUptoSaid : Prop := orderPricesUptoRow.holds Try.pinned (OpenSpec.upto orderPricesSpec)

/-- 'recouplaw10.OrderReads', WHERE WHAT IT READS IS OF BULK AT MOST 1048576: true; the input reads as it did. -/
def orderReadsUptoRow : OpenClaim := { program := "ytblalmgahfbalaa", sum := "1e06acf04c397097025ae4ff35371fb752bcde966424c629fe0225435b07eb5a", func := "recoup/recouplaw10.OrderReads", spec := "orderReads", unfollowed := true, recurses := true, named := ["math/bits.divideError", "math/bits.overflowError"], apart := false, narrowed := true }
def OrderReadsUptoSaid : Prop := orderReadsUptoRow.holds Try.pinned (OpenSpec.upto orderReadsSpec)

/-- 'recouplaw10.OrderBack', WHERE WHAT IT READS IS OF BULK AT MOST 1048576: true; the input reads as it did. -/
def orderBackUptoRow : OpenClaim := { program := "ytblalmgahfbalaa", sum := "1e06acf04c397097025ae4ff35371fb752bcde966424c629fe0225435b07eb5a", func := "recoup/recouplaw10.OrderBack", spec := "orderBack", unfollowed := true, recurses := true, named := ["math/bits.divideError", "math/bits.overflowError"], apart := false, narrowed := true }
def OrderBackUptoSaid : Prop := orderBackUptoRow.holds Try.pinned (OpenSpec.upto orderBackSpec)

end Rows
end Go.Proofs.Ytblalmgahfbalaa
