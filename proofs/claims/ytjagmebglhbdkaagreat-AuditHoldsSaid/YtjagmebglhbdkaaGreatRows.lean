/-
  No cell of these rows narrows 'for every input' (looked for: loops, veiled, ifaces, maps, wideKeys, modest, calm, conditions, laid).
  DERIVED. THE GIVEN ROWS OF THIS SEAT. 6 by the template 'for every input the law returns true; each argument reads behind the call as it read before'; 0 by the template 'total and deterministic' (their statements: YtjagmebglhbdkaaGreatTotals.lean).
  GIVEN WITH THE SEED: the statements are not yours to turn. If you find one false, say at which input.
  Laid BY PROGRAM, IN A SANDBOX (cutbox-rows.mjs): the forced cells as the released guide's own fill.sh prints them over the translation 37b41256833c26ad… (all of the seat's roots in one cut). By AI agents, Wed Nov 11 2026. No macro, syntax, notation, axiom, sorry.
-/
import Derived.Test.YtjagmebglhbdkaaGreatChecked
import GoSem.Claim
import GoSem.ClaimJoined
import GoSem.ClaimMapViews
import Derived.JoinedTies
import Derived.KernelRfl
namespace Go.Proofs.YtjagmebglhbdkaaGreat
/- THE CELL 'sum', in the pinned program and in every row, IS THE sha256 OF THE DUMP (.gsa) THAT YtjagmebglhbdkaaGreatProg.lean LOADS. Nothing in Lean hashes anything: it is a label: what it is worth is what the hold of that sum in a sandbox is worth. -/
noncomputable def Tryz.pinned : Pinned := { name := "ytjagmebglhbdkaagreat", sum := "37b41256833c26ad093503908f3e6ffac7113ba832d75664b62db6583b87d9ff", checked := Tryz.checked }
namespace Rows
def none {H : Type} : Left H := { results := [], args := [] }

/-- 'recouplaw16.SagaPlays': WHATEVER THE INPUT: true; the input reads as it did. -/
def sagaPlaysSpec : ChangeSpec := { name := "sagaPlays", fn := fun _ => fun
  | [d1, d2] => { results := [.lit (.bool true)], args := [d1, d2] }
  | _ => none }
def sagaPlaysRow : OpenClaim := { program := "ytjagmebglhbdkaagreat", sum := "37b41256833c26ad093503908f3e6ffac7113ba832d75664b62db6583b87d9ff", func := "recoup/recouplaw16.SagaPlays", spec := "sagaPlays", inPlace := ["slices.overlaps[recoup/timer.Timer]"], unfollowed := true, recurses := true, named := ["math/bits.divideError", "math/bits.overflowError"], apart := false }
def SagaPlaysSaid : Prop := sagaPlaysRow.holds Tryz.pinned (OpenSpec.ofChange sagaPlaysSpec)

/-- ITS FALSE NEIGHBOUR: 'it returns false'. Refute it at one input. -/
def sagaPlaysWrong : ChangeSpec := { name := "sagaPlays", fn := fun _ => fun
  | [d1, d2] => { results := [.lit (.bool false)], args := [d1, d2] }
  | _ => none }
def SagaPlaysWrongFalsely : Prop := sagaPlaysRow.holds Tryz.pinned (OpenSpec.ofChange sagaPlaysWrong)

/-- 'recouplaw16.SagaClones': WHATEVER THE INPUT: true; the input reads as it did. -/
def sagaClonesSpec : ChangeSpec := { name := "sagaClones", fn := fun _ => fun
  | [d1, d2, d3] => { results := [.lit (.bool true)], args := [d1, d2, d3] }
  | _ => none }
def sagaClonesRow : OpenClaim := { program := "ytjagmebglhbdkaagreat", sum := "37b41256833c26ad093503908f3e6ffac7113ba832d75664b62db6583b87d9ff", func := "recoup/recouplaw16.SagaClones", spec := "sagaClones", inPlace := ["slices.overlaps[recoup/timer.Timer]"], unfollowed := true, recurses := true, named := ["math/bits.divideError", "math/bits.overflowError"], apart := false }
def SagaClonesSaid : Prop := sagaClonesRow.holds Tryz.pinned (OpenSpec.ofChange sagaClonesSpec)

/-- ITS FALSE NEIGHBOUR: 'it returns false'. Refute it at one input. -/
def sagaClonesWrong : ChangeSpec := { name := "sagaClones", fn := fun _ => fun
  | [d1, d2, d3] => { results := [.lit (.bool false)], args := [d1, d2, d3] }
  | _ => none }
def SagaClonesWrongFalsely : Prop := sagaClonesRow.holds Tryz.pinned (OpenSpec.ofChange sagaClonesWrong)

/-- 'recouplaw18.QueryOf': WHATEVER THE INPUT: true; the input reads as it did. -/
def queryOfSpec : ChangeSpec := { name := "queryOf", fn := fun _ => fun
  | [d1, d2, d3] => { results := [.lit (.bool true)], args := [d1, d2, d3] }
  | _ => none }
def queryOfRow : OpenClaim := { program := "ytjagmebglhbdkaagreat", sum := "37b41256833c26ad093503908f3e6ffac7113ba832d75664b62db6583b87d9ff", func := "recoup/recouplaw18.QueryOf", spec := "queryOf", inPlace := ["slices.overlaps[recoup/timer.Timer]"], unfollowed := true, recurses := true, named := ["math/bits.divideError", "math/bits.overflowError"], apart := false }
def QueryOfSaid : Prop := queryOfRow.holds Tryz.pinned (OpenSpec.ofChange queryOfSpec)

/-- ITS FALSE NEIGHBOUR: 'it returns false'. Refute it at one input. -/
def queryOfWrong : ChangeSpec := { name := "queryOf", fn := fun _ => fun
  | [d1, d2, d3] => { results := [.lit (.bool false)], args := [d1, d2, d3] }
  | _ => none }
def QueryOfWrongFalsely : Prop := queryOfRow.holds Tryz.pinned (OpenSpec.ofChange queryOfWrong)

/-- 'recouplaw18.QueryMay': WHATEVER THE INPUT: true; the input reads as it did. -/
def queryMaySpec : ChangeSpec := { name := "queryMay", fn := fun _ => fun
  | [d1, d2, d3, d4] => { results := [.lit (.bool true)], args := [d1, d2, d3, d4] }
  | _ => none }
def queryMayRow : OpenClaim := { program := "ytjagmebglhbdkaagreat", sum := "37b41256833c26ad093503908f3e6ffac7113ba832d75664b62db6583b87d9ff", func := "recoup/recouplaw18.QueryMay", spec := "queryMay", inPlace := ["slices.overlaps[recoup/timer.Timer]"], unfollowed := true, recurses := true, named := ["math/bits.divideError", "math/bits.overflowError"], apart := false }
def QueryMaySaid : Prop := queryMayRow.holds Tryz.pinned (OpenSpec.ofChange queryMaySpec)

/-- ITS FALSE NEIGHBOUR: 'it returns false'. Refute it at one input. -/
def queryMayWrong : ChangeSpec := { name := "queryMay", fn := fun _ => fun
  | [d1, d2, d3, d4] => { results := [.lit (.bool false)], args := [d1, d2, d3, d4] }
  | _ => none }
def QueryMayWrongFalsely : Prop := queryMayRow.holds Tryz.pinned (OpenSpec.ofChange queryMayWrong)

/-- 'recouplaw18.QueryUnits': WHATEVER THE INPUT: true; the input reads as it did. -/
def queryUnitsSpec : ChangeSpec := { name := "queryUnits", fn := fun _ => fun
  | [d1, d2, d3] => { results := [.lit (.bool true)], args := [d1, d2, d3] }
  | _ => none }
def queryUnitsRow : OpenClaim := { program := "ytjagmebglhbdkaagreat", sum := "37b41256833c26ad093503908f3e6ffac7113ba832d75664b62db6583b87d9ff", func := "recoup/recouplaw18.QueryUnits", spec := "queryUnits", inPlace := ["slices.overlaps[recoup/timer.Timer]"], unfollowed := true, recurses := true, named := ["math/bits.divideError", "math/bits.overflowError"], apart := false }
def QueryUnitsSaid : Prop := queryUnitsRow.holds Tryz.pinned (OpenSpec.ofChange queryUnitsSpec)

/-- ITS FALSE NEIGHBOUR: 'it returns false'. Refute it at one input. -/
def queryUnitsWrong : ChangeSpec := { name := "queryUnits", fn := fun _ => fun
  | [d1, d2, d3] => { results := [.lit (.bool false)], args := [d1, d2, d3] }
  | _ => none }
def QueryUnitsWrongFalsely : Prop := queryUnitsRow.holds Tryz.pinned (OpenSpec.ofChange queryUnitsWrong)

/-- 'recouplaw24.AuditHolds': WHATEVER THE INPUT: true; the input reads as it did. -/
def auditHoldsSpec : ChangeSpec := { name := "auditHolds", fn := fun _ => fun
  | [d1, d2] => { results := [.lit (.bool true)], args := [d1, d2] }
  | _ => none }
def auditHoldsRow : OpenClaim := { program := "ytjagmebglhbdkaagreat", sum := "37b41256833c26ad093503908f3e6ffac7113ba832d75664b62db6583b87d9ff", func := "recoup/recouplaw24.AuditHolds", spec := "auditHolds", inPlace := ["slices.overlaps[recoup/timer.Timer]"], unfollowed := true, recurses := true, named := ["math/bits.divideError", "math/bits.overflowError"], apart := false }
def AuditHoldsSaid : Prop := auditHoldsRow.holds Tryz.pinned (OpenSpec.ofChange auditHoldsSpec)

/-- ITS FALSE NEIGHBOUR: 'it returns false'. Refute it at one input. -/
def auditHoldsWrong : ChangeSpec := { name := "auditHolds", fn := fun _ => fun
  | [d1, d2] => { results := [.lit (.bool false)], args := [d1, d2] }
  | _ => none }
def AuditHoldsWrongFalsely : Prop := auditHoldsRow.holds Tryz.pinned (OpenSpec.ofChange auditHoldsWrong)

/- THE SECOND FORM. 'bulk': how many values and letters a reading holds, each counted each time it is reached (what is shared counts as often as it is met; a slice's spare places count too). A statement '..UptoSaid' is the law's where the arguments, and the package variables that the reading takes, are together of bulk at most 1048576: NARROWER than '..Said'. Prove '..Said' where nothing that the law and all that it calls make is longer than what came in: it says more and counts as full. Else prove '..UptoSaid'. A law counts once. -/
mutual
def uptoBulk {H : Type} : DataW H → Nat
  | .lit (.string bytes) => bytes.length + 1
  | .lit _ => 1
  | .nil => 1
  | .ptr d => uptoBulk d + 1
  | .slice elems spare => uptoBulkAll elems + uptoBulkAll spare + 1
  | .agg parts => uptoBulkAll parts + 1
  | .iface _ d => uptoBulk d + 1
  | .map entries => uptoBulkEntries entries + 1
  | .held _ => 1
def uptoBulkAll {H : Type} : List (DataW H) → Nat
  | [] => 0
  | d :: r => uptoBulk d + uptoBulkAll r
def uptoBulkEntries {H : Type} : List (Lit × DataW H) → Nat
  | [] => 0
  | x :: r => uptoBulkEntry x + uptoBulkEntries r
def uptoBulkEntry {H : Type} : Lit × DataW H → Nat
  | (.string bytes, d) => bytes.length + uptoBulk d + 1
  | (_, d) => uptoBulk d + 1
 end
def uptoSmall : (H : Type) → List (DataW H) → Bool := fun _ ds => decide (uptoBulkAll ds ≤ 1048576)
def OpenSpec.upto (s : _root_.Go.ChangeSpec) : _root_.Go.OpenSpec := { _root_.Go.OpenSpec.ofChange s with cond := some uptoSmall }

/-- 'recouplaw16.SagaPlays', WHERE WHAT IT READS IS OF BULK AT MOST 1048576: true; the input reads as it did. -/
def sagaPlaysUptoRow : OpenClaim := { program := "ytjagmebglhbdkaagreat", sum := "37b41256833c26ad093503908f3e6ffac7113ba832d75664b62db6583b87d9ff", func := "recoup/recouplaw16.SagaPlays", spec := "sagaPlays", inPlace := ["slices.overlaps[recoup/timer.Timer]"], unfollowed := true, recurses := true, named := ["math/bits.divideError", "math/bits.overflowError"], apart := false, narrowed := true }
def SagaPlaysUptoSaid : Prop := sagaPlaysUptoRow.holds Tryz.pinned (OpenSpec.upto sagaPlaysSpec)

/-- 'recouplaw16.SagaClones', WHERE WHAT IT READS IS OF BULK AT MOST 1048576: true; the input reads as it did. -/
def sagaClonesUptoRow : OpenClaim := { program := "ytjagmebglhbdkaagreat", sum := "37b41256833c26ad093503908f3e6ffac7113ba832d75664b62db6583b87d9ff", func := "recoup/recouplaw16.SagaClones", spec := "sagaClones", inPlace := ["slices.overlaps[recoup/timer.Timer]"], unfollowed := true, recurses := true, named := ["math/bits.divideError", "math/bits.overflowError"], apart := false, narrowed := true }
def SagaClonesUptoSaid : Prop := sagaClonesUptoRow.holds Tryz.pinned (OpenSpec.upto sagaClonesSpec)

/-- 'recouplaw18.QueryOf', WHERE WHAT IT READS IS OF BULK AT MOST 1048576: true; the input reads as it did. -/
def queryOfUptoRow : OpenClaim := { program := "ytjagmebglhbdkaagreat", sum := "37b41256833c26ad093503908f3e6ffac7113ba832d75664b62db6583b87d9ff", func := "recoup/recouplaw18.QueryOf", spec := "queryOf", inPlace := ["slices.overlaps[recoup/timer.Timer]"], unfollowed := true, recurses := true, named := ["math/bits.divideError", "math/bits.overflowError"], apart := false, narrowed := true }
def QueryOfUptoSaid : Prop := queryOfUptoRow.holds Tryz.pinned (OpenSpec.upto queryOfSpec)

/-- 'recouplaw18.QueryMay', WHERE WHAT IT READS IS OF BULK AT MOST 1048576: true; the input reads as it did. -/
def queryMayUptoRow : OpenClaim := { program := "ytjagmebglhbdkaagreat", sum := "37b41256833c26ad093503908f3e6ffac7113ba832d75664b62db6583b87d9ff", func := "recoup/recouplaw18.QueryMay", spec := "queryMay", inPlace := ["slices.overlaps[recoup/timer.Timer]"], unfollowed := true, recurses := true, named := ["math/bits.divideError", "math/bits.overflowError"], apart := false, narrowed := true }
def QueryMayUptoSaid : Prop := queryMayUptoRow.holds Tryz.pinned (OpenSpec.upto queryMaySpec)

/-- 'recouplaw18.QueryUnits', WHERE WHAT IT READS IS OF BULK AT MOST 1048576: true; the input reads as it did. -/
def queryUnitsUptoRow : OpenClaim := { program := "ytjagmebglhbdkaagreat", sum := "37b41256833c26ad093503908f3e6ffac7113ba832d75664b62db6583b87d9ff", func := "recoup/recouplaw18.QueryUnits", spec := "queryUnits", inPlace := ["slices.overlaps[recoup/timer.Timer]"], unfollowed := true, recurses := true, named := ["math/bits.divideError", "math/bits.overflowError"], apart := false, narrowed := true }
def QueryUnitsUptoSaid : Prop := queryUnitsUptoRow.holds Tryz.pinned (OpenSpec.upto queryUnitsSpec)

/-- 'recouplaw24.AuditHolds', WHERE WHAT IT READS IS OF BULK AT MOST 1048576: true; the input reads as it did. -/
def auditHoldsUptoRow : OpenClaim := { program := "ytjagmebglhbdkaagreat", sum := "37b41256833c26ad093503908f3e6ffac7113ba832d75664b62db6583b87d9ff", func := "recoup/recouplaw24.AuditHolds", spec := "auditHolds", inPlace := ["slices.overlaps[recoup/timer.Timer]"], unfollowed := true, recurses := true, named := ["math/bits.divideError", "math/bits.overflowError"], apart := false, narrowed := true }
def AuditHoldsUptoSaid : Prop := auditHoldsUptoRow.holds Tryz.pinned (OpenSpec.upto auditHoldsSpec)

end Rows
end Go.Proofs.YtjagmebglhbdkaaGreat
