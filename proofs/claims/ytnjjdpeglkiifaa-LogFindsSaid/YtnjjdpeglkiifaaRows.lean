/-
  No cell of these rows narrows 'for every input' (looked for: loops, veiled, ifaces, maps, wideKeys, modest, calm, conditions, laid).
  DERIVED. THE GIVEN ROWS OF THIS SEAT. 12 by the template 'for every input the law returns true; each argument reads behind the call as it read before'; 0 by the template 'total and deterministic' (their statements: YtnjjdpeglkiifaaTotals.lean).
  GIVEN WITH THE SEED: the statements are not yours to turn. If you find one false, say at which input.
  Laid BY PROGRAM, IN A SANDBOX (cutbox-rows.mjs): the forced cells as the released guide's own fill.sh prints them over the translation 551764e2d70146cd… (all of the seat's roots in one cut). By AI agents, Wed Nov 11 2026. No macro, syntax, notation, axiom, sorry.
-/
import Derived.Test.YtnjjdpeglkiifaaChecked
import GoSem.Claim
import GoSem.ClaimJoined
import GoSem.ClaimMapViews
import Derived.JoinedTies
import Derived.KernelRfl
namespace Go.Proofs.Ytnjjdpeglkiifaa
/- THE CELL 'sum', in the pinned program and in every row, IS THE sha256 OF THE DUMP (.gsa) THAT YtnjjdpeglkiifaaProg.lean LOADS. Nothing in Lean hashes anything: it is a label: what it is worth is what the hold of that sum in a sandbox is worth. -/
noncomputable def Try.pinned : Pinned := { name := "ytnjjdpeglkiifaa", sum := "551764e2d70146cd7c4dbfa84f084b124e9d663148096c00f21dd31369420f3e", checked := Try.checked }
namespace Rows
def none {H : Type} : Left H := { results := [], args := [] }

/-- 'recouplaw12.TimerOnce': WHATEVER THE INPUT: true; the input reads as it did. -/
def timerOnceSpec : ChangeSpec := { name := "timerOnce", fn := fun _ => fun
  | [d1, d2] => { results := [.lit (.bool true)], args := [d1, d2] }
  | _ => none }
def timerOnceRow : OpenClaim := { program := "ytnjjdpeglkiifaa", sum := "551764e2d70146cd7c4dbfa84f084b124e9d663148096c00f21dd31369420f3e", func := "recoup/recouplaw12.TimerOnce", spec := "timerOnce", inPlace := ["slices.overlaps[recoup/timer.Timer]"], unfollowed := true, recurses := true, apart := false }
def TimerOnceSaid : Prop := timerOnceRow.holds Try.pinned (OpenSpec.ofChange timerOnceSpec)

/-- ITS FALSE NEIGHBOUR: 'it returns false'. Refute it at one input. -/
def timerOnceWrong : ChangeSpec := { name := "timerOnce", fn := fun _ => fun
  | [d1, d2] => { results := [.lit (.bool false)], args := [d1, d2] }
  | _ => none }
def TimerOnceWrongFalsely : Prop := timerOnceRow.holds Try.pinned (OpenSpec.ofChange timerOnceWrong)

/-- 'recouplaw12.TimerPlays': WHATEVER THE INPUT: true; the input reads as it did. -/
def timerPlaysSpec : ChangeSpec := { name := "timerPlays", fn := fun _ => fun
  | [d] => { results := [.lit (.bool true)], args := [d] }
  | _ => none }
def timerPlaysRow : OpenClaim := { program := "ytnjjdpeglkiifaa", sum := "551764e2d70146cd7c4dbfa84f084b124e9d663148096c00f21dd31369420f3e", func := "recoup/recouplaw12.TimerPlays", spec := "timerPlays", inPlace := ["slices.overlaps[recoup/timer.Timer]"], unfollowed := true, recurses := true, apart := false }
def TimerPlaysSaid : Prop := timerPlaysRow.holds Try.pinned (OpenSpec.ofChange timerPlaysSpec)

/-- ITS FALSE NEIGHBOUR: 'it returns false'. Refute it at one input. -/
def timerPlaysWrong : ChangeSpec := { name := "timerPlays", fn := fun _ => fun
  | [d] => { results := [.lit (.bool false)], args := [d] }
  | _ => none }
def TimerPlaysWrongFalsely : Prop := timerPlaysRow.holds Try.pinned (OpenSpec.ofChange timerPlaysWrong)

/-- 'recouplaw12.TimerNil': WHATEVER THE INPUT: true; the input reads as it did. -/
def timerNilSpec : ChangeSpec := { name := "timerNil", fn := fun _ => fun
  | [d1, d2] => { results := [.lit (.bool true)], args := [d1, d2] }
  | _ => none }
def timerNilRow : OpenClaim := { program := "ytnjjdpeglkiifaa", sum := "551764e2d70146cd7c4dbfa84f084b124e9d663148096c00f21dd31369420f3e", func := "recoup/recouplaw12.TimerNil", spec := "timerNil", inPlace := ["slices.overlaps[recoup/timer.Timer]"], unfollowed := true, recurses := true, apart := false }
def TimerNilSaid : Prop := timerNilRow.holds Try.pinned (OpenSpec.ofChange timerNilSpec)

/-- ITS FALSE NEIGHBOUR: 'it returns false'. Refute it at one input. -/
def timerNilWrong : ChangeSpec := { name := "timerNil", fn := fun _ => fun
  | [d1, d2] => { results := [.lit (.bool false)], args := [d1, d2] }
  | _ => none }
def TimerNilWrongFalsely : Prop := timerNilRow.holds Try.pinned (OpenSpec.ofChange timerNilWrong)

/-- 'recouplaw12.TimerClones': WHATEVER THE INPUT: true; the input reads as it did. -/
def timerClonesSpec : ChangeSpec := { name := "timerClones", fn := fun _ => fun
  | [d1, d2] => { results := [.lit (.bool true)], args := [d1, d2] }
  | _ => none }
def timerClonesRow : OpenClaim := { program := "ytnjjdpeglkiifaa", sum := "551764e2d70146cd7c4dbfa84f084b124e9d663148096c00f21dd31369420f3e", func := "recoup/recouplaw12.TimerClones", spec := "timerClones", inPlace := ["slices.overlaps[recoup/timer.Timer]"], unfollowed := true, recurses := true, apart := false }
def TimerClonesSaid : Prop := timerClonesRow.holds Try.pinned (OpenSpec.ofChange timerClonesSpec)

/-- ITS FALSE NEIGHBOUR: 'it returns false'. Refute it at one input. -/
def timerClonesWrong : ChangeSpec := { name := "timerClones", fn := fun _ => fun
  | [d1, d2] => { results := [.lit (.bool false)], args := [d1, d2] }
  | _ => none }
def TimerClonesWrongFalsely : Prop := timerClonesRow.holds Try.pinned (OpenSpec.ofChange timerClonesWrong)

/-- 'recouplaw06.SplitShares': WHATEVER THE INPUT: true; the input reads as it did. -/
def splitSharesSpec : ChangeSpec := { name := "splitShares", fn := fun _ => fun
  | [d1, d2] => { results := [.lit (.bool true)], args := [d1, d2] }
  | _ => none }
def splitSharesRow : OpenClaim := { program := "ytnjjdpeglkiifaa", sum := "551764e2d70146cd7c4dbfa84f084b124e9d663148096c00f21dd31369420f3e", func := "recoup/recouplaw06.SplitShares", spec := "splitShares", unfollowed := true, recurses := true, named := ["math/bits.divideError", "math/bits.overflowError"], apart := false }
def SplitSharesSaid : Prop := splitSharesRow.holds Try.pinned (OpenSpec.ofChange splitSharesSpec)

/-- ITS FALSE NEIGHBOUR: 'it returns false'. Refute it at one input. -/
def splitSharesWrong : ChangeSpec := { name := "splitShares", fn := fun _ => fun
  | [d1, d2] => { results := [.lit (.bool false)], args := [d1, d2] }
  | _ => none }
def SplitSharesWrongFalsely : Prop := splitSharesRow.holds Try.pinned (OpenSpec.ofChange splitSharesWrong)

/-- 'recouplaw06.SplitSums': WHATEVER THE INPUT: true; the input reads as it did. -/
def splitSumsSpec : ChangeSpec := { name := "splitSums", fn := fun _ => fun
  | [d1, d2] => { results := [.lit (.bool true)], args := [d1, d2] }
  | _ => none }
def splitSumsRow : OpenClaim := { program := "ytnjjdpeglkiifaa", sum := "551764e2d70146cd7c4dbfa84f084b124e9d663148096c00f21dd31369420f3e", func := "recoup/recouplaw06.SplitSums", spec := "splitSums", unfollowed := true, recurses := true, named := ["math/bits.divideError", "math/bits.overflowError"], apart := false }
def SplitSumsSaid : Prop := splitSumsRow.holds Try.pinned (OpenSpec.ofChange splitSumsSpec)

/-- ITS FALSE NEIGHBOUR: 'it returns false'. Refute it at one input. -/
def splitSumsWrong : ChangeSpec := { name := "splitSums", fn := fun _ => fun
  | [d1, d2] => { results := [.lit (.bool false)], args := [d1, d2] }
  | _ => none }
def SplitSumsWrongFalsely : Prop := splitSumsRow.holds Try.pinned (OpenSpec.ofChange splitSumsWrong)

/-- 'recouplaw06.SplitEach': WHATEVER THE INPUT: true; the input reads as it did. -/
def splitEachSpec : ChangeSpec := { name := "splitEach", fn := fun _ => fun
  | [d1, d2] => { results := [.lit (.bool true)], args := [d1, d2] }
  | _ => none }
def splitEachRow : OpenClaim := { program := "ytnjjdpeglkiifaa", sum := "551764e2d70146cd7c4dbfa84f084b124e9d663148096c00f21dd31369420f3e", func := "recoup/recouplaw06.SplitEach", spec := "splitEach", unfollowed := true, recurses := true, named := ["math/bits.divideError", "math/bits.overflowError"], apart := false }
def SplitEachSaid : Prop := splitEachRow.holds Try.pinned (OpenSpec.ofChange splitEachSpec)

/-- ITS FALSE NEIGHBOUR: 'it returns false'. Refute it at one input. -/
def splitEachWrong : ChangeSpec := { name := "splitEach", fn := fun _ => fun
  | [d1, d2] => { results := [.lit (.bool false)], args := [d1, d2] }
  | _ => none }
def SplitEachWrongFalsely : Prop := splitEachRow.holds Try.pinned (OpenSpec.ofChange splitEachWrong)

/-- 'recouplaw06.SplitNoughts': WHATEVER THE INPUT: true; the input reads as it did. -/
def splitNoughtsSpec : ChangeSpec := { name := "splitNoughts", fn := fun _ => fun
  | [d1, d2] => { results := [.lit (.bool true)], args := [d1, d2] }
  | _ => none }
def splitNoughtsRow : OpenClaim := { program := "ytnjjdpeglkiifaa", sum := "551764e2d70146cd7c4dbfa84f084b124e9d663148096c00f21dd31369420f3e", func := "recoup/recouplaw06.SplitNoughts", spec := "splitNoughts", unfollowed := true, recurses := true, named := ["math/bits.divideError", "math/bits.overflowError"], apart := false }
def SplitNoughtsSaid : Prop := splitNoughtsRow.holds Try.pinned (OpenSpec.ofChange splitNoughtsSpec)

/-- ITS FALSE NEIGHBOUR: 'it returns false'. Refute it at one input. -/
def splitNoughtsWrong : ChangeSpec := { name := "splitNoughts", fn := fun _ => fun
  | [d1, d2] => { results := [.lit (.bool false)], args := [d1, d2] }
  | _ => none }
def SplitNoughtsWrongFalsely : Prop := splitNoughtsRow.holds Try.pinned (OpenSpec.ofChange splitNoughtsWrong)

/-- 'recouplaw04.LogFull': WHATEVER THE INPUT: true; the input reads as it did. -/
def logFullSpec : ChangeSpec := { name := "logFull", fn := fun _ => fun
  | [d1, d2, d3] => { results := [.lit (.bool true)], args := [d1, d2, d3] }
  | _ => none }
def logFullRow : OpenClaim := { program := "ytnjjdpeglkiifaa", sum := "551764e2d70146cd7c4dbfa84f084b124e9d663148096c00f21dd31369420f3e", func := "recoup/recouplaw04.LogFull", spec := "logFull", unfollowed := true, recurses := true, apart := false }
def LogFullSaid : Prop := logFullRow.holds Try.pinned (OpenSpec.ofChange logFullSpec)

/-- ITS FALSE NEIGHBOUR: 'it returns false'. Refute it at one input. -/
def logFullWrong : ChangeSpec := { name := "logFull", fn := fun _ => fun
  | [d1, d2, d3] => { results := [.lit (.bool false)], args := [d1, d2, d3] }
  | _ => none }
def LogFullWrongFalsely : Prop := logFullRow.holds Try.pinned (OpenSpec.ofChange logFullWrong)

/-- 'recouplaw04.LogTurns': WHATEVER THE INPUT: true; the input reads as it did. -/
def logTurnsSpec : ChangeSpec := { name := "logTurns", fn := fun _ => fun
  | [d1, d2] => { results := [.lit (.bool true)], args := [d1, d2] }
  | _ => none }
def logTurnsRow : OpenClaim := { program := "ytnjjdpeglkiifaa", sum := "551764e2d70146cd7c4dbfa84f084b124e9d663148096c00f21dd31369420f3e", func := "recoup/recouplaw04.LogTurns", spec := "logTurns", unfollowed := true, recurses := true, apart := false }
def LogTurnsSaid : Prop := logTurnsRow.holds Try.pinned (OpenSpec.ofChange logTurnsSpec)

/-- ITS FALSE NEIGHBOUR: 'it returns false'. Refute it at one input. -/
def logTurnsWrong : ChangeSpec := { name := "logTurns", fn := fun _ => fun
  | [d1, d2] => { results := [.lit (.bool false)], args := [d1, d2] }
  | _ => none }
def LogTurnsWrongFalsely : Prop := logTurnsRow.holds Try.pinned (OpenSpec.ofChange logTurnsWrong)

/-- 'recouplaw04.LogFinds': WHATEVER THE INPUT: true; the input reads as it did. -/
def logFindsSpec : ChangeSpec := { name := "logFinds", fn := fun _ => fun
  | [d1, d2, d3] => { results := [.lit (.bool true)], args := [d1, d2, d3] }
  | _ => none }
def logFindsRow : OpenClaim := { program := "ytnjjdpeglkiifaa", sum := "551764e2d70146cd7c4dbfa84f084b124e9d663148096c00f21dd31369420f3e", func := "recoup/recouplaw04.LogFinds", spec := "logFinds", unfollowed := true, recurses := true, apart := false }
def LogFindsSaid : Prop := logFindsRow.holds Try.pinned (OpenSpec.ofChange logFindsSpec)

/-- ITS FALSE NEIGHBOUR: 'it returns false'. Refute it at one input. -/
def logFindsWrong : ChangeSpec := { name := "logFinds", fn := fun _ => fun
  | [d1, d2, d3] => { results := [.lit (.bool false)], args := [d1, d2, d3] }
  | _ => none }
def LogFindsWrongFalsely : Prop := logFindsRow.holds Try.pinned (OpenSpec.ofChange logFindsWrong)

/-- 'recouplaw04.LogStays': WHATEVER THE INPUT: true; the input reads as it did. -/
def logStaysSpec : ChangeSpec := { name := "logStays", fn := fun _ => fun
  | [d1, d2, d3] => { results := [.lit (.bool true)], args := [d1, d2, d3] }
  | _ => none }
def logStaysRow : OpenClaim := { program := "ytnjjdpeglkiifaa", sum := "551764e2d70146cd7c4dbfa84f084b124e9d663148096c00f21dd31369420f3e", func := "recoup/recouplaw04.LogStays", spec := "logStays", unfollowed := true, recurses := true, apart := false }
def LogStaysSaid : Prop := logStaysRow.holds Try.pinned (OpenSpec.ofChange logStaysSpec)

/-- ITS FALSE NEIGHBOUR: 'it returns false'. Refute it at one input. -/
def logStaysWrong : ChangeSpec := { name := "logStays", fn := fun _ => fun
  | [d1, d2, d3] => { results := [.lit (.bool false)], args := [d1, d2, d3] }
  | _ => none }
def LogStaysWrongFalsely : Prop := logStaysRow.holds Try.pinned (OpenSpec.ofChange logStaysWrong)

/- THE SECOND FORM. 'bulk': how many values and letters a reading holds, each counted each time it is reached (what is shared counts as often as it is met; a slice's spare places count too). A statement '..UptoSaid' is the law's where the arguments, and the package variables that the reading takes, are together of bulk at most 1048576: NARROWER than '..Said'. Prove '..Said' where nothing that the law and all that it calls make is longer than what came in: it says more and counts as full. Else prove '..UptoSaid'. A law counts once. -/
mutual
def uptoBulk {H : Type} : DataW H → Nat
  | .lit (.string bytes) => bytes.length + 1
  | .lit _ => 1
  | .nil => 1
  | .ptr d => uptoBulk d + 1
  | .slice elems spare => uptoBulkAll elems + uptoBulkAll spare + 1
  | .agg parts => uptoBulkAll parts + 1
  | .iface _ d => uptoBulk d + 1
  | .map entries => uptoBulkEntries entries + 1
  | .held _ => 1
def uptoBulkAll {H : Type} : List (DataW H) → Nat
  | [] => 0
  | d :: r => uptoBulk d + uptoBulkAll r
def uptoBulkEntries {H : Type} : List (Lit × DataW H) → Nat
  | [] => 0
  | x :: r => uptoBulkEntry x + uptoBulkEntries r
def uptoBulkEntry {H : Type} : Lit × DataW H → Nat
  | (.string bytes, d) => bytes.length + uptoBulk d + 1
  | (_, d) => uptoBulk d + 1
 end
def uptoSmall : (H : Type) → List (DataW H) → Bool := fun _ ds => decide (uptoBulkAll ds ≤ 1048576)
def OpenSpec.upto (s : _root_.Go.ChangeSpec) : _root_.Go.OpenSpec := { _root_.Go.OpenSpec.ofChange s with cond := some uptoSmall }

/-- 'recouplaw12.TimerOnce', WHERE WHAT IT READS IS OF BULK AT MOST 1048576: true; the input reads as it did. -/
def timerOnceUptoRow : OpenClaim := { program := "ytnjjdpeglkiifaa", sum := "551764e2d70146cd7c4dbfa84f084b124e9d663148096c00f21dd31369420f3e", func := "recoup/recouplaw12.TimerOnce", spec := "timerOnce", inPlace := ["slices.overlaps[recoup/timer.Timer]"], unfollowed := true, recurses := true, apart := false, narrowed := true }
def TimerOnceUptoSaid : Prop := timerOnceUptoRow.holds Try.pinned (OpenSpec.upto timerOnceSpec)

/-- 'recouplaw12.TimerPlays', WHERE WHAT IT READS IS OF BULK AT MOST 1048576: true; the input reads as it did. -/
def timerPlaysUptoRow : OpenClaim := { program := "ytnjjdpeglkiifaa", sum := "551764e2d70146cd7c4dbfa84f084b124e9d663148096c00f21dd31369420f3e", func := "recoup/recouplaw12.TimerPlays", spec := "timerPlays", inPlace := ["slices.overlaps[recoup/timer.Timer]"], unfollowed := true, recurses := true, apart := false, narrowed := true }
def TimerPlaysUptoSaid : Prop := timerPlaysUptoRow.holds Try.pinned (OpenSpec.upto timerPlaysSpec)

/-- 'recouplaw12.TimerNil', WHERE WHAT IT READS IS OF BULK AT MOST 1048576: true; the input reads as it did. -/
def timerNilUptoRow : OpenClaim := { program := "ytnjjdpeglkiifaa", sum := "551764e2d70146cd7c4dbfa84f084b124e9d663148096c00f21dd31369420f3e", func := "recoup/recouplaw12.TimerNil", spec := "timerNil", inPlace := ["slices.overlaps[recoup/timer.Timer]"], unfollowed := true, recurses := true, apart := false, narrowed := true }
def TimerNilUptoSaid : Prop := timerNilUptoRow.holds Try.pinned (OpenSpec.upto timerNilSpec)

/-- 'recouplaw12.TimerClones', WHERE WHAT IT READS IS OF BULK AT MOST 1048576: true; the input reads as it did. -/
def timerClonesUptoRow : OpenClaim := { program := "ytnjjdpeglkiifaa", sum := "551764e2d70146cd7c4dbfa84f084b124e9d663148096c00f21dd31369420f3e", func := "recoup/recouplaw12.TimerClones", spec := "timerClones", inPlace := ["slices.overlaps[recoup/timer.Timer]"], unfollowed := true, recurses := true, apart := false, narrowed := true }
def TimerClonesUptoSaid : Prop := timerClonesUptoRow.holds Try.pinned (OpenSpec.upto timerClonesSpec)

/-- 'recouplaw06.SplitShares', WHERE WHAT IT READS IS OF BULK AT MOST 1048576: true; the input reads as it did. -/
def splitSharesUptoRow : OpenClaim := { program := "ytnjjdpeglkiifaa", sum := "551764e2d70146cd7c4dbfa84f084b124e9d663148096c00f21dd31369420f3e", func := "recoup/recouplaw06.SplitShares", spec := "splitShares", unfollowed := true, recurses := true, named := ["math/bits.divideError", "math/bits.overflowError"], apart := false, narrowed := true }
def SplitSharesUptoSaid : Prop := splitSharesUptoRow.holds Try.pinned (OpenSpec.upto splitSharesSpec)

/-- 'recouplaw06.SplitSums', WHERE WHAT IT READS IS OF BULK AT MOST 1048576: true; the input reads as it did. -/
def splitSumsUptoRow : OpenClaim := { program := "ytnjjdpeglkiifaa", sum := "551764e2d70146cd7c4dbfa84f084b124e9d663148096c00f21dd31369420f3e", func := "recoup/recouplaw06.SplitSums", spec := "splitSums", unfollowed := true, recurses := true, named := ["math/bits.divideError", "math/bits.overflowError"], apart := false, narrowed := true }
def SplitSumsUptoSaid : Prop := splitSumsUptoRow.holds Try.pinned (OpenSpec.upto splitSumsSpec)

/-- 'recouplaw06.SplitEach', WHERE WHAT IT READS IS OF BULK AT MOST 1048576: true; the input reads as it did. -/
def splitEachUptoRow : OpenClaim := { program := "ytnjjdpeglkiifaa", sum := "551764e2d70146cd7c4dbfa84f084b124e9d663148096c00f21dd31369420f3e", func := "recoup/recouplaw06.SplitEach", spec := "splitEach", unfollowed := true, recurses := true, named := ["math/bits.divideError", "math/bits.overflowError"], apart := false, narrowed := true }
def SplitEachUptoSaid : Prop := splitEachUptoRow.holds Try.pinned (OpenSpec.upto splitEachSpec)

/-- 'recouplaw06.SplitNoughts', WHERE WHAT IT READS IS OF BULK AT MOST 1048576: true; the input reads as it did. -/
def splitNoughtsUptoRow : OpenClaim := { program := "ytnjjdpeglkiifaa", sum := "551764e2d70146cd7c4dbfa84f084b124e9d663148096c00f21dd31369420f3e", func := "recoup/recouplaw06.SplitNoughts", spec := "splitNoughts", unfollowed := true, recurses := true, named := ["math/bits.divideError", "math/bits.overflowError"], apart := false, narrowed := true }
def SplitNoughtsUptoSaid : Prop := splitNoughtsUptoRow.holds Try.pinned (OpenSpec.upto splitNoughtsSpec)

/-- 'recouplaw04.LogFull', WHERE WHAT IT READS IS OF BULK AT MOST 1048576: true; the input reads as it did. -/
def logFullUptoRow : OpenClaim := { program := "ytnjjdpeglkiifaa", sum := "551764e2d70146cd7c4dbfa84f084b124e9d663148096c00f21dd31369420f3e", func := "recoup/recouplaw04.LogFull", spec := "logFull", unfollowed := true, recurses := true, apart := false, narrowed := true }
def LogFullUptoSaid : Prop := logFullUptoRow.holds Try.pinned (OpenSpec.upto logFullSpec)

/-- 'recouplaw04.LogTurns', WHERE WHAT IT READS IS OF BULK AT MOST 1048576: true; the input reads as it did. -/
def logTurnsUptoRow : OpenClaim := { program := "ytnjjdpeglkiifaa", sum := "551764e2d70146cd7c4dbfa84f084b124e9d663148096c00f21dd31369420f3e", func := "recoup/recouplaw04.LogTurns", spec := "logTurns", unfollowed := true, recurses := true, apart := false, narrowed := true }
def LogTurnsUptoSaid : Prop := logTurnsUptoRow.holds Try.pinned (OpenSpec.upto logTurnsSpec)

/-- 'recouplaw04.LogFinds', WHERE WHAT IT READS IS OF BULK AT MOST 1048576: true; the input reads as it did. -/
def logFindsUptoRow : OpenClaim := { program := "ytnjjdpeglkiifaa", sum := "551764e2d70146cd7c4dbfa84f084b124e9d663148096c00f21dd31369420f3e", func := "recoup/recouplaw04.LogFinds", spec := "logFinds", unfollowed := true, recurses := true, apart := false, narrowed := true }
def LogFindsUptoSaid : Prop := logFindsUptoRow.holds Try.pinned (OpenSpec.upto logFindsSpec)

/-- 'recouplaw04.LogStays', WHERE WHAT IT READS IS OF BULK AT MOST 1048576: true; the input reads as it did. -/
def logStaysUptoRow : OpenClaim := { program := "ytnjjdpeglkiifaa", sum := "551764e2d70146cd7c4dbfa84f084b124e9d663148096c00f21dd31369420f3e", func := "recoup/recouplaw04.LogStays", spec := "logStays", unfollowed := true, recurses := true, apart := false, narrowed := true }
def LogStaysUptoSaid : Prop := logStaysUptoRow.holds Try.pinned (OpenSpec.upto logStaysSpec)

end Rows
end Go.Proofs.Ytnjjdpeglkiifaa
