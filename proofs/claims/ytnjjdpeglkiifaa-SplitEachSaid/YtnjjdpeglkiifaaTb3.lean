/- The table's laws: awake, TableOf. -/
import Derived.Test.YtnjjdpeglkiifaaTb2
import Derived.Test.YtnjjdpeglkiifaaMXP
namespace Go.Proofs.Ytnjjdpeglkiifaa.MX
open Go Go.Proofs
set_option linter.unusedSimpArgs false
set_option linter.unusedVariables false

def Pol.ok (p : Pol) : Prop := I64 p.w ∧ I64 p.f0 ∧ I64 p.f1 ∧ I64 p.f2 ∧ I64 p.f3 ∧ I64 p.s0 ∧ I64 p.t0 ∧ I64 p.s1 ∧ I64 p.t1 ∧ I64 p.s2 ∧ I64 p.t2 ∧ I64 p.s3 ∧ I64 p.t3
end Go.Proofs.Ytnjjdpeglkiifaa.MX
