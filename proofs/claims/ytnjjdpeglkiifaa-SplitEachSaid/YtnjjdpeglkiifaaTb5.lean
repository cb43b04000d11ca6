/- The document's bytes of a table; the law TableWrites. -/
import Derived.Test.YtnjjdpeglkiifaaTb4
namespace Go.Proofs.Ytnjjdpeglkiifaa.MX
open Go Go.Proofs
set_option linter.unusedSimpArgs false
set_option linter.unusedVariables false

/-- A test behind which both ways go on alike: what follows is shown once. -/
theorem cond_join {P : Program} {b : Bool} {x y : MCode} {T : Env → Heap → Prop} {Q : MExit → Env → Heap → Prop} {ρ : Env} {h : Heap} {s : Tag (mwp P x (qseq T Q) ρ h)} {t : Tag (mwp P y (qseq T Q) ρ h)} (I : Env → Heap → Prop) (hT : ∀ ρ h, I ρ h → T ρ h)
    (hX : b = true → ∀ J : Env → Heap → Prop, (∀ ρ h, I ρ h → J ρ h) → mwp P x (qseq J Q) ρ h) (hY : b = false → ∀ J : Env → Heap → Prop, (∀ ρ h, I ρ h → J ρ h) → mwp P y (qseq J Q) ρ h) :
    condT (.bool b) (mwp P x (qseq T Q) ρ h) (mwp P y (qseq T Q) ρ h) s t := by
  cases b
  · simp only [condT, condW, Bool.false_eq_true, if_false]; exact hY rfl T hT
  · simp only [condT, condW, if_true]; exact hX rfl T hT

end Go.Proofs.Ytnjjdpeglkiifaa.MX
