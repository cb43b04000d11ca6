/- The engine, part I: regions: in the text's order, and in whatever order. -/
import Derived.Test.YtnjjdpeglkiifaaMXH
namespace Go.Proofs.Ytnjjdpeglkiifaa.MX
open Go
set_option linter.unusedSimpArgs false
set_option linter.unusedVariables false
variable {P : Program} {N : Nat}

theorem wanted_guard {a : Act} {ρ : Env} (hrel : Rel N a ρ) {ops : Array Oper} {o : Oper} {g : Option (Nat × Bool)} (hg : guardC N ops.toList o.guard = some g) :
    Region.wanted o (yielded ops a.tmps) = wantB ρ g := by
  unfold guardC at hg
  unfold Region.wanted
  split at hg
  · rename_i h; cases hg; simp [h, wantB]
  · rename_i j want h
    split at hg
    · rename_i o' ho'
      split at hg
      · rename_i d hd
        split at hg
        · rename_i hlt
          cases hg
          have h1 : ops[j]? = some o' := by rw [← Array.getElem?_toList]; exact ho'
          have h2 : a.tmps[d]? = some (ρ d) := by
            have := hrel.get d
            rw [Array.getD_eq_getD_getElem?] at this
            have hs : d < a.tmps.size := by rw [hrel.size]; exact hlt
            rw [Array.getElem?_eq_getElem hs] at this ⊢
            exact congrArg some this
          simp only [h, yielded, h1, Option.bind_some, hd, h2, wantB]
          cases ρ d <;> simp
        · cases hg
      · cases hg
    · cases hg

/-- What stands behind a piece of code, in the engine's words. -/
def lift (N : Nat) (ds : List Deferred) (w0 : World) (Q : MExit → Env → Heap → Prop) : Exit → Act → World → Prop
  | .normal, a, w => a.defers = ds ∧ Alike w0 w ∧ ∃ ρ, Rel N a ρ ∧ Q .normal ρ w.heap
  | .exit id, a, w => a.defers = ds ∧ Alike w0 w ∧ ∃ ρ, Rel N a ρ ∧ Q (.exit id) ρ w.heap
  | .ret, a, w => a.defers = ds ∧ Alike w0 w ∧ ∃ ρ, Rel N a ρ ∧ Q .ret ρ w.heap
  | _, _, _ => False

theorem put_defers (a : Act) (d : Option Nat) (v : Value) : (a.put d v).defers = a.defers := by cases d <;> rfl

theorem ops_sound {ds : List Deferred} {w0 : World} {Q : MExit → Env → Heap → Prop} {ops : Array Oper} : ∀ (l : List Oper) (ms : List MOper) (a : Act) (ρ : Env) (w : World),
    Rel N a ρ → a.defers = ds → Alike w0 w → compOps P N ops.toList l = some ms → opsWp P ms (fun ρ h => Q .normal ρ h) ρ w.heap → wpList P ops (lift N ds w0 Q) l a w
  | [], ms, a, ρ, w, hrel, hd, ha, hc, h => by
    cases hc
    exact ⟨hd, ha, ρ, hrel, h⟩
  | o :: os, ms, a, ρ, w, hrel, hd, ha, hc, h => by
    simp only [compOps] at hc
    split at hc
    case isFalse => cases hc
    rename_i hdst
    obtain ⟨m, hm, hc⟩ := bindV_eq hc
    obtain ⟨g, hg, hc⟩ := bindV_eq hc
    obtain ⟨mr, hr, hc⟩ := bindV_eq hc
    cases hc
    simp only [opsWp, gateW] at h
    refine wpList_step fun K hK => ?_
    rw [wanted_guard hrel hg]
    split
    · rename_i hw
      rw [if_pos hw] at h
      refine OpOut.wp (compOp_sound hrel hm h) fun v w' ha' hk => hK _ _ ?_
      exact ops_sound os mr _ _ w' (hrel.put _ hdst _) (by rw [put_defers]; exact hd) (ha.trans ha') hr hk
    · rename_i hw
      rw [if_neg hw] at h
      refine hK _ _ ?_
      exact ops_sound os mr _ _ w (hrel.put _ hdst _) (by rw [put_defers]; exact hd) ha hr h

end Go.Proofs.Ytnjjdpeglkiifaa.MX
