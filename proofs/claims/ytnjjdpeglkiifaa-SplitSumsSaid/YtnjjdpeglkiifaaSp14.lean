/- Split: the plain law of quotients and rests. -/
import Derived.Test.YtnjjdpeglkiifaaSp13
namespace Go.Proofs.Ytnjjdpeglkiifaa.MX
open Go Go.Proofs
set_option linter.unusedSimpArgs false
set_option linter.unusedVariables false
def quoW (sum all : Nat) (ws : List Nat) : List Nat := ws.map fun w => sum * w / all
def restW (sum all : Nat) (ws : List Nat) : List Nat := ws.map fun w => sum * w % all
theorem quo_rest (sum all : Nat) (ws : List Nat) : sum * ws.sum = (quoW sum all ws).sum * all + (restW sum all ws).sum := by
  induction ws with
  | nil => simp [quoW, restW]
  | cons w ws ih =>
    simp only [quoW, restW, List.map_cons, List.sum_cons] at ih ⊢
    have h := Nat.div_add_mod (sum * w) all
    rw [Nat.mul_comm all] at h
    rw [Nat.mul_add, ih, Nat.add_mul]
    omega
theorem rest_lt (sum : Nat) {all : Nat} (h : 0 < all) (ws : List Nat) : (restW sum all ws).sum + ws.length ≤ ws.length * all := by
  induction ws with
  | nil => simp [restW]
  | cons w ws ih =>
    simp only [restW, List.map_cons, List.sum_cons, List.length_cons] at ih ⊢
    have h1 := Nat.mod_lt (sum * w) h
    rw [Nat.succ_mul]
    omega
/-- What is left over is no more than there are. -/
theorem left_law {sum all : Nat} {ws : List Nat} (h : 0 < all) (he : ws.sum = all) : (quoW sum all ws).sum ≤ sum ∧ sum - (quoW sum all ws).sum ≤ ws.length := by
  have h1 := quo_rest sum all ws
  have h2 := rest_lt sum h ws
  rw [he] at h1
  have h3 : (quoW sum all ws).sum * all ≤ sum * all := by omega
  have h4 := Nat.le_of_mul_le_mul_right h3 h
  refine ⟨h4, ?_⟩
  obtain ⟨d, hd⟩ : ∃ d, sum = (quoW sum all ws).sum + d := ⟨sum - (quoW sum all ws).sum, by omega⟩
  have h5 : d * all ≤ ws.length * all := by
    rw [hd, Nat.add_mul] at h1
    rw [← hd] at h1
    omega
  have h6 := Nat.le_of_mul_le_mul_right h5 h
  omega
end Go.Proofs.Ytnjjdpeglkiifaa.MX
