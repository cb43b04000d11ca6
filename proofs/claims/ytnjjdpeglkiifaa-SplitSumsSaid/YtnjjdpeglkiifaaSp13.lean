/- Slices that are made. -/
import Derived.Test.YtnjjdpeglkiifaaSp12
namespace Go.Proofs.Ytnjjdpeglkiifaa.MX
open Go Go.Proofs
set_option linter.unusedSimpArgs false
set_option linter.unusedVariables false
theorem zeros_flat {α : Type} {enc : α → List Value} (z : List Value) (x : α) (hz : enc x = z) : ∀ n, zerosL z n = (List.replicate n x).flatMap enc
  | 0 => rfl
  | n + 1 => by rw [List.replicate_succ, List.flatMap_cons, hz, ← zeros_flat z x hz n]; rfl
theorem st_make {α : Type} {enc : α → List Value} {sz T bytes : Nat} {z : List Value} {h0 h : Heap} {l : List HP} {K : Value → Heap → Prop} {s : Tag h} {t : Tag K} {n : Nat} (x : α) (hsz : ∀ x, (enc x).length = sz) (hz : enc x = z) (S : St h0 h l) (hn : n < 9223372036854775808) (hb : n * bytes ≤ 281474976710656)
    (hk : ∀ v h', St h0 h' (ownA enc sz T v (List.replicate n x) :: l) → K v h') : mkT T bytes z (.int .i64 n) (.int .i64 n) h K s t := by
  refine ⟨⟨by omega, Int.le_refl _, by omega, by rw [← Int.natCast_mul]; exact Int.ofNat_le.2 hb⟩, ?_⟩
  rw [Int.toNat_natCast, zeros_flat z x hz]
  refine hk _ _ (S.ownNew ((Fr.refl _ _).push _) (.inr ⟨h.size, n, [], by rw [List.length_replicate], Nat.le_refl _, by rw [List.length_replicate]; exact Nat.le_refl _, hn, ?_, ?_⟩))
  · rw [List.append_nil]
    exact blk_push_new rfl
  · rw [List.append_nil, flat_length hsz, List.length_replicate]
end Go.Proofs.Ytnjjdpeglkiifaa.MX
