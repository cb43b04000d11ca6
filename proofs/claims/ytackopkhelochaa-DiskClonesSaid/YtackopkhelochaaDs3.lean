/- A disk stays well-formed: rename, any act. -/
import Derived.Test.YtackopkhelochaaDs2
namespace Go.Proofs.Ytackopkhelochaa.MX
open Go Go.Proofs
set_option linter.unusedSimpArgs false
set_option linter.unusedVariables false

theorem rename_okn {D : Dk} (ok : D.ok) (a b : Int) : (renameD D a b).1.ok := by
  have h8 := ok.len
  have hr := ok.room
  unfold renameD
  split
  · exact ok
  rename_i h1
  have ha := (ask_in (Classical.not_not.1 h1)).2
  split
  · exact ok
  rename_i h2
  have hb := (ask_in (Classical.not_not.1 h2)).2
  split
  · exact ok
  split
  · exact ok
  rename_i h3
  split
  · exact ok_lost ok
  have hab : b.toNat ≠ a.toNat := by omega
  have hfa := fileOf_n h8 ha
  have u1 := used_setO (fs := D.fs) (k := b.toNat) (by omega) (fileOf D a)
  have u2 := used_setO (fs := D.fs.set b.toNat (fileOf D a)) (k := a.toNat) (by simp; omega) none
  rw [List.getElem_set_ne hab, ← hfa, szN] at u2
  refine ⟨by simpa using h8, ok.cap, ?_, burnF_in ok.fuse, fun g hg => ?_⟩
  · show (used ((D.fs.set b.toNat (fileOf D a)).set a.toNat none) : Int) ≤ D.cap
    omega
  · rcases List.mem_or_eq_of_mem_set hg with h | h
    · rcases List.mem_or_eq_of_mem_set h with h | h
      · exact ok.safe g h
      · exact ok.safe g (by rw [h, hfa]; exact List.getElem_mem _)
    · cases h
theorem act_okn {D : Dk} (ok : D.ok) (x : DAct) (hx : I64 x.b) (bs : List UInt8) : (actD D x bs).1.ok := by
  unfold actD
  split
  · exact append_okn ok _ _
  split
  · exact sync_okn ok _
  split
  · exact cut_okn ok _ _
  split
  · exact rename_okn ok _ _
  split
  · exact remove_okn ok _
  split
  · exact fuse_okn ok hx
  · exact rest_ok ok rfl
end Go.Proofs.Ytackopkhelochaa.MX
