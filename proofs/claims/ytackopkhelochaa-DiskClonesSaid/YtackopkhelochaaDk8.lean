/- What is safe stays: plain facts; and the walk of DiskSafe. -/
import Derived.Test.YtackopkhelochaaDk7
import Derived.Test.YtackopkhelochaaDk4
import Derived.Test.YtackopkhelochaaBy2
namespace Go.Proofs.Ytackopkhelochaa.MX
open Go Go.Proofs
set_option linter.unusedSimpArgs false
set_option linter.unusedVariables false

theorem used_set {fs : List (Option DF)} {k : Nat} (hk : k < fs.length) (f : DF) : used (fs.set k (some f)) + szF fs[k] = used fs + f.bs.length := by
  have e : fs = fs.take k ++ fs[k] :: fs.drop (k + 1) := by rw [← List.drop_eq_getElem_cons hk, List.take_append_drop]
  have h1 : used fs = used (fs.take k) + (szF fs[k] + used (fs.drop (k + 1))) :=
    (congrArg used e).trans (by simp only [used, List.map_append, List.map_cons, List.sum_append, List.sum_cons])
  have h2 : used (fs.set k (some f)) = used (fs.take k) + (f.bs.length + used (fs.drop (k + 1))) := by
    rw [List.set_eq_take_append_cons_drop, if_pos hk]
    simp [used, szF]
  omega
theorem fileOf_1 {D : Dk} (h8 : D.fs.length = 8) : fileOf D 1 = D.fs[1]'(by omega) := by
  rw [fileOf, if_pos (by decide), List.getD_eq_getElem?_getD, List.getElem?_eq_getElem (by omega)]
  rfl
theorem ok_set {D : Dk} {f : DF} {fu : Int} {lo : Bool} (ok : D.ok) (hs : f.safe ≤ f.bs.length) (hf : -1 ≤ fu ∧ fu < 9223372036854775808) (hr : (f.bs.length : Int) - szF (fileOf D 1) ≤ D.cap - used D.fs) : (⟨D.cap, D.fs.set 1 (some f), fu, lo⟩ : Dk).ok := by
  have h8 := ok.len
  have hu := used_set (fs := D.fs) (k := 1) (by omega) f
  rw [fileOf_1 h8] at hr
  refine ⟨by simpa using h8, ok.cap, ?_, hf, fun g hg => ?_⟩
  · show (used (D.fs.set 1 (some f)) : Int) ≤ D.cap
    omega
  · rcases List.mem_or_eq_of_mem_set hg with h | h
    · exact ok.safe g h
    · cases h
      exact hs
theorem fileOf_set {D : Dk} {f : DF} {fu : Int} {lo : Bool} (h8 : D.fs.length = 8) : fileOf ⟨D.cap, D.fs.set 1 (some f), fu, lo⟩ 1 = some f := by
  rw [fileOf_1 (by simpa using h8)]
  simp
/-- A file that begins with some safe bytes. -/
def Inv (b : List UInt8) (D : Dk) : Prop := D.ok ∧ ∃ f, fileOf D 1 = some f ∧ f.bs.take b.length = b ∧ b.length ≤ f.safe
theorem burnF_in {fu : Int} (h : -1 ≤ fu ∧ fu < 9223372036854775808) : -1 ≤ burnF fu ∧ burnF fu < 9223372036854775808 := by
  unfold burnF
  split <;> omega
theorem safe_of {D : Dk} {f : DF} (ok : D.ok) (hf : fileOf D 1 = some f) : f.safe ≤ f.bs.length := by
  have h8 := ok.len
  rw [fileOf_1 h8] at hf
  exact ok.safe f (by rw [← hf]; exact List.getElem_mem _)
theorem append_ok1 {D : Dk} (ok : D.ok) (ys : List UInt8) : (appendD D 1 ys).1.ok := by
  unfold appendD
  split
  · exact ok
  · split
    · exact ok
    · rename_i h2
      have hs : ((fileOf D 1).getD ⟨[], 0⟩).safe ≤ ((fileOf D 1).getD ⟨[], 0⟩).bs.length := by
        cases hf : fileOf D 1 with
        | none => simp
        | some f => exact safe_of ok hf
      have hz : szF (fileOf D 1) = ((fileOf D 1).getD ⟨[], 0⟩).bs.length := by cases fileOf D 1 <;> rfl
      split
      · refine ok_set ok (by simp; omega) ok.fuse ?_
        simp only [List.length_append, List.length_take]
        omega
      · refine ok_set ok (by simp; omega) (burnF_in ok.fuse) ?_
        simp only [List.length_append]
        omega
theorem inv_append {b : List UInt8} {D : Dk} (hi : Inv b D) (ys : List UInt8) : Inv b (appendD D 1 ys).1 := by
  obtain ⟨ok, f, hf, hp, hs⟩ := hi
  have hsl := safe_of ok hf
  refine ⟨append_ok1 ok ys, ?_⟩
  unfold appendD
  split
  · exact ⟨f, hf, hp, hs⟩
  · split
    · exact ⟨f, hf, hp, hs⟩
    · split
      · refine ⟨_, fileOf_set ok.len, ?_, by simpa [hf] using hs⟩
        simp only [hf, Option.getD_some]
        rw [List.take_append_of_le_length (by omega), hp]
      · refine ⟨_, fileOf_set ok.len, ?_, by simpa [hf] using hs⟩
        simp only [hf, Option.getD_some]
        rw [List.take_append_of_le_length (by omega), hp]
theorem sync_ok1 {D : Dk} (ok : D.ok) : (syncD D 1).1.ok := by
  unfold syncD
  split
  · exact ok
  · split
    · exact ⟨ok.len, ok.cap, ok.room, ok.fuse, ok.safe⟩
    · have hz : szF (fileOf D 1) = ((fileOf D 1).getD ⟨[], 0⟩).bs.length := by cases fileOf D 1 <;> rfl
      have := ok.room
      exact ok_set ok (Nat.le_refl _) (burnF_in ok.fuse) (by simp only; omega)
theorem inv_sync {b : List UInt8} {D : Dk} (hi : Inv b D) : Inv b (syncD D 1).1 := by
  obtain ⟨ok, f, hf, hp, hs⟩ := hi
  have hsl := safe_of ok hf
  refine ⟨sync_ok1 ok, ?_⟩
  unfold syncD
  split
  · exact ⟨f, hf, hp, hs⟩
  · split
    · exact ⟨f, hf, hp, hs⟩
    · refine ⟨_, fileOf_set ok.len, by simpa [hf] using hp, by simp only [hf, Option.getD_some]; omega⟩
end Go.Proofs.Ytackopkhelochaa.MX
