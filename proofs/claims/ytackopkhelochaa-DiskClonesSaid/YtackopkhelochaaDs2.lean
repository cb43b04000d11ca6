/- A disk stays well-formed, whatever is done to it. -/
import Derived.Test.YtackopkhelochaaDs1
import Derived.Test.YtackopkhelochaaDk9
namespace Go.Proofs.Ytackopkhelochaa.MX
open Go Go.Proofs
set_option linter.unusedSimpArgs false
set_option linter.unusedVariables false

theorem used_setO {fs : List (Option DF)} {k : Nat} (hk : k < fs.length) (o : Option DF) : used (fs.set k o) + szF fs[k] = used fs + szF o := by
  have e : fs = fs.take k ++ fs[k] :: fs.drop (k + 1) := by rw [← List.drop_eq_getElem_cons hk, List.take_append_drop]
  have h1 : used fs = used (fs.take k) + (szF fs[k] + used (fs.drop (k + 1))) :=
    (congrArg used e).trans (by simp only [used, List.map_append, List.map_cons, List.sum_append, List.sum_cons])
  have h2 : used (fs.set k o) = used (fs.take k) + (szF o + used (fs.drop (k + 1))) := by
    rw [List.set_eq_take_append_cons_drop, if_pos hk]
    simp [used]
  omega
theorem fileOf_n {D : Dk} {n : Int} (h8 : D.fs.length = 8) (hn : 0 ≤ n ∧ n < 8) : fileOf D n = D.fs[n.toNat]'(by omega) := by
  rw [fileOf, if_pos hn, List.getD_eq_getElem?_getD, List.getElem?_eq_getElem (by omega)]
  rfl
theorem ok_setO {D : Dk} {n : Int} {o : Option DF} {fu : Int} {lo : Bool} (ok : D.ok) (hn : 0 ≤ n ∧ n < 8) (hs : ∀ f, o = some f → f.safe ≤ f.bs.length) (hf : -1 ≤ fu ∧ fu < 9223372036854775808) (hr : (szF o : Int) - szF (fileOf D n) ≤ D.cap - used D.fs) : (⟨D.cap, D.fs.set n.toNat o, fu, lo⟩ : Dk).ok := by
  have h8 := ok.len
  have hu := used_setO (fs := D.fs) (k := n.toNat) (by omega) o
  rw [fileOf_n h8 hn] at hr
  refine ⟨by simpa using h8, ok.cap, ?_, hf, fun g hg => ?_⟩
  · show (used (D.fs.set n.toNat o) : Int) ≤ D.cap
    omega
  · rcases List.mem_or_eq_of_mem_set hg with h | h
    · exact ok.safe g h
    · exact hs g h.symm
theorem safe_n {D : Dk} {n : Int} (ok : D.ok) : ((fileOf D n).getD ⟨[], 0⟩).safe ≤ ((fileOf D n).getD ⟨[], 0⟩).bs.length := by
  by_cases hn : 0 ≤ n ∧ n < 8
  · cases hf : fileOf D n with
    | none => simp
    | some f =>
      rw [fileOf_n ok.len hn] at hf
      exact ok.safe f (by rw [← hf]; exact List.getElem_mem _)
  · simp [fileOf, hn]
theorem szF_getD (o : Option DF) : szF o = (o.getD ⟨[], 0⟩).bs.length := by cases o <;> rfl
theorem szS (f : DF) : szF (some f) = f.bs.length := rfl
theorem szN : szF none = 0 := rfl
theorem ok_lost {D : Dk} (ok : D.ok) {lo : Bool} : ({ D with lost := lo } : Dk).ok := ⟨ok.len, ok.cap, ok.room, ok.fuse, ok.safe⟩
theorem append_okn {D : Dk} (ok : D.ok) (n : Int) (ys : List UInt8) : (appendD D n ys).1.ok := by
  unfold appendD
  split
  · exact ok
  · rename_i h1
    have hn := (ask_in (Classical.not_not.1 h1)).2
    have hs := safe_n (n := n) ok
    have hz := szF_getD (fileOf D n)
    split
    · exact ok
    · split
      · refine ok_setO ok hn (fun f he => ?_) ok.fuse ?_
        · cases he
          simp; omega
        · simp only [szS, List.length_append, List.length_take]
          omega
      · refine ok_setO ok hn (fun f he => ?_) (burnF_in ok.fuse) ?_
        · cases he
          simp; omega
        · simp only [szS, List.length_append]
          omega
theorem sync_okn {D : Dk} (ok : D.ok) (n : Int) : (syncD D n).1.ok := by
  unfold syncD
  have hz := szF_getD (fileOf D n)
  have hr := ok.room
  split
  · exact ok
  · rename_i h1
    have hn := (there_in (Classical.not_not.1 h1)).2.2.1
    split
    · exact ok_lost ok
    · refine ok_setO ok hn (fun f he => ?_) (burnF_in ok.fuse) ?_
      · cases he
        exact Nat.le_refl _
      · simp only [szS]
        omega
theorem cut_okn {D : Dk} (ok : D.ok) (n m : Int) : (cutD D n m).1.ok := by
  unfold cutD
  have hz := szF_getD (fileOf D n)
  have hr := ok.room
  split
  · exact ok
  · rename_i h1
    have hn := (there_in (Classical.not_not.1 h1)).2.2.1
    split
    · exact ok
    · split
      · exact ok_lost ok
      · refine ok_setO ok hn (fun f he => ?_) (burnF_in ok.fuse) ?_
        · cases he
          simp; omega
        · simp only [szS, List.length_take]
          omega
theorem remove_okn {D : Dk} (ok : D.ok) (n : Int) : (removeD D n).1.ok := by
  unfold removeD
  have hr := ok.room
  split
  · exact ok
  · rename_i h1
    have hn := (there_in (Classical.not_not.1 h1)).2.2.1
    split
    · exact ok_lost ok
    · refine ok_setO ok hn (fun f he => by cases he) (burnF_in ok.fuse) ?_
      simp only [szN]
      omega
theorem fuse_okn {D : Dk} (ok : D.ok) {n : Int} (hn : I64 n) : (fuseD D n).1.ok := by
  obtain ⟨h1, h2⟩ := hn
  unfold fuseD
  split
  · exact ok
  · split
    · exact ok
    · exact ⟨ok.len, ok.cap, ok.room, ⟨by simp only; omega, by simp only; omega⟩, ok.safe⟩
end Go.Proofs.Ytackopkhelochaa.MX
