/- The engine, part O: what an argument's reading says of its cells. -/
import Derived.Test.YtnjjdpeglkiifaaMXR
import Derived.OpenShut
import Derived.Deep.Slices
namespace Go.Proofs.Ytnjjdpeglkiifaa.MX
open Go Go.ChangeShapes Go.Deep
set_option linter.unusedSimpArgs false
set_option linter.unusedVariables false

/-- Cells are those of a value of a type. -/
def Good (P : Program) (h : Heap) : Nat → TypeId → List Value → Prop
  | 0, _, _ => False
  | d + 1, t, cs =>
    (∀ k, P.underlying t = some (.int k) → ∃ n, cs = [.int k n] ∧ (Lit.int k n).wf = true) ∧
    (P.underlying t = some .bool → ∃ b, cs = [.bool b]) ∧
    (P.underlying t = some .string → ∃ s, cs = [.string s] ∧ s.size ≤ maxLen) ∧
    (∀ fs, P.underlying t = some (.struct fs) → cs.length = P.cellsOf t ∧ ∀ (j : Nat) f, fs[j]? = some f → Good P h d f.type ((cs.drop f.offset).take (P.cellsOf f.type))) ∧
    (∀ n e, P.underlying t = some (.array n e) → cs.length = P.cellsOf t ∧ ∀ i, i < n → Good P h d e ((cs.drop (i * P.cellsOf e)).take (P.cellsOf e))) ∧
    (∀ e, P.underlying t = some (.slice e) → cs = [.slice none 0 0] ∨ ∃ (a : Addr) (len cap : Nat), cs = [.slice (some a) len cap] ∧ len ≤ cap ∧ cap ≤ maxLen ∧
      ∀ i, i < len → ∃ cs', (0 < P.cellsOf e → a.spot = none ∧ rdN h a.block (a.off + i * P.cellsOf e) (P.cellsOf e) = some cs') ∧ Good P h d e cs')

theorem rdN_of_cells {w : World} {b off n : Nat} {cs : List Value} (h0 : 0 < n) (hl : cs.length = n) (hc : ∀ i, i < n → w.cell? ⟨b, off + i, none⟩ = cs[i]?) : rdN w.heap b off n = some cs := by
  have hsome : ∀ i, i < n → ∃ v, w.cell? ⟨b, off + i, none⟩ = some v := fun i hi => ⟨cs[i]'(by omega), by rw [hc i hi, List.getElem?_eq_getElem (by omega)]⟩
  obtain ⟨c, e, f, hb⟩ : ∃ c e f, w.heap[b]? = some (.cells c e f) := by
    obtain ⟨v, hv⟩ := hsome 0 h0
    unfold World.cell? at hv
    split at hv
    · rename_i c e f hb; exact ⟨c, e, f, hb⟩
    · cases hv
  have hget : ∀ i, i < n → c.toList[off + i]? = cs[i]? := fun i hi => by
    rw [← hc i hi]
    simp [World.cell?, hb]
  have hle : off + n ≤ c.toList.length := by
    obtain ⟨v, hv⟩ := hsome (n - 1) (by omega)
    have := hget (n - 1) (by omega)
    rw [← hc _ (by omega), hv] at this
    have := (List.getElem?_eq_some_iff.1 this).1
    omega
  have hblk : blk w.heap b = some (c.toList, e, f) := by simp [blk, hb]
  rw [rdN_blk hblk hle]
  congr 1
  apply List.ext_getElem?
  intro i
  rw [List.getElem?_take, List.getElem?_drop]
  by_cases hi : i < n
  · rw [if_pos hi, hget i hi]
  · rw [if_neg hi, List.getElem?_eq_none (by omega)]

section
variable {H : Type} {enc : TypeId × Value → H} {P : Program} {w : World} {spare : Nat → Bool} {held : Bool}

theorem good_of : ∀ (fuel : Nat) {t : TypeId} {cs : List Value} {x : DataW H × List MemPlace}, DataW.trod enc P w 0 spare held fuel t cs = some x → Good P w.heap fuel t cs
  | 0, t, cs, x, h => by simp [DataW.trod] at h
  | d + 1, t, cs, x, h => by
    refine ⟨fun k hu => ?_, fun hu => ?_, fun hu => ?_, fun fs hu => ?_, fun n e hu => ?_, fun e hu => ?_⟩
    · unfold DataW.trod at h
      rw [hu] at h
      split at h <;> first | (rename_i heq; cases heq; done) | (rename_i heq _; cases heq; done) | skip
      all_goals first | (cases h; done) | skip
      · rename_i k k' n heq
        cases heq
        split at h
        · rename_i hk; obtain ⟨rfl, hw⟩ := hk; exact ⟨n, rfl, hw⟩
        · cases h
    · unfold DataW.trod at h
      rw [hu] at h
      split at h <;> first | (rename_i heq; cases heq; done) | (rename_i heq _; cases heq; done) | skip
      all_goals first | (cases h; done) | skip
      · exact ⟨_, rfl⟩
    · unfold DataW.trod at h
      rw [hu] at h
      split at h <;> first | (rename_i heq; cases heq; done) | (rename_i heq _; cases heq; done) | skip
      all_goals first | (cases h; done) | skip
      · rename_i s heq
        split at h
        · rename_i hs; exact ⟨s, rfl, hs⟩
        · cases h
    · obtain ⟨xs, n, hn, _, hl, hlen, hf⟩ := DataW.trod_struct hu h
      cases hn
      refine ⟨hl, fun j f hj => ?_⟩
      have hjl : j < xs.length := by rw [hlen]; exact (Array.getElem?_eq_some_iff.1 hj).1
      have := hf j f hj
      rw [List.getElem?_eq_getElem hjl] at this
      exact good_of d this
    · obtain ⟨xs, m, hm, _, hl, hlen, hf⟩ := DataW.trod_array hu h
      cases hm
      refine ⟨hl, fun i hi => ?_⟩
      have := hf i hi
      rw [List.getElem?_eq_getElem (by omega)] at this
      exact good_of d this
    · rcases DataW.trod_slice hu h with ⟨h0, _⟩ | ⟨a, len, cap, elems, rest, n, hn, hcs, _, _, hl, hm, hlen, hel, _⟩
      · exact .inl h0
      · cases hn
        refine .inr ⟨a, len, cap, hcs, hl, hm, fun i hi => ?_⟩
        obtain ⟨cs', hc, ht⟩ := by
          have := hel i hi
          rw [List.getElem?_eq_getElem (by omega)] at this
          exact Option.bind_eq_some_iff.1 this
        refine ⟨cs', fun h0 => ?_, good_of d ht⟩
        obtain ⟨_, hcl, hat⟩ := World.cells?_some hc
        have hspot : a.spot = none := by
          obtain ⟨cs0, hc0, _⟩ := by
            have := hel 0 (by omega)
            rw [List.getElem?_eq_getElem (by omega)] at this
            exact Option.bind_eq_some_iff.1 this
          obtain ⟨_, hcl0, hat0⟩ := World.cells?_some hc0
          have h1 := hat0 0 h0
          rw [List.getElem?_eq_getElem (by omega)] at h1
          have h2 : (a.add (0 * P.cellsOf e)).add 0 = a := by simp [Addr.add]
          rw [h2] at h1
          cases hs : a.spot with
          | none => rfl
          | some s =>
            exfalso
            unfold World.cell? at h1
            rw [hs] at h1
            split at h1 <;> simp at h1
        refine ⟨hspot, ?_⟩
        obtain ⟨ab, ao, as⟩ := a
        cases hspot
        refine rdN_of_cells h0 hcl fun i' hi' => ?_
        rw [← hat i' hi']
        simp only [add_none]
end
end Go.Proofs.Ytnjjdpeglkiifaa.MX
