/- A literal's bytes, turned to the type that they have already: the model marks their block. -/
import Derived.Test.YtackopkhelochaaBy1
namespace Go.Proofs.Ytackopkhelochaa.MX
open Go Go.Proofs
set_option linter.unusedSimpArgs false
set_option linter.unusedVariables false

/-- Cells of a literal that was marked. -/
def markA (b : Nat) (cs : List Value) (T : Nat) : HP where
  P h B := B = [b] ∧ blk h b = some (cs, T, (cs.length, cs.length + 1))
  loc := fun ⟨e, hb⟩ hk => ⟨e, by subst e; rw [← hb]; simp only [blk, hk b (by simp)]⟩
  lt := fun ⟨e, hb⟩ b' hm => by subst e; simp at hm; subst hm; exact blk_lt hb
theorem St.markArr {α : Type} {enc : α → List Value} {sz : Nat} (hsz : ∀ x, (enc x).length = sz) {h0 h : Heap} {l : List HP} {b T : Nat} {ys : List α} (S : St h0 h (markA b (ys.flatMap enc) T :: l)) : Arr enc sz h (some ⟨b, 0, none⟩) ys := by
  obtain ⟨B, ⟨_, hb⟩, _⟩ := S.hd
  intro i hi
  refine ⟨b, 0, rfl, ?_⟩
  have h1 : (i + 1) * sz ≤ ys.length * sz := Nat.mul_le_mul_right _ hi
  rw [Nat.succ_mul] at h1
  rw [Nat.zero_add, rdN_blk hb (by rw [flat_length hsz]; exact h1)]
  have := flat_get hsz ys [] i hi
  rw [List.append_nil] at this
  rw [this]
theorem any_b2b {P : Program} {o : Oper} {t e n : Nat} (ho : o.op = .convert t t (.tmp n)) (ht : P.underlying t = some (.slice e)) (he : P.underlying e = some (.int .u8)) {ρ : Env} {h0 h : Heap} {l : List HP} {K : Value → Heap → Prop} {s1 : Tag ρ} {s2 : Tag h} {s3 : Tag K}
    {b off len c T : Nat} {cs : List Value} (hv : ρ n = .slice (some ⟨b, off, none⟩) len c) (S : St h0 h (cellA b cs T :: l)) (hk : ∀ h', St h0 h' (markA b cs T :: l) → K (.slice (some ⟨b, off, none⟩) len c) h') : anyT P o ρ h K s1 s2 s3 := by
  obtain ⟨B, ⟨hB, hb⟩, _, hup⟩ := S.hd
  intro w a hw hops
  have hx : a.eval (.tmp n) = .slice (some ⟨b, off, none⟩) len c := by
    rw [← hv]
    exact hops (.tmp n) (by rw [ho]; simp [Op.operands])
  have hcell : w.heap[b]? = some (.cells cs.toArray T (0, 0)) := by
    rw [hw]
    unfold blk at hb
    split at hb
    · rename_i c' e' f' hc
      injection hb with hb
      injection hb with h1 h2
      injection h2 with h2 h3
      rw [hc, ← h1, h2, h3]
    · cases hb
  have hshape : w.shape? b = some (T, cs.length) := by simp only [World.shape?, hcell, List.size_toArray]
  have hfz : w.freeze { block := b, off := cs.length } 1 = { w with heap := w.heap.setIfInBounds b (.cells cs.toArray T (cs.length, cs.length + 1)) } := by
    simp only [World.freeze, Nat.one_ne_zero, if_false]
    congr 1
    apply Array.ext_getElem?
    intro i
    rw [Array.getElem?_modify, Array.getElem?_setIfInBounds]
    by_cases hi : b = i
    · subst hi
      obtain ⟨hlt, hget⟩ := Array.getElem?_eq_some_iff.1 hcell
      simp [hcell, hlt]
      rw [hget]
      simp
    · simp [hi]
  refine ⟨.slice (some ⟨b, off, none⟩) len c, { w with heap := w.heap.setIfInBounds b (.cells cs.toArray T (cs.length, cs.length + 1)) }, .inl ?_, ⟨rfl, rfl, rfl⟩, ?_⟩
  · simp [execOp, ho, convert, und_run ht, und_run he, hx, markStringish, hshape, hfz]
  · refine hk _ (hup _ (markA b cs T) [b] ?_ ⟨rfl, ?_⟩ (fun b' hm => .inl (by rw [hB]; exact hm)))
    · subst hw hB
      exact (Fr.refl _ _).set (.inl (by simp)) _
    · subst hw
      exact blk_set_eq (blk_lt hb)
/-- A block that was made for some values is a slice of the call's own. -/
theorem St.cellOwn {α : Type} {enc : α → List Value} {sz : Nat} (hsz : ∀ x, (enc x).length = sz) {h0 h : Heap} {l : List HP} {b T : Nat} {ys : List α} {cs : List Value} (S : St h0 h (cellA b cs T :: l)) (hc : cs = ys.flatMap enc) (hl : ys.length < 9223372036854775808) : St h0 h (ownA enc sz T (.slice (some ⟨b, 0, none⟩) ys.length ys.length) ys :: l) := by
  obtain ⟨B, ⟨hB, hb⟩, _, hup⟩ := S.hd
  subst hB
  refine hup _ _ [b] (Fr.refl _ _) ⟨rfl, .inr ⟨b, ys.length, [], rfl, Nat.zero_le _, Nat.le_refl _, hl, ?_, ?_⟩⟩ (fun b' hm => .inl hm)
  · rw [List.append_nil, hb, hc]
  · rw [List.append_nil, flat_length hsz]
end Go.Proofs.Ytackopkhelochaa.MX
