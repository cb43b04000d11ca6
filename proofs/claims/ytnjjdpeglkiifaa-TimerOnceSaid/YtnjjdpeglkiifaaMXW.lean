/- The engine, part W: slices of the call's own that begin behind their block's beginning. -/
import Derived.Test.YtnjjdpeglkiifaaMXV
namespace Go.Proofs.Ytnjjdpeglkiifaa.MX
open Go
set_option linter.unusedSimpArgs false
set_option linter.unusedVariables false

def OwnO {α : Type} (enc : α → List Value) (sz T : Nat) (h : Heap) (v : Value) (xs : List α) : Prop :=
  (v = .slice none 0 0 ∧ xs = []) ∨
  ∃ b cap pre cs post, v = .slice (some ⟨b, pre.length, none⟩) xs.length cap ∧ xs.length ≤ cap ∧ cap < 9223372036854775808 ∧ blk h b = some (pre ++ ((xs.flatMap enc ++ cs) ++ post), T, (0, 0)) ∧ (xs.flatMap enc ++ cs).length = cap * sz
section
variable {α : Type} {enc : α → List Value} {sz T : Nat} {h h' : Heap} {v : Value} {xs : List α}
theorem Own.toO {base : Nat} (ho : Own enc sz T base h v xs) : OwnO enc sz T h v xs := by
  rcases ho with ho | ⟨b, cap, cs, hv, _, h1, h2, h3, h4⟩
  · exact .inl ho
  · exact .inr ⟨b, cap, [], cs, [], hv, h1, h2, by simpa using h3, h4⟩
theorem OwnO.lt (ho : OwnO enc sz T h v xs) : ∀ b ∈ blkOf v, b < h.size := by
  rcases ho with ⟨rfl, _⟩ | ⟨b, cap, pre, cs, post, rfl, _, _, hb, _⟩
  · intro b hb; cases hb
  · intro b' hb'
    simp only [blkOf, List.mem_singleton] at hb'
    subst hb'
    exact blk_lt hb
theorem OwnO.keep (ho : OwnO enc sz T h v xs) (hk : ∀ b ∈ blkOf v, blk h' b = blk h b) : OwnO enc sz T h' v xs := by
  rcases ho with ho | ⟨b, cap, pre, cs, post, rfl, h1, h2, hb, h4⟩
  · exact .inl ho
  · exact .inr ⟨b, cap, pre, cs, post, rfl, h1, h2, by rw [hk b (by simp [blkOf])]; exact hb, h4⟩
theorem OwnO.slice (ho : OwnO enc sz T h v xs) : ∃ A c, v = .slice A xs.length c := by
  rcases ho with ⟨rfl, rfl⟩ | ⟨b, cap, pre, cs, post, rfl, _⟩
  · exact ⟨_, _, rfl⟩
  · exact ⟨_, _, rfl⟩
theorem OwnO.arr (hsz : ∀ x, (enc x).length = sz) {A : Option Addr} {n c : Nat} (ho : OwnO enc sz T h (.slice A n c) xs) : Arr enc sz h A xs ∧ n = xs.length ∧ n ≤ c ∧ c < 9223372036854775808 := by
  rcases ho with ⟨hv, rfl⟩ | ⟨b, cap, pre, cs, post, hv, h1, h2, hb, h4⟩
  · injection hv with e1 e2 e3
    subst e1 e2 e3
    exact ⟨fun i hi => by simp at hi, rfl, Nat.le_refl _, by decide⟩
  · injection hv with e1 e2 e3
    subst e1 e2 e3
    refine ⟨fun i hi => ⟨b, pre.length, rfl, ?_⟩, rfl, h1, h2⟩
    have hfl := flat_length hsz xs
    have hm : i * sz + sz ≤ xs.length * sz := by
      have := Nat.mul_le_mul_right sz (show i + 1 ≤ xs.length from hi)
      rwa [Nat.succ_mul] at this
    rw [rdN_blk hb (by simp only [List.length_append]; omega)]
    congr 1
    rw [List.append_assoc (xs.flatMap enc) cs post, List.drop_append, List.drop_of_length_le (by omega), List.nil_append, Nat.add_sub_cancel_left]
    exact flat_get hsz xs (cs ++ post) i hi
def offA (enc : α → List Value) (sz T : Nat) (v : Value) (xs : List α) : HP where
  P h B := B = blkOf v ∧ OwnO enc sz T h v xs
  loc := fun ⟨e, ho⟩ hk => ⟨e, ho.keep fun b hb => by simp only [blk, hk b (e ▸ hb)]⟩
  lt := fun ⟨e, ho⟩ b hm => ho.lt b (e ▸ hm)
variable {h0 : Heap} {l : List HP} {v' : Value} {xs' : List α}
theorem St.off (S : St h0 h (offA enc sz T v xs :: l)) : OwnO enc sz T h v xs := by
  obtain ⟨B, hp, _⟩ := S.hd
  exact hp.2
theorem St.offSl (S : St h0 h (offA enc sz T v xs :: l)) : ∃ A c, v = .slice A xs.length c := S.off.slice
theorem St.offArr {A : Option Addr} {n c : Nat} (S : St h0 h (offA enc sz T (.slice A n c) xs :: l)) (hsz : ∀ x, (enc x).length = sz) : Arr enc sz h A xs := (S.off.arr hsz).1
theorem St.offUp (S : St h0 h (offA enc sz T v xs :: l)) (hf : Fr h h' (blkOf v)) (ho : OwnO enc sz T h' v' xs') (hb : ∀ b ∈ blkOf v', b ∈ blkOf v ∨ h.size ≤ b) : St h0 h' (offA enc sz T v' xs' :: l) := by
  obtain ⟨B, hp, _, hk⟩ := S.hd
  obtain ⟨rfl, _⟩ := hp
  exact hk _ _ _ hf ⟨rfl, ho⟩ hb
theorem St.toOff (S : St h0 h (ownA enc sz T v xs :: l)) : St h0 h (offA enc sz T v xs :: l) := by
  obtain ⟨B, hp, _, hk⟩ := S.hd
  obtain ⟨rfl, ho⟩ := hp
  exact hk h _ (blkOf v) (Fr.refl _ _) ⟨rfl, ho.toO⟩ (fun b hb => .inl hb)
theorem St.nilO (S : St h0 h l) : St h0 h (offA enc sz T (.slice none 0 0) [] :: l) := S.nilS.toOff

theorem splice_mid (pre X post vs : List Value) {off k : Nat} (ho : off = pre.length + k) (hk : k + vs.length ≤ X.length) : splice (pre ++ (X ++ post)) off vs = pre ++ (splice X k vs ++ post) := by
  have e1 : pre ++ (X ++ post) = (pre ++ X.take k) ++ (X.drop k ++ post) := by
    conv => lhs; rw [← List.take_append_drop k X]
    simp only [List.append_assoc]
  have hl : (X.take k).length = k := by rw [List.length_take]; omega
  have e2 : splice X k vs = X.take k ++ vs ++ (X.drop k).drop vs.length := by
    conv => lhs; rw [← List.take_append_drop k X]
    exact splice_append _ _ [] k hl.symm vs (by rw [List.length_drop]; omega)
  rw [e1, splice_append _ _ [] off (by rw [List.length_append, hl]; exact ho) vs (by rw [List.length_append, List.length_drop]; omega), List.drop_append_of_le_length (by rw [List.length_drop]; omega), e2]
  simp only [List.append_assoc]
theorem arr_dropG {b off : Nat} (ha : Arr enc sz h (some ⟨b, off, none⟩) xs) (n : Nat) : Arr enc sz h (some ⟨b, off + n * sz, none⟩) (xs.drop n) := by
  intro i hi
  rw [List.length_drop] at hi
  obtain ⟨b', off', e, hr⟩ := ha (n + i) (by omega)
  cases e
  refine ⟨b, _, rfl, ?_⟩
  rw [List.getElem_drop]
  rw [show off + n * sz + i * sz = off + (n + i) * sz by rw [Nat.add_mul]; omega]
  exact hr
theorem arr_takeG {A : Option Addr} (ha : Arr enc sz h A xs) (n : Nat) : Arr enc sz h A (xs.take n) := by
  intro i hi
  obtain ⟨b, off, hA, hr⟩ := ha i (by simp at hi; omega)
  exact ⟨b, off, hA, by rw [hr, List.getElem_take]⟩
/-- The first one is left out. -/
theorem OwnO.pop (hsz : ∀ x, (enc x).length = sz) {x : α} {A : Option Addr} {n c : Nat} (ho : OwnO enc sz T h (.slice A n c) (x :: xs)) :
    ∃ A' c', cutV A sz 1 n c c = some (.slice A' xs.length c') ∧ OwnO enc sz T h (.slice A' xs.length c') xs ∧ blkOf (.slice A' xs.length c') = blkOf (.slice A n c) := by
  rcases ho with ⟨_, hv⟩ | ⟨b, cap, pre, cs, post, hv, h1, h2, hb, h4⟩
  · cases hv
  injection hv with e1 e2 e3
  subst e1 e2 e3
  simp only [List.length_cons] at h1 ⊢
  unfold cutV
  rw [if_pos ⟨by omega, by omega, by omega, by omega⟩]
  have hl : (((xs.length + 1 : Nat) : Int) - 1).toNat = xs.length := by omega
  rw [List.flatMap_cons, List.append_assoc, List.append_assoc, ← List.append_assoc pre] at hb
  rw [List.flatMap_cons, List.append_assoc, List.length_append, hsz] at h4
  by_cases e : (c : Int) = 1
  · rw [if_pos e, hl]
    obtain rfl : c = 1 := by omega
    have hx0 : xs = [] := List.eq_nil_of_length_eq_zero (by omega)
    subst hx0
    refine ⟨_, 0, rfl, .inr ⟨b, 0, pre, [], enc x ++ (([] : List α).flatMap enc ++ (cs ++ post)), rfl, Nat.le_refl _, by decide, ?_, by simp⟩, rfl⟩
    rw [hb]
    simp
  · rw [if_neg e, hl, Option.map_some, add_none, show ((1 : Int).toNat * sz) = sz by simp]
    refine ⟨_, c - 1, by rw [show ((c : Int) - 1).toNat = c - 1 by omega], .inr ⟨b, c - 1, pre ++ enc x, cs, post, ?_, by omega, by omega, ?_, ?_⟩, rfl⟩
    · rw [List.length_append, hsz]
    · rw [hb, List.append_assoc (xs.flatMap enc)]
    · rw [Nat.sub_mul]
      omega
end
end Go.Proofs.Ytnjjdpeglkiifaa.MX
