/- Split: what follows of shares, in plain words. -/
import Derived.Test.YtnjjdpeglkiifaaSp15
namespace Go.Proofs.Ytnjjdpeglkiifaa.MX
open Go Go.Proofs
set_option linter.unusedSimpArgs false
set_option linter.unusedVariables false
theorem rk_asym {Kf : Int → Nat} {x y : Int} (h1 : Rk Kf x y) (h2 : Rk Kf y x) : False := by
  unfold Rk at h1 h2
  omega
/-- A sorted order is the only one. -/
theorem rk_unique {Kf : Int → Nat} : ∀ {Z Z' : List Int}, Z.Perm Z' → Z.Pairwise (Rk Kf) → Z'.Pairwise (Rk Kf) → Z = Z'
  | [], Z', hp, _, _ => (List.nil_perm.1 hp).symm
  | z :: Z, [], hp, _, _ => by have := hp.length_eq; simp at this
  | z :: Z, y :: Z', hp, h1, h2 => by
    rw [List.pairwise_cons] at h1 h2
    have hz : z = y := by
      rcases List.mem_cons.1 (hp.mem_iff.1 (List.mem_cons_self ..)) with h | h
      · exact h
      · rcases List.mem_cons.1 (hp.mem_iff.2 (List.mem_cons_self ..)) with h' | h'
        · exact h'.symm
        · exact (rk_asym (h1.1 _ h') (h2.1 _ h)).elim
    subst hz
    rw [rk_unique (List.perm_cons _ |>.1 hp) h1.2 h2.2]
theorem IsShares.unique {sum all : Nat} {ws : List Nat} {o1 o2 : List Int} (h1 : IsShares sum all ws o1) (h2 : IsShares sum all ws o2) : o1 = o2 := by
  obtain ⟨Z1, p1, s1, rfl⟩ := h1
  obtain ⟨Z2, p2, s2, rfl⟩ := h2
  rw [rk_unique (p1.trans p2.symm) s1 s2]
theorem bump_get (Z : List Int) : ∀ q : List Int, Z.Nodup → (∀ z ∈ Z, 0 ≤ z ∧ z < q.length) → ∀ i, i < q.length → (bump q Z).getD i 0 = q.getD i 0 + if (i : Int) ∈ Z then 1 else 0 := by
  induction Z with
  | nil => intro q _ _ i _; simp [bump]
  | cons z Z ih =>
    intro q hn hd i hi
    rw [List.nodup_cons] at hn
    have hz := hd z (by simp)
    have e : bump q (z :: Z) = bump (q.set z.toNat (q.getD z.toNat 0 + 1)) Z := rfl
    rw [e, ih _ hn.2 (fun y hy => by rw [List.length_set]; exact hd y (by simp [hy])) i (by rw [List.length_set]; exact hi)]
    by_cases hiz : z = (i : Int)
    · subst hiz
      have : (q.set (i : Int).toNat (q.getD (i : Int).toNat 0 + 1)).getD i 0 = q.getD i 0 + 1 := by
        rw [Int.toNat_natCast, List.getD_eq_getElem?_getD, List.getElem?_set_self hi]; rfl
      rw [this, if_neg hn.1, if_pos (by simp)]
      omega
    · have : (q.set z.toNat (q.getD z.toNat 0 + 1)).getD i 0 = q.getD i 0 := by
        rw [List.getD_eq_getElem?_getD, List.getElem?_set_ne (by omega), ← List.getD_eq_getElem?_getD]
      rw [this]
      have e : ((i : Int) ∈ z :: Z) ↔ ((i : Int) ∈ Z) := by
        rw [List.mem_cons]
        constructor
        · rintro (h | h)
          · exact (hiz h.symm).elim
          · exact h
        · exact .inr
      simp only [e]
theorem sum_set : ∀ (q : List Int) (k : Nat), k < q.length → (q.set k (q.getD k 0 + 1)).sum = q.sum + 1
  | [], k, h => by simp at h
  | x :: q, 0, h => by simp; omega
  | x :: q, k + 1, h => by
    have := sum_set q k (by simpa using h)
    simp only [List.set_cons_succ, List.sum_cons, List.getD_cons_succ, this]
    omega
theorem bump_sum (Z : List Int) : ∀ q : List Int, (∀ z ∈ Z, 0 ≤ z ∧ z < q.length) → (bump q Z).sum = q.sum + Z.length := by
  induction Z with
  | nil => intro q _; simp [bump]
  | cons z Z ih =>
    intro q hd
    have hz := hd z (by simp)
    have e : bump q (z :: Z) = bump (q.set z.toNat (q.getD z.toNat 0 + 1)) Z := rfl
    rw [e, ih _ (fun y hy => by rw [List.length_set]; exact hd y (by simp [hy])), sum_set q _ (by omega), List.length_cons]
    omega
theorem natsI_mem {n : Nat} {z : Int} : z ∈ natsI n ↔ 0 ≤ z ∧ z < n := by
  simp only [natsI, List.mem_map, List.mem_range]
  constructor
  · rintro ⟨k, hk, rfl⟩
    exact ⟨Int.natCast_nonneg k, Int.ofNat_lt.2 hk⟩
  · rintro ⟨h1, h2⟩
    exact ⟨z.toNat, by omega, by show ((z.toNat : Nat) : Int) = z; omega⟩
theorem natsI_nodup (n : Nat) : (natsI n).Nodup := by
  unfold natsI List.Nodup
  rw [List.pairwise_map]
  exact List.nodup_range.imp fun h e => h (Int.ofNat_inj.1 e)
theorem sumI (l : List Nat) : (l.map Int.ofNat).sum = (l.sum : Int) := by
  induction l with
  | nil => rfl
  | cons w ws ih => rw [List.map_cons, List.sum_cons, List.sum_cons, ih]; simp
/-- What shares are: they come to the sum; each is the quotient, or one more; of the same weights an earlier one has not less. -/
theorem IsShares.law {sum all : Nat} {ws : List Nat} {out : List Int} (H : IsShares sum all ws out) (hall : 0 < all) (he : ws.sum = all) :
    out.length = ws.length ∧ out.sum = sum ∧ (∀ i (hi : i < ws.length), out.getD i 0 = ((sum * ws[i] / all : Nat) : Int) ∨ out.getD i 0 = ((sum * ws[i] / all : Nat) : Int) + 1) ∧
      ∀ i k (hi : i < ws.length) (hk : k < i), ws[k] = ws[i] → out.getD k 0 = out.getD i 0 ∨ out.getD k 0 = out.getD i 0 + 1 := by
  obtain ⟨Z, hp, hs, rfl⟩ := H
  obtain ⟨hl1, hl2⟩ := left_law hall he (sum := sum)
  have hZl : Z.length = ws.length := by rw [hp.length_eq, natsI_len]
  have hql : ((quoW sum all ws).map Int.ofNat).length = ws.length := by rw [List.length_map, quoW_len]
  have hZd : ∀ z ∈ Z, 0 ≤ z ∧ z < (((quoW sum all ws).map Int.ofNat).length : Int) := fun z hz => by rw [hql]; exact natsI_mem.1 (hp.mem_iff.1 hz)
  have hZn : Z.Nodup := hp.nodup_iff.2 (natsI_nodup _)
  have htd : ∀ z ∈ Z.take (sum - (quoW sum all ws).sum), 0 ≤ z ∧ z < (((quoW sum all ws).map Int.ofNat).length : Int) := fun z hz => hZd z (List.mem_of_mem_take hz)
  have hg := bump_get _ _ (hZn.sublist (List.take_sublist (sum - (quoW sum all ws).sum) Z)) htd
  have hq : ∀ i (hi : i < ws.length), ((quoW sum all ws).map Int.ofNat).getD i 0 = ((sum * ws[i] / all : Nat) : Int) := fun i hi => by
    rw [List.getD_eq_getElem?_getD, List.getElem?_eq_getElem (by rw [hql]; exact hi)]
    simp only [quoW, List.getElem_map]
    rfl
  refine ⟨by rw [bump_len, hql], ?_, ?_, ?_⟩
  · rw [bump_sum _ _ htd, List.length_take, sumI]
    omega
  · intro i hi
    rw [hg i (by rw [hql]; exact hi), hq i hi]
    split
    · exact .inr rfl
    · exact .inl (by omega)
  · intro i k hi hk hw
    have hk' : k < ws.length := by omega
    rw [hg i (by rw [hql]; exact hi), hq i hi, hg k (by rw [hql]; exact hk'), hq k hk', hw]
    have hrk : Rk (fun i => (restW sum all ws).getD i.toNat 0) (k : Int) (i : Int) := by
      refine .inr ⟨?_, by omega⟩
      simp only [Int.toNat_natCast, restW, List.getD_eq_getElem?_getD, List.getElem?_map, List.getElem?_eq_getElem hi, List.getElem?_eq_getElem hk', hw]
    have him : ∀ j : Nat, j < ws.length → (j : Int) ∈ Z := fun j hj => hp.mem_iff.2 (natsI_mem.2 ⟨by omega, by omega⟩)
    have hkk : (i : Int) ∈ Z.take (sum - (quoW sum all ws).sum) → (k : Int) ∈ Z.take (sum - (quoW sum all ws).sum) := fun hm => by
      have hz := him k hk'
      rw [← List.take_append_drop (sum - (quoW sum all ws).sum) Z] at hz hs
      rcases List.mem_append.1 hz with hz | hz
      · exact hz
      · exact (rk_asym hrk ((List.pairwise_append.1 hs).2.2 _ hm _ hz)).elim
    by_cases c1 : (i : Int) ∈ Z.take (sum - (quoW sum all ws).sum)
    · rw [if_pos c1, if_pos (hkk c1)]
      exact .inl rfl
    · rw [if_neg c1]
      split
      · exact .inr (by omega)
      · exact .inl rfl
/-- The next of an order is the first of all that are left. -/
theorem next_of {Kf : Int → Nat} {Z : List Int} {n j : Nat} (hp : Z.Perm (natsI n)) (hs : Z.Pairwise (Rk Kf)) (hj : j < Z.length) {b : Int} (hb : 0 ≤ b ∧ b < n) (hb1 : b ∉ Z.take j) (hb2 : ∀ x : Int, 0 ≤ x → x < n → x ∉ Z.take j → x = b ∨ Rk Kf b x) : Z[j] = b := by
  have hz : Z[j] ∈ Z := List.getElem_mem hj
  have hd := natsI_mem.1 (hp.mem_iff.1 hz)
  have hZn : Z.Nodup := hp.nodup_iff.2 (natsI_nodup _)
  have hsp : Z = Z.take j ++ Z[j] :: Z.drop (j + 1) := by rw [← List.drop_eq_getElem_cons hj, List.take_append_drop]
  have hnt : Z[j] ∉ Z.take j := fun hm => by
    rw [hsp] at hZn
    exact (List.nodup_append.1 hZn).2.2 _ hm _ (List.mem_cons_self ..) rfl
  rcases hb2 _ hd.1 hd.2 hnt with h | h
  · exact h
  · have hbz := hp.mem_iff.2 (natsI_mem.2 hb)
    rw [hsp] at hbz hs
    rcases List.mem_append.1 hbz with hm | hm
    · exact (hb1 hm).elim
    · rcases List.mem_cons.1 hm with hm | hm
      · exact hm.symm
      · have := (List.pairwise_cons.1 (List.pairwise_append.1 hs).2.1).1 _ hm
        exact (rk_asym this h).elim
end Go.Proofs.Ytnjjdpeglkiifaa.MX
