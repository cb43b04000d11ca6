/- The engine, part V: things in a row; lists of things in another order. -/
import Derived.Test.YtnjjdpeglkiifaaMXT
import Derived.Test.YtnjjdpeglkiifaaMXS
namespace Go.Proofs.Ytnjjdpeglkiifaa.MX
open Go
set_option linter.unusedSimpArgs false
set_option linter.unusedVariables false

section
variable {α : Type} {F : α → HP} {h0 h : Heap} {l : List HP} {X : HP} {zs : List α} {n : Nat}
/-- Of things in a row: one taken out; and put back, or another one for it. -/
theorem row_pick (hn : n < zs.length) (S : St h0 h (X :: (zs.map F ++ l))) : St h0 h (F zs[n] :: X :: ((zs.take n ++ zs.drop (n + 1)).map F ++ l)) := by
  refine S.perm ?_
  have e : zs = zs.take n ++ zs[n] :: zs.drop (n + 1) := by rw [← List.drop_eq_getElem_cons hn, List.take_append_drop]
  conv => lhs; rw [e]
  rw [List.map_append, List.map_append, List.map_cons, List.append_assoc, List.append_assoc, List.cons_append]
  exact (List.Perm.cons X List.perm_middle).trans (List.Perm.swap _ _ _)
theorem row_put {z : α} (hn : n < zs.length) (S : St h0 h (F z :: X :: ((zs.take n ++ zs.drop (n + 1)).map F ++ l))) : St h0 h (X :: ((zs.set n z).map F ++ l)) := by
  refine S.perm ?_
  rw [List.set_eq_take_append_cons_drop, if_pos hn, List.map_append, List.map_append, List.map_cons, List.append_assoc, List.append_assoc, List.cons_append]
  exact (List.Perm.swap _ _ _).trans (List.Perm.cons X List.perm_middle.symm)
/-- A thing in a row, and another one for it that stands beside. -/
theorem row_swap {z : α} (hn : n < zs.length) (S : St h0 h (X :: F z :: (zs.map F ++ l))) : St h0 h (X :: ((zs.set n z).map F ++ l)) := by
  have S1 : St h0 h (X :: (zs.map F ++ (F z :: l))) := S.perm (List.Perm.cons X List.perm_middle.symm)
  have S2 := (row_pick hn S1).tl
  have S3 : St h0 h (F z :: X :: ((zs.take n ++ zs.drop (n + 1)).map F ++ l)) := S2.perm ((List.Perm.cons X List.perm_middle).trans (List.Perm.swap _ _ _))
  exact row_put hn S3
end

/-- One more thing behind a row. -/
theorem row_add {α : Type} {F : α → HP} {h0 h : Heap} {l : List HP} (R : List HP) {B : HP} {us : List α} {z : α} (S : St h0 h (F z :: (R ++ (B :: (us.map F ++ l))))) : St h0 h (R ++ (B :: ((us ++ [z]).map F ++ l))) := by
  refine S.perm ?_
  rw [List.map_append, List.append_assoc]
  exact List.perm_middle.symm.trans (List.Perm.append_left R ((List.Perm.swap _ _ _).trans (List.Perm.cons B List.perm_middle.symm)))
theorem St.dropL {h0 h : Heap} {l : List HP} : ∀ {ps : List HP}, St h0 h (ps ++ l) → St h0 h l
  | [], S => S
  | _ :: ps, S => St.dropL (ps := ps) S.tl
/-- What each thing in a row says. -/
theorem row_says {α : Type} {F : α → HP} {h0 h : Heap} {l : List HP} {zs : List α} (S : St h0 h (zs.map F ++ l)) : ∀ z ∈ zs, (F z).says h := by
  intro z hz
  obtain ⟨n, hn, rfl⟩ := List.getElem_of_mem hz
  have S1 := row_pick (X := empA) hn (St.emp.2 S)
  obtain ⟨B, hp, _⟩ := S1.hd
  exact ⟨B, hp⟩

/-- A slice's length and room. -/
theorem St.cap {α : Type} {enc : α → List Value} {sz T : Nat} {h0 h : Heap} {l : List HP} {A : Option Addr} {n c : Nat} {xs : List α} (S : St h0 h (ownA enc sz T (.slice A n c) xs :: l)) : n = xs.length ∧ n ≤ c ∧ c < 9223372036854775808 := by
  rcases S.own with ⟨hv, rfl⟩ | ⟨b, cap, cs, hv, _, hle, h63, _⟩
  · injection hv with e1 e2 e3
    subst e1 e2 e3
    simp
  · injection hv with e1 e2 e3
    subst e1 e2 e3
    exact ⟨rfl, hle, h63⟩

/-! Stores into a slice of the call's own. -/
section
variable {α : Type} {enc : α → List Value} {sz T : Nat} {h0 h : Heap} {l : List HP} {xs : List α}
theorem St.ownAt {A : Option Addr} {n c : Nat} (S : St h0 h (ownA enc sz T (.slice A n c) xs :: l)) (hne : 0 < xs.length) : ∃ b, A = some ⟨b, 0, none⟩ := by
  rcases S.own with ⟨_, rfl⟩ | ⟨b, cap, cs, hv, _⟩
  · simp at hne
  · injection hv with e1 e2 e3
    exact ⟨b, e1⟩
theorem splice_part (hsz : ∀ x, (enc x).length = sz) {i j : Nat} {vs cs : List Value} {x : α} (hi : i < xs.length) (hj : j + vs.length ≤ sz) (hx : enc x = splice (enc xs[i]) j vs) :
    splice (xs.flatMap enc ++ cs) (i * sz + j) vs = (xs.set i x).flatMap enc ++ cs := by
  have hlt : ((xs.take i).flatMap enc).length = i * sz := by rw [flat_length hsz, List.length_take, Nat.min_eq_left (by omega)]
  have h1 : xs.flatMap enc = (xs.take i).flatMap enc ++ (enc xs[i] ++ (xs.drop (i + 1)).flatMap enc) := by
    rw [flat_split enc xs i, List.drop_eq_getElem_cons hi, List.flatMap_cons]
  have he : enc xs[i] = (enc xs[i]).take j ++ (enc xs[i]).drop j := (List.take_append_drop _ _).symm
  have hjl : ((enc xs[i]).take j).length = j := by rw [List.length_take, hsz]; omega
  have hdl : ((enc xs[i]).drop j).length = sz - j := by rw [List.length_drop, hsz]
  have hx2 : enc x = (enc xs[i]).take j ++ vs ++ ((enc xs[i]).drop j).drop vs.length := by
    rw [hx]
    conv => lhs; rw [he]
    exact splice_append _ _ [] j hjl.symm vs (by omega)
  have e1 : xs.flatMap enc ++ cs = ((xs.take i).flatMap enc ++ (enc xs[i]).take j) ++ ((enc xs[i]).drop j ++ ((xs.drop (i + 1)).flatMap enc ++ cs)) := by
    rw [h1]
    conv => lhs; rw [he]
    simp only [List.append_assoc]
  rw [e1, splice_append _ _ [] (i * sz + j) (by rw [List.length_append, hlt, hjl]) vs (by rw [List.length_append]; omega), List.drop_append_of_le_length (by omega), List.set_eq_take_append_cons_drop, if_pos hi, List.flatMap_append, List.flatMap_cons, hx2]
  simp only [List.append_assoc]
theorem st_setPart (hsz : ∀ x, (enc x).length = sz) {b n c i j off m : Nat} {x : α} {vs : List Value} {K : Value → Heap → Prop} {s : Tag h} {t : Tag K} (S : St h0 h (ownA enc sz T (.slice (some ⟨b, 0, none⟩) n c) xs :: l))
    (hi : i < xs.length) (hoff : off = i * sz + j) (hj : j + vs.length ≤ sz) (hm : vs.length = m) (hpl : plainCells vs = true) (hx : enc x = splice (enc xs[i]) j vs)
    (hk : ∀ h', St h0 h' (ownA enc sz T (.slice (some ⟨b, 0, none⟩) n c) (xs.set i x) :: l) → K undef h') : storeT m (.pointer (some ⟨b, off, none⟩)) vs h K s t := by
  have ho := S.own
  rcases ho with ⟨hv, _⟩ | ⟨b', cap, cs, hv, _, hle, h63, hblk, hln⟩
  · cases hv
  injection hv with e1 e2 e3
  cases e1
  subst e2 e3
  have hfl := flat_length hsz xs
  have hroom : i * sz + sz ≤ xs.length * sz := by
    have := Nat.mul_le_mul_right sz (show i + 1 ≤ xs.length from hi)
    rwa [Nat.succ_mul] at this
  rw [storeT_eq, hblk]
  simp only [bind3]
  refine ⟨⟨hm, hpl, ?_⟩, ?_⟩
  · rw [room_00 (by rw [List.length_append, hfl]; omega)]
    trivial
  · rw [hoff, splice_part hsz hi hj hx]
    have hb := blk_lt hblk
    refine hk _ (S.ownUp ((Fr.refl _ _).set (.inl (by simp [blkOf])) _) ?_ (fun b hb => .inl hb))
    refine .inr ⟨b, c, cs, by rw [List.length_set], Nat.zero_le _, by rw [List.length_set]; exact hle, h63, blk_set_eq hb, ?_⟩
    rw [List.length_append, flat_length hsz, List.length_set, ← hfl, ← List.length_append]
    exact hln
theorem st_setOwn (hsz : ∀ x, (enc x).length = sz) {b n c i off m : Nat} {x : α} {vs : List Value} {K : Value → Heap → Prop} {s : Tag h} {t : Tag K} (S : St h0 h (ownA enc sz T (.slice (some ⟨b, 0, none⟩) n c) xs :: l))
    (hi : i < xs.length) (hoff : off = i * sz) (hvs : vs = enc x) (hm : sz = m) (hpl : plainCells vs = true)
    (hk : ∀ h', St h0 h' (ownA enc sz T (.slice (some ⟨b, 0, none⟩) n c) (xs.set i x) :: l) → K undef h') : storeT m (.pointer (some ⟨b, off, none⟩)) vs h K s t := by
  subst hvs
  refine st_setPart hsz (j := 0) S hi hoff (by rw [hsz]; omega) (by rw [hsz]; exact hm) hpl ?_ hk
  have := splice_append [] (enc xs[i]) [] 0 rfl (enc x) (by rw [hsz, hsz]; exact Nat.le_refl _)
  rw [List.nil_append, List.nil_append, List.drop_of_length_le (by rw [hsz, hsz]; exact Nat.le_refl _), List.append_nil] at this
  exact this.symm
end

/-! Lists in another order. -/
theorem pm0 { x : HP} {t M : List HP} (h : (t).Perm M) : (x :: t).Perm (x :: M) := (perm_pick [] x t).trans (List.Perm.cons x h)
theorem pm1 {a x : HP} {t M : List HP} (h : (a :: t).Perm M) : (a :: x :: t).Perm (x :: M) := (perm_pick [a] x t).trans (List.Perm.cons x h)
theorem pm2 {a b x : HP} {t M : List HP} (h : (a :: b :: t).Perm M) : (a :: b :: x :: t).Perm (x :: M) := (perm_pick [a, b] x t).trans (List.Perm.cons x h)
theorem pm3 {a b c x : HP} {t M : List HP} (h : (a :: b :: c :: t).Perm M) : (a :: b :: c :: x :: t).Perm (x :: M) := (perm_pick [a, b, c] x t).trans (List.Perm.cons x h)
theorem pm4 {a b c d x : HP} {t M : List HP} (h : (a :: b :: c :: d :: t).Perm M) : (a :: b :: c :: d :: x :: t).Perm (x :: M) := (perm_pick [a, b, c, d] x t).trans (List.Perm.cons x h)
theorem pm5 {a b c d e x : HP} {t M : List HP} (h : (a :: b :: c :: d :: e :: t).Perm M) : (a :: b :: c :: d :: e :: x :: t).Perm (x :: M) := (perm_pick [a, b, c, d, e] x t).trans (List.Perm.cons x h)
theorem pm6 {a b c d e f x : HP} {t M : List HP} (h : (a :: b :: c :: d :: e :: f :: t).Perm M) : (a :: b :: c :: d :: e :: f :: x :: t).Perm (x :: M) := (perm_pick [a, b, c, d, e, f] x t).trans (List.Perm.cons x h)
theorem pm7 {a b c d e f g x : HP} {t M : List HP} (h : (a :: b :: c :: d :: e :: f :: g :: t).Perm M) : (a :: b :: c :: d :: e :: f :: g :: x :: t).Perm (x :: M) := (perm_pick [a, b, c, d, e, f, g] x t).trans (List.Perm.cons x h)
theorem pm8 {a b c d e f g i x : HP} {t M : List HP} (h : (a :: b :: c :: d :: e :: f :: g :: i :: t).Perm M) : (a :: b :: c :: d :: e :: f :: g :: i :: x :: t).Perm (x :: M) := (perm_pick [a, b, c, d, e, f, g, i] x t).trans (List.Perm.cons x h)
theorem pm9 {a b c d e f g i j x : HP} {t M : List HP} (h : (a :: b :: c :: d :: e :: f :: g :: i :: j :: t).Perm M) : (a :: b :: c :: d :: e :: f :: g :: i :: j :: x :: t).Perm (x :: M) := (perm_pick [a, b, c, d, e, f, g, i, j] x t).trans (List.Perm.cons x h)
theorem pm10 {a b c d e f g i j k x : HP} {t M : List HP} (h : (a :: b :: c :: d :: e :: f :: g :: i :: j :: k :: t).Perm M) : (a :: b :: c :: d :: e :: f :: g :: i :: j :: k :: x :: t).Perm (x :: M) := (perm_pick [a, b, c, d, e, f, g, i, j, k] x t).trans (List.Perm.cons x h)
theorem pm11 {a b c d e f g i j k m x : HP} {t M : List HP} (h : (a :: b :: c :: d :: e :: f :: g :: i :: j :: k :: m :: t).Perm M) : (a :: b :: c :: d :: e :: f :: g :: i :: j :: k :: m :: x :: t).Perm (x :: M) := (perm_pick [a, b, c, d, e, f, g, i, j, k, m] x t).trans (List.Perm.cons x h)
theorem pm12 {a b c d e f g i j k m n x : HP} {t M : List HP} (h : (a :: b :: c :: d :: e :: f :: g :: i :: j :: k :: m :: n :: t).Perm M) : (a :: b :: c :: d :: e :: f :: g :: i :: j :: k :: m :: n :: x :: t).Perm (x :: M) := (perm_pick [a, b, c, d, e, f, g, i, j, k, m, n] x t).trans (List.Perm.cons x h)
/-- A block that was made for some values is a slice of the call's own. -/
theorem St.cellOwn {α : Type} {enc : α → List Value} {sz : Nat} (hsz : ∀ x, (enc x).length = sz) {h0 h : Heap} {l : List HP} {b T : Nat} {ys : List α} {cs : List Value} (S : St h0 h (cellA b cs T :: l)) (hc : cs = ys.flatMap enc) (hl : ys.length < 9223372036854775808) : St h0 h (ownA enc sz T (.slice (some ⟨b, 0, none⟩) ys.length ys.length) ys :: l) := by
  obtain ⟨B, ⟨hB, hb⟩, _, hup⟩ := S.hd
  subst hB
  refine hup _ _ [b] (Fr.refl _ _) ⟨rfl, .inr ⟨b, ys.length, [], rfl, Nat.zero_le _, Nat.le_refl _, hl, ?_, ?_⟩⟩ (fun b' hm => .inl hm)
  · rw [List.append_nil, hb, hc]
  · rw [List.append_nil, flat_length hsz]
end Go.Proofs.Ytnjjdpeglkiifaa.MX
