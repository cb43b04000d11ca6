/- The engine, part V: things in a row; lists of things in another order. -/
import Derived.Test.YtackopkhelochaaMXT
namespace Go.Proofs.Ytackopkhelochaa.MX
open Go
set_option linter.unusedSimpArgs false
set_option linter.unusedVariables false

section
variable {α : Type} {F : α → HP} {h0 h : Heap} {l : List HP} {X : HP} {zs : List α} {n : Nat}
/-- Of things in a row: one taken out; and put back, or another one for it. -/
theorem row_pick (hn : n < zs.length) (S : St h0 h (X :: (zs.map F ++ l))) : St h0 h (F zs[n] :: X :: ((zs.take n ++ zs.drop (n + 1)).map F ++ l)) := by
  refine S.perm ?_
  have e : zs = zs.take n ++ zs[n] :: zs.drop (n + 1) := by rw [← List.drop_eq_getElem_cons hn, List.take_append_drop]
  conv => lhs; rw [e]
  rw [List.map_append, List.map_append, List.map_cons, List.append_assoc, List.append_assoc, List.cons_append]
  exact (List.Perm.cons X List.perm_middle).trans (List.Perm.swap _ _ _)
theorem row_put {z : α} (hn : n < zs.length) (S : St h0 h (F z :: X :: ((zs.take n ++ zs.drop (n + 1)).map F ++ l))) : St h0 h (X :: ((zs.set n z).map F ++ l)) := by
  refine S.perm ?_
  rw [List.set_eq_take_append_cons_drop, if_pos hn, List.map_append, List.map_append, List.map_cons, List.append_assoc, List.append_assoc, List.cons_append]
  exact (List.Perm.swap _ _ _).trans (List.Perm.cons X List.perm_middle.symm)
/-- A thing in a row, and another one for it that stands beside. -/
theorem row_swap {z : α} (hn : n < zs.length) (S : St h0 h (X :: F z :: (zs.map F ++ l))) : St h0 h (X :: ((zs.set n z).map F ++ l)) := by
  have S1 : St h0 h (X :: (zs.map F ++ (F z :: l))) := S.perm (List.Perm.cons X List.perm_middle.symm)
  have S2 := (row_pick hn S1).tl
  have S3 : St h0 h (F z :: X :: ((zs.take n ++ zs.drop (n + 1)).map F ++ l)) := S2.perm ((List.Perm.cons X List.perm_middle).trans (List.Perm.swap _ _ _))
  exact row_put hn S3
end

/-- One more thing behind a row. -/
theorem row_add {α : Type} {F : α → HP} {h0 h : Heap} {l : List HP} (R : List HP) {B : HP} {us : List α} {z : α} (S : St h0 h (F z :: (R ++ (B :: (us.map F ++ l))))) : St h0 h (R ++ (B :: ((us ++ [z]).map F ++ l))) := by
  refine S.perm ?_
  rw [List.map_append, List.append_assoc]
  exact List.perm_middle.symm.trans (List.Perm.append_left R ((List.Perm.swap _ _ _).trans (List.Perm.cons B List.perm_middle.symm)))
theorem St.dropL {h0 h : Heap} {l : List HP} : ∀ {ps : List HP}, St h0 h (ps ++ l) → St h0 h l
  | [], S => S
  | _ :: ps, S => St.dropL (ps := ps) S.tl
/-- What each thing in a row says. -/
theorem row_says {α : Type} {F : α → HP} {h0 h : Heap} {l : List HP} {zs : List α} (S : St h0 h (zs.map F ++ l)) : ∀ z ∈ zs, (F z).says h := by
  intro z hz
  obtain ⟨n, hn, rfl⟩ := List.getElem_of_mem hz
  have S1 := row_pick (X := empA) hn (St.emp.2 S)
  obtain ⟨B, hp, _⟩ := S1.hd
  exact ⟨B, hp⟩

/-- A slice's length and room. -/
theorem St.cap {α : Type} {enc : α → List Value} {sz T : Nat} {h0 h : Heap} {l : List HP} {A : Option Addr} {n c : Nat} {xs : List α} (S : St h0 h (ownA enc sz T (.slice A n c) xs :: l)) : n = xs.length ∧ n ≤ c ∧ c < 9223372036854775808 := by
  rcases S.own with ⟨hv, rfl⟩ | ⟨b, cap, cs, hv, _, hle, h63, _⟩
  · injection hv with e1 e2 e3
    subst e1 e2 e3
    simp
  · injection hv with e1 e2 e3
    subst e1 e2 e3
    exact ⟨rfl, hle, h63⟩

/-! Lists in another order. -/
theorem pm0 { x : HP} {t M : List HP} (h : (t).Perm M) : (x :: t).Perm (x :: M) := (perm_pick [] x t).trans (List.Perm.cons x h)
theorem pm1 {a x : HP} {t M : List HP} (h : (a :: t).Perm M) : (a :: x :: t).Perm (x :: M) := (perm_pick [a] x t).trans (List.Perm.cons x h)
theorem pm2 {a b x : HP} {t M : List HP} (h : (a :: b :: t).Perm M) : (a :: b :: x :: t).Perm (x :: M) := (perm_pick [a, b] x t).trans (List.Perm.cons x h)
theorem pm3 {a b c x : HP} {t M : List HP} (h : (a :: b :: c :: t).Perm M) : (a :: b :: c :: x :: t).Perm (x :: M) := (perm_pick [a, b, c] x t).trans (List.Perm.cons x h)
theorem pm4 {a b c d x : HP} {t M : List HP} (h : (a :: b :: c :: d :: t).Perm M) : (a :: b :: c :: d :: x :: t).Perm (x :: M) := (perm_pick [a, b, c, d] x t).trans (List.Perm.cons x h)
theorem pm5 {a b c d e x : HP} {t M : List HP} (h : (a :: b :: c :: d :: e :: t).Perm M) : (a :: b :: c :: d :: e :: x :: t).Perm (x :: M) := (perm_pick [a, b, c, d, e] x t).trans (List.Perm.cons x h)
theorem pm6 {a b c d e f x : HP} {t M : List HP} (h : (a :: b :: c :: d :: e :: f :: t).Perm M) : (a :: b :: c :: d :: e :: f :: x :: t).Perm (x :: M) := (perm_pick [a, b, c, d, e, f] x t).trans (List.Perm.cons x h)
theorem pm7 {a b c d e f g x : HP} {t M : List HP} (h : (a :: b :: c :: d :: e :: f :: g :: t).Perm M) : (a :: b :: c :: d :: e :: f :: g :: x :: t).Perm (x :: M) := (perm_pick [a, b, c, d, e, f, g] x t).trans (List.Perm.cons x h)
theorem pm8 {a b c d e f g i x : HP} {t M : List HP} (h : (a :: b :: c :: d :: e :: f :: g :: i :: t).Perm M) : (a :: b :: c :: d :: e :: f :: g :: i :: x :: t).Perm (x :: M) := (perm_pick [a, b, c, d, e, f, g, i] x t).trans (List.Perm.cons x h)
theorem pm9 {a b c d e f g i j x : HP} {t M : List HP} (h : (a :: b :: c :: d :: e :: f :: g :: i :: j :: t).Perm M) : (a :: b :: c :: d :: e :: f :: g :: i :: j :: x :: t).Perm (x :: M) := (perm_pick [a, b, c, d, e, f, g, i, j] x t).trans (List.Perm.cons x h)
theorem pm10 {a b c d e f g i j k x : HP} {t M : List HP} (h : (a :: b :: c :: d :: e :: f :: g :: i :: j :: k :: t).Perm M) : (a :: b :: c :: d :: e :: f :: g :: i :: j :: k :: x :: t).Perm (x :: M) := (perm_pick [a, b, c, d, e, f, g, i, j, k] x t).trans (List.Perm.cons x h)
theorem pm11 {a b c d e f g i j k m x : HP} {t M : List HP} (h : (a :: b :: c :: d :: e :: f :: g :: i :: j :: k :: m :: t).Perm M) : (a :: b :: c :: d :: e :: f :: g :: i :: j :: k :: m :: x :: t).Perm (x :: M) := (perm_pick [a, b, c, d, e, f, g, i, j, k, m] x t).trans (List.Perm.cons x h)
theorem pm12 {a b c d e f g i j k m n x : HP} {t M : List HP} (h : (a :: b :: c :: d :: e :: f :: g :: i :: j :: k :: m :: n :: t).Perm M) : (a :: b :: c :: d :: e :: f :: g :: i :: j :: k :: m :: n :: x :: t).Perm (x :: M) := (perm_pick [a, b, c, d, e, f, g, i, j, k, m, n] x t).trans (List.Perm.cons x h)
end Go.Proofs.Ytackopkhelochaa.MX
