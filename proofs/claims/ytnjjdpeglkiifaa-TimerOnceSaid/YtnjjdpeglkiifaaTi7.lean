/- Timers, part 7: the plain law of what is set. -/
import Derived.Test.YtnjjdpeglkiifaaTi6
namespace Go.Proofs.Ytnjjdpeglkiifaa.MX
open Go Go.Proofs
set_option linter.unusedSimpArgs false
set_option linter.unusedVariables false
theorem insT_eq (W : List Tm) (x : Tm) : insT W x = (W.takeWhile fun y => decide (aheadT y x)) ++ x :: W.dropWhile fun y => decide (aheadT y x) := by
  have h1 : W.take (posT W x) = W.takeWhile fun y => decide (aheadT y x) := (List.prefix_iff_eq_take.1 (List.takeWhile_prefix _)).symm
  have h2 : W.drop (posT W x) = W.dropWhile fun y => decide (aheadT y x) := by
    have h3 : (W.takeWhile fun y => decide (aheadT y x)) ++ (W.dropWhile fun y => decide (aheadT y x)) = W := List.takeWhile_append_dropWhile
    conv => lhs; rw [← h3]
    unfold posT
    rw [h3]
    conv => lhs; arg 2; rw [← h3]
    rw [List.drop_left]
  unfold insT
  rw [h1, h2]
theorem take_ahead {W : List Tm} {x y : Tm} (hy : y ∈ W.takeWhile fun y => decide (aheadT y x)) : aheadT y x := by
  have := List.all_takeWhile (p := fun y => decide (aheadT y x)) (l := W)
  rw [List.all_eq_true] at this
  simpa using this y hy
theorem drop_not {W : List Tm} (hs : W.Pairwise aheadT) {x y : Tm} (hy : y ∈ W.dropWhile fun y => decide (aheadT y x)) : ¬ aheadT y x := by
  induction W with
  | nil => simp at hy
  | cons a W ih =>
    rw [List.dropWhile_cons] at hy
    by_cases ha : aheadT a x
    · rw [if_pos (by simpa using ha)] at hy
      exact ih (List.pairwise_cons.1 hs).2 hy
    · rw [if_neg (by simpa using ha)] at hy
      rcases List.mem_cons.1 hy with rfl | hy
      · exact ha
      · exact fun h => ha (aheadT_trans ((List.pairwise_cons.1 hs).1 y hy) h)
theorem ahead_total {x y : Tm} (h1 : ¬ aheadT y x) (h2 : y.num ≠ x.num) : aheadT x y := by
  unfold aheadT at *
  omega
theorem good_ins {W : List Tm} {x : Tm} (hg : GoodT W) (hx : ∀ y ∈ W, y.num ≠ x.num) : GoodT (insT W x) := by
  rw [insT_eq]
  have hsub1 : ∀ y ∈ W.takeWhile (fun y => decide (aheadT y x)), y ∈ W := fun y hy => (List.takeWhile_sublist _).subset hy
  have hsub2 : ∀ y ∈ W.dropWhile (fun y => decide (aheadT y x)), y ∈ W := fun y hy => (List.dropWhile_sublist _).subset hy
  have hW : (W.takeWhile fun y => decide (aheadT y x)) ++ (W.dropWhile fun y => decide (aheadT y x)) = W := List.takeWhile_append_dropWhile
  constructor
  · have h1 := hg.1
    rw [← hW, List.pairwise_append] at h1
    rw [List.pairwise_append, List.pairwise_cons]
    refine ⟨h1.1, ⟨fun y hy => ahead_total (drop_not hg.1 hy) (hx y (hsub2 y hy)), h1.2.1⟩, fun a ha b hb => ?_⟩
    rcases List.mem_cons.1 hb with rfl | hb
    · exact take_ahead ha
    · exact h1.2.2 a ha b hb
  · have h1 := hg.2
    rw [← hW, List.pairwise_append] at h1
    rw [List.pairwise_append, List.pairwise_cons]
    refine ⟨h1.1, ⟨fun y hy => (hx y (hsub2 y hy)).symm, h1.2.1⟩, fun a ha b hb => ?_⟩
    rcases List.mem_cons.1 hb with rfl | hb
    · exact hx a (hsub1 a ha)
    · exact h1.2.2 a ha b hb
theorem good_sub {L M : List Tm} (hg : GoodT L) (hs : M.Sublist L) : GoodT M := ⟨hg.1.sublist hs, hg.2.sublist hs⟩
theorem good_without {L : List Tm} (hg : GoodT L) (n : Int) : GoodT (without L n) := good_sub hg List.filter_sublist
theorem good_late {L : List Tm} (hg : GoodT L) (d : Int) : GoodT (lateT L d) := good_sub hg (List.dropWhile_sublist _)
theorem without_num {L : List Tm} {n : Int} {y : Tm} (hy : y ∈ without L n) : y ∈ L ∧ y.num ≠ n := by
  unfold without at hy
  rw [List.mem_filter] at hy
  exact ⟨hy.1, by simpa [isNum] using hy.2⟩
theorem good_set {L : List Tm} (hg : GoodT L) (n d : Int) : GoodT (setT L n d) := good_ins (good_without hg n) fun y hy => (without_num hy).2
theorem ins_len (W : List Tm) (x : Tm) : (insT W x).length = W.length + 1 := by
  rw [insT_eq]
  have hW : (W.takeWhile fun y => decide (aheadT y x)) ++ (W.dropWhile fun y => decide (aheadT y x)) = W := List.takeWhile_append_dropWhile
  have := congrArg List.length hW
  simp only [List.length_append, List.length_cons] at this ⊢
  omega
theorem without_len (L : List Tm) (n : Int) : (without L n).length ≤ L.length := List.length_filter_le _ _
theorem set_len (L : List Tm) (n d : Int) : (setT L n d).length ≤ L.length + 1 := by
  unfold setT
  rw [ins_len]
  have := without_len L n
  omega
theorem late_len (L : List Tm) (d : Int) : (lateT L d).length ≤ L.length := (List.dropWhile_sublist _).length_le
theorem ins_mem {W : List Tm} {x y : Tm} : y ∈ insT W x ↔ y = x ∨ y ∈ W := by
  rw [insT_eq]
  have hW : (W.takeWhile fun y => decide (aheadT y x)) ++ (W.dropWhile fun y => decide (aheadT y x)) = W := List.takeWhile_append_dropWhile
  conv => rhs; rw [← hW]
  simp only [List.mem_append, List.mem_cons]
  constructor
  · rintro (h | h | h)
    · exact .inr (.inl h)
    · exact .inl h
    · exact .inr (.inr h)
  · rintro (h | h | h)
    · exact .inr (.inl h)
    · exact .inl h
    · exact .inr (.inr h)
/-- All timers of a list, set one behind the other. -/
def setsT (l : List Tm) : List Tm := l.foldl (fun L x => setT L x.num x.day) []
theorem sets_snoc (l : List Tm) (x : Tm) : setsT (l ++ [x]) = setT (setsT l) x.num x.day := by simp [setsT]
theorem snoc_ind {α : Type} {P : List α → Prop} (h0 : P []) (h1 : ∀ l x, P l → P (l ++ [x])) (l : List α) : P l := by
  have : ∀ n (l : List α), l.length = n → P l := by
    intro n
    induction n with
    | zero => intro l hl; rw [List.eq_nil_of_length_eq_zero hl]; exact h0
    | succ n ih =>
      intro l hl
      have hne : l ≠ [] := by intro e; simp [e] at hl
      rw [← List.dropLast_concat_getLast hne]
      exact h1 _ _ (ih _ (by rw [List.length_dropLast]; omega))
  exact this _ l rfl
theorem sets_good (l : List Tm) : GoodT (setsT l) := snoc_ind (P := fun l => GoodT (setsT l)) good_nil (fun l x h => by rw [sets_snoc]; exact good_set h _ _) l
theorem sets_len (l : List Tm) : (setsT l).length ≤ l.length := snoc_ind (P := fun l => (setsT l).length ≤ l.length) (by simp [setsT]) (fun l x h => by
  rw [sets_snoc, List.length_append]
  have := set_len (setsT l) x.num x.day
  simp only [List.length_cons, List.length_nil]
  omega) l
end Go.Proofs.Ytnjjdpeglkiifaa.MX
