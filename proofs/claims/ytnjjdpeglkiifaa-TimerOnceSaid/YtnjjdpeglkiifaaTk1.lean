/- Timers: the plain law of TimerOnce. -/
import Derived.Test.YtnjjdpeglkiifaaTi9
namespace Go.Proofs.Ytnjjdpeglkiifaa.MX
open Go Go.Proofs
set_option linter.unusedSimpArgs false
set_option linter.unusedVariables false
/-- A number's last day. -/
def lastO (l : List Tm) (n : Int) : Option Int := l.foldl (fun o x => if x.num = n then some x.day else o) none
theorem lastO_snoc (l : List Tm) (x : Tm) (n : Int) : lastO (l ++ [x]) n = if x.num = n then some x.day else lastO l n := by simp [lastO]
theorem find_mem {L : List Tm} (hg : L.Pairwise (fun a b => a.num ≠ b.num)) {x : Tm} (hx : x ∈ L) : L.find? (isNum x.num) = some x := by
  obtain ⟨i, hi, rfl⟩ := List.mem_iff_getElem.1 hx
  exact find_own hg hi
theorem find_none {L : List Tm} {n : Int} (h : ∀ x ∈ L, x.num ≠ n) : L.find? (isNum n) = none := find_no fun x hx => by simpa [isNum] using h x hx
theorem find_some_mem {L : List Tm} {n : Int} {x : Tm} (h : L.find? (isNum n) = some x) : x ∈ L ∧ x.num = n := by
  have h1 := List.mem_of_find?_eq_some h
  have h2 := List.find?_some h
  exact ⟨h1, by simpa [isNum] using h2⟩
theorem find_set {L : List Tm} (hg : GoodT L) (m d n : Int) : (setT L m d).find? (isNum n) = if m = n then some ⟨d, m⟩ else L.find? (isNum n) := by
  have hgs := good_set hg m d
  by_cases hm : m = n
  · subst hm
    rw [if_pos rfl]
    exact find_mem (x := ⟨d, m⟩) hgs.2 (ins_mem.2 (.inl rfl))
  · rw [if_neg hm]
    cases hf : L.find? (isNum n) with
    | none =>
      refine find_none fun x hx => ?_
      rcases ins_mem.1 hx with rfl | hx
      · exact hm
      · have := (without_num hx).1
        rw [List.find?_eq_none] at hf
        simpa [isNum] using hf x this
    | some x =>
      obtain ⟨hx, rfl⟩ := find_some_mem hf
      refine find_mem hgs.2 (ins_mem.2 (.inr ?_))
      unfold without
      rw [List.mem_filter]
      exact ⟨hx, by simp [isNum]; exact fun e => hm e.symm⟩
theorem sets_find (l : List Tm) (n : Int) : (setsT l).find? (isNum n) = (lastO l n).map fun d => ⟨d, n⟩ :=
  snoc_ind (P := fun l => (setsT l).find? (isNum n) = (lastO l n).map fun d => ⟨d, n⟩) rfl (fun l x h => by
    rw [sets_snoc, find_set (sets_good l), lastO_snoc, h]
    by_cases e : x.num = n
    · rw [if_pos e, if_pos e, ← e]; rfl
    · rw [if_neg e, if_neg e]) l
/-- The last day, as it is looked for. -/
def lastF (l : List Tm) (n d : Int) : Int := l.foldl (fun o x => if x.num = n then x.day else o) d
theorem lastF_snoc (l : List Tm) (x : Tm) (n d : Int) : lastF (l ++ [x]) n d = if x.num = n then x.day else lastF l n d := by simp [lastF]
theorem lastF_eq (l : List Tm) (n d : Int) : lastF l n d = (lastO l n).getD d :=
  snoc_ind (P := fun l => lastF l n d = (lastO l n).getD d) rfl (fun l x h => by
    rw [lastF_snoc, lastO_snoc, h]
    split <;> rfl) l
theorem lastO_mem {l : List Tm} {x : Tm} (hx : x ∈ l) : ∃ d, lastO l x.num = some d :=
  snoc_ind (P := fun l => x ∈ l → ∃ d, lastO l x.num = some d) (fun h => by simp at h) (fun l y h hx => by
    rw [lastO_snoc]
    by_cases e : y.num = x.num
    · exact ⟨_, if_pos e⟩
    · rw [if_neg e]
      rcases List.mem_append.1 hx with hx | hx
      · exact h hx
      · simp only [List.mem_singleton] at hx
        exact absurd (by rw [hx]) e) l hx
/-- What is due on a later day: what was, and what is of what is left. -/
theorem due_more {L : List Tm} {a b : Int} (hab : a ≤ b) : dueT L b = dueT L a ++ dueT (lateT L a) b ∧ lateT L b = lateT (lateT L a) b := by
  induction L with
  | nil => simp [dueT, lateT]
  | cons x L ih =>
    by_cases h1 : x.day ≤ a
    · have h2 : x.day ≤ b := by omega
      have e1 : dueT (x :: L) b = x :: dueT L b := by simp [dueT, List.takeWhile_cons, h2]
      have e2 : dueT (x :: L) a = x :: dueT L a := by simp [dueT, List.takeWhile_cons, h1]
      have e3 : lateT (x :: L) b = lateT L b := by simp [lateT, List.dropWhile_cons, h2]
      have e4 : lateT (x :: L) a = lateT L a := by simp [lateT, List.dropWhile_cons, h1]
      rw [e1, e2, e3, e4, ih.1, ih.2]
      exact ⟨rfl, rfl⟩
    · have e2 : dueT (x :: L) a = [] := by simp [dueT, List.takeWhile_cons, h1]
      have e4 : lateT (x :: L) a = x :: L := by simp [lateT, List.dropWhile_cons, h1]
      rw [e2, e4]
      exact ⟨rfl, rfl⟩
theorem due_app (L : List Tm) (d : Int) : dueT L d ++ lateT L d = L := List.takeWhile_append_dropWhile
theorem due_le {L : List Tm} {d : Int} {x : Tm} (hx : x ∈ dueT L d) : x.day ≤ d := by
  have := List.all_takeWhile (p := fun x : Tm => decide (x.day ≤ d)) (l := L)
  rw [List.all_eq_true] at this
  simpa using this x hx
theorem late_gt {L : List Tm} (hs : L.Pairwise aheadT) {d : Int} {x : Tm} (hx : x ∈ lateT L d) : d < x.day := by
  induction L with
  | nil => simp [lateT] at hx
  | cons a L ih =>
    unfold lateT at hx
    rw [List.dropWhile_cons] at hx
    by_cases ha : a.day ≤ d
    · rw [if_pos (by simpa using ha)] at hx
      exact ih (List.pairwise_cons.1 hs).2 hx
    · rw [if_neg (by simpa using ha)] at hx
      rcases List.mem_cons.1 hx with rfl | hx
      · omega
      · have := (List.pairwise_cons.1 hs).1 x hx
        unfold aheadT at this
        omega
/-- What was told and what is left: each of a list's numbers is in one of them, by its last day. -/
theorem once_law {l P M : List Tm} (hPM : setsT l = P ++ M) {now : Int} {any : Bool} (h1 : any = true → P = dueT (setsT l) now) (h0 : any = false → P = []) {x : Tm} (hx : x ∈ l) :
    ((x.num ∈ P.map Tm.num) ↔ (any = true ∧ (lastO l x.num).getD x.day ≤ now)) ∧ ((M.find? (isNum x.num)).isSome = true ↔ ¬ x.num ∈ P.map Tm.num) := by
  obtain ⟨d, hd⟩ := lastO_mem hx
  have hf := sets_find l x.num
  rw [hd] at hf
  obtain ⟨hm, _⟩ := find_some_mem hf
  have hg := sets_good l
  have huniq : ∀ y ∈ setsT l, y.num = x.num → y = ⟨d, x.num⟩ := fun y hy e => by
    have := find_mem hg.2 hy
    rw [e, hf] at this
    exact (Option.some.inj this).symm
  have hP : x.num ∈ P.map Tm.num ↔ (⟨d, x.num⟩ : Tm) ∈ P := by
    rw [List.mem_map]
    constructor
    · rintro ⟨y, hy, e⟩
      rw [← huniq y (by rw [hPM]; exact List.mem_append_left _ hy) e]
      exact hy
    · exact fun h => ⟨_, h, rfl⟩
  have hdis : (⟨d, x.num⟩ : Tm) ∈ P → (⟨d, x.num⟩ : Tm) ∈ M → False := fun h1 h2 => by
    have := hg.2
    rw [hPM, List.pairwise_append] at this
    exact this.2.2 _ h1 _ h2 rfl
  have hM : (M.find? (isNum x.num)).isSome = true ↔ (⟨d, x.num⟩ : Tm) ∈ M := by
    constructor
    · intro h
      obtain ⟨y, hy⟩ := Option.isSome_iff_exists.1 h
      obtain ⟨hy1, hy2⟩ := find_some_mem hy
      rw [← huniq y (by rw [hPM]; exact List.mem_append_right _ hy1) hy2]
      exact hy1
    · intro h
      have hgM := hg.2
      rw [hPM, List.pairwise_append] at hgM
      rw [find_mem (x := ⟨d, x.num⟩) hgM.2.1 h]
      rfl
  rw [hP, hM, hd]
  constructor
  · constructor
    · intro h
      cases hany : any with
      | false => rw [h0 hany] at h; simp at h
      | true =>
        rw [h1 hany] at h
        exact ⟨rfl, due_le h⟩
    · rintro ⟨ha, hle⟩
      simp only [Option.getD_some] at hle
      rw [h1 ha]
      rw [← due_app (setsT l) now] at hm
      rcases List.mem_append.1 hm with h | h
      · exact h
      · have := late_gt hg.1 h
        simp only at this
        omega
  · constructor
    · exact fun h h' => hdis h' h
    · intro h
      rw [hPM] at hm
      rcases List.mem_append.1 hm with h' | h'
      · exact absurd h' h
      · exact h'
end Go.Proofs.Ytnjjdpeglkiifaa.MX
