/- Timers: TimerPlays. -/
import Derived.Test.YtnjjdpeglkiifaaTi9
namespace Go.Proofs.Ytnjjdpeglkiifaa.MX
open Go Go.Proofs
set_option linter.unusedSimpArgs false
set_option linter.unusedVariables false
set_option maxHeartbeats 8000000
section
variable {h0 h : Heap} {l : List HP}
theorem St.ownE {g T sz : Nat} {α : Type} {enc : α → List Value} (S : St h0 h (cellA g [] T :: l)) : St h0 h (ownA enc sz T (.slice (some ⟨g, 0, none⟩) 0 0) [] :: l) := by
  obtain ⟨B, hp, _, hk⟩ := S.hd
  obtain ⟨rfl, hb⟩ := hp
  exact hk h _ [g] (Fr.refl _ _) ⟨rfl, .inr ⟨g, 0, [], rfl, Nat.zero_le _, Nat.le_refl _, by decide, by simpa using hb, by simp⟩⟩ (fun b hm => .inl hm)
theorem Due_len {L : List Tm} {d : Int} : ∀ (k : Nat), (∀ j (hj : j < L.length), j < k → L[j].day ≤ d) → (∀ (hk : k < L.length), ¬ L[k].day ≤ d) → k ≤ L.length → dueT L d = L.take k ∧ lateT L d = L.drop k := by
  intro k
  induction L generalizing k with
  | nil => intro _ _ _; simp [dueT, lateT]
  | cons x L ih =>
    intro h1 h2 hk
    cases k with
    | zero =>
      have := h2 (by simp)
      simp only [List.getElem_cons_zero] at this
      simp [dueT, lateT, List.takeWhile_cons, List.dropWhile_cons, this]
    | succ k =>
      have hx := h1 0 (by simp) (by omega)
      simp only [List.getElem_cons_zero] at hx
      obtain ⟨e1, e2⟩ := ih k (fun j hj hjk => h1 (j + 1) (by simpa using hj) (by omega)) (fun hk => h2 (by simpa using hk)) (by simpa using hk)
      simp only [dueT, lateT, List.takeWhile_cons, List.dropWhile_cons] at e1 e2 ⊢
      simp [hx, e1, e2]
theorem OwnO.dropK {α : Type} {enc : α → List Value} {sz T : Nat} {h : Heap} (hsz : ∀ x, (enc x).length = sz) {xs : List α} {A : Option Addr} {n c : Nat} (ho : OwnO enc sz T h (.slice A n c) xs) {k : Nat} (hk : k ≤ xs.length) :
    ∃ A' c', cutV A sz k n c c = some (.slice A' (xs.drop k).length c') ∧ OwnO enc sz T h (.slice A' (xs.drop k).length c') (xs.drop k) ∧ blkOf (.slice A' (xs.drop k).length c') = blkOf (.slice A n c) := by
  rcases ho with ⟨hv, rfl⟩ | ⟨b, cap, pre, cs, post, hv, h1, h2, hb, h4⟩
  · injection hv with e1 e2 e3
    subst e1 e2 e3
    obtain rfl : k = 0 := by simpa using hk
    exact ⟨none, 0, rfl, .inl ⟨rfl, rfl⟩, rfl⟩
  injection hv with e1 e2 e3
  subst e1 e2 e3
  have hkl : ((xs.take k).flatMap enc).length = k * sz := by rw [flat_length hsz, List.length_take, Nat.min_eq_left hk]
  unfold cutV
  rw [if_pos ⟨by omega, by omega, by omega, by omega⟩, List.length_drop, show ((xs.length : Int) - k).toNat = xs.length - k by omega]
  rw [flat_split enc xs k, List.append_assoc, List.append_assoc, ← List.append_assoc pre] at hb
  rw [flat_split enc xs k, List.append_assoc, List.length_append, hkl] at h4
  by_cases e : (c : Int) = k
  · rw [if_pos e]
    obtain rfl : c = k := by omega
    have hx : xs.drop c = [] := List.drop_eq_nil_of_le (by omega)
    have hl0 : xs.length - c = 0 := by omega
    rw [hx, hl0]
    refine ⟨_, 0, by rw [show ((c : Int) - c).toNat = 0 by omega], .inr ⟨b, 0, pre, [], (xs.take c).flatMap enc ++ ((xs.drop c).flatMap enc ++ (cs ++ post)), rfl, Nat.le_refl _, by decide, ?_, by simp⟩, rfl⟩
    rw [hb]
    simp
  · rw [if_neg e, Option.map_some, add_none, show ((k : Int).toNat * sz) = k * sz by simp]
    refine ⟨_, c - k, by rw [show ((c : Int) - k).toNat = c - k by omega], .inr ⟨b, c - k, pre ++ (xs.take k).flatMap enc, cs, post, ?_, ?_, by omega, ?_, ?_⟩, rfl⟩
    · rw [List.length_append, hkl, List.length_drop]
    · rw [List.length_drop]; omega
    · rw [hb, List.append_assoc ((xs.drop k).flatMap enc)]
    · rw [Nat.sub_mul]
      omega
theorem due_get {L : List Tm} {d : Int} : ∀ (k : Nat) (hk : k < L.length), (∀ j (hj : j < L.length), j ≤ k → L[j].day ≤ d) → ∃ h : k < ((dueT L d).map Tm.num).length, ((dueT L d).map Tm.num)[k] = L[k].num := by
  induction L with
  | nil => intro k hk; simp at hk
  | cons x L ih =>
    intro k hk h
    have hx := h 0 (by simp) (by omega)
    simp only [List.getElem_cons_zero] at hx
    have e : dueT (x :: L) d = x :: dueT L d := by simp [dueT, List.takeWhile_cons, hx]
    cases k with
    | zero => exact ⟨by rw [e]; simp, by simp [e]⟩
    | succ k =>
      obtain ⟨h1, h2⟩ := ih k (by simpa using hk) (fun j hj hjk => h (j + 1) (by simpa using hj) (by omega))
      exact ⟨by rw [e]; simpa using h1, by simpa [e] using h2⟩
theorem find_len (L : List Tm) (n : Int) : (L.find? (isNum n)).isSome = dcd (((without L n).length : Int) < L.length) := by
  rcases idxOf_spec (isNum n) L 0 with ⟨_, h2⟩ | ⟨i, _, hi, h3, h4⟩
  · rw [find_no h2, without_no h2, dcd_false (by omega)]; rfl
  · have hp := h4 _ (List.getElem?_eq_getElem hi)
    rw [find_at hi h3 hp, dcd_true]; rfl
    have : (without L n).length < L.length := by
      unfold without
      rw [List.length_filter_lt_length_iff_exists]
      exact ⟨L[i], List.getElem_mem hi, by simp [hp]⟩
    omega
theorem St.two {a b : HP} (S : St h0 h (a :: b :: l)) : St h0 h [a, b] := St.dropL (ps := l) (S.perm (by simpa using (List.perm_append_comm (l₁ := [a, b]) (l₂ := l))))
theorem St.two3 {a b d : HP} (S : St h0 h (a :: b :: d :: l)) : St h0 h [a, b, d] := St.dropL (ps := l) (S.perm (by simpa using (List.perm_append_comm (l₁ := [a, b, d]) (l₂ := l))))
theorem draw_join {P : Program} {Q : MExit → Env → Heap → Prop} {ρ : Env} {h0 h : Heap} {L : List HP} {l : List MOper} {s : Sch} {t1 : Tag l} {t2 : Tag s} {t3 : Tag Q} {t4 : Tag ρ} {t5 : Tag h} (S : St h0 h L) (I : Env → Heap → Prop)
    (hw : ∀ J : Env → Heap → Prop, (∀ ρ h, I ρ h → J ρ h) → schT P (fun h' => St h0 h' L) l J s ρ h) (hT : ∀ ρ h, I ρ h → Q .normal ρ h) : drawT P l s Q ρ h t1 t2 t3 t4 t5 := ⟨_, S, hw _ hT⟩
theorem cut_src {α : Type} {enc : α → List Value} {sz : Nat} {h : Heap} (hsz : ∀ x, (enc x).length = sz) {xs : List α} {A : Option Addr} {c : Nat} (ha : Arr enc sz h A xs) (hc : xs.length ≤ c) {k : Nat} (hk : k ≤ xs.length) :
    ∃ A' c', cutV A sz k xs.length c c = some (.slice A' (xs.drop k).length c') ∧ ∀ h', Arr enc sz h' A xs → srcCells h' sz (xs.drop k).length (.slice A' (xs.drop k).length c') = some ((xs.drop k).flatMap enc) := by
  unfold cutV
  rw [if_pos ⟨by omega, by omega, by omega, by omega⟩, List.length_drop, show ((xs.length : Int) - k).toNat = xs.length - k by omega]
  by_cases hx : xs.length = k
  · refine ⟨_, _, rfl, fun h' _ => ?_⟩
    rw [List.drop_eq_nil_of_le (by omega), show xs.length - k = 0 by omega]
    generalize (if (c : Int) = k then A else A.map _) = A'
    cases A' <;> simp [srcCells]
  · obtain ⟨b, off, rfl, _⟩ := ha k (by omega)
    rw [if_neg (by omega), Option.map_some, add_none, show ((k : Int).toNat * sz) = k * sz by simp]
    refine ⟨_, _, rfl, fun h' ha' => ?_⟩
    have := src_arr (n := xs.length - k) (c := ((c : Int) - k).toNat) hsz (arr_dropG ha' k) (by rw [List.length_drop])
    rwa [List.length_drop] at this
theorem TimerPlays_ok (A : Option Addr) (c : Nat) (s : List TA) (h0 : Heap) (ha : Arr TA.enc 3 h0 A s) (_ : s.length ≤ c) (_ : c ≤ maxLen) (_ : ∀ x ∈ s, x.ok) :
    CallsH Try.prog 4 [.slice A s.length c] h0 fun v h' => v = .bool true ∧ Fr h0 h' [] := by
  have S := St.nil h0
  by_cases h1 : s.length ≤ 100
  case neg =>
    (refine enterK c_recouplaw12_TimerPlays (Nat.le_of_ble_eq_true rfl) fun K hK => ?_; (try simp (maxSteps := 1000000) (disch := first | omega | assumption | exact Nat.le_of_ble_eq_true rfl) only [go_sem, ↓mwp_block, simprocAttr, ir_recouplaw12_TimerPlays]))
    refine call_intro (awake12_ok _) ?_
    rintro _ h ⟨rfl, f1⟩
    (try simp (maxSteps := 1000000) (disch := first | omega | assumption | exact Nat.le_of_ble_eq_true rfl) only [go_sem, ↓mwp_block, simprocAttr])
    refine call_intro (awake12_ok _) ?_
    rintro _ h' ⟨rfl, f2⟩
    (try simp (maxSteps := 1000000) (disch := first | omega | assumption | exact Nat.le_of_ble_eq_true rfl) only [go_sem, ↓mwp_block, simprocAttr])
    exact hK _ _ ⟨rfl, f1.trans f2⟩
  (refine enterK c_recouplaw12_TimerPlays (Nat.le_of_ble_eq_true rfl) fun K hK => ?_; (try simp (maxSteps := 1000000) (disch := first | omega | assumption | exact Nat.le_of_ble_eq_true rfl) only [go_sem, ↓mwp_block, simprocAttr, ir_recouplaw12_TimerPlays]))
  refine call_intro (awake12_ok _) ?_
  rintro _ h ⟨rfl, f1⟩
  have S := S.frame f1
  (try simp (maxSteps := 1000000) (disch := first | omega | assumption | exact Nat.le_of_ble_eq_true rfl) only [go_sem, ↓mwp_block, simprocAttr])
  (refine st_alloc S ?_; clear S; intro t h S; (try simp only [splice_cons, splice_nil, List.set_cons_zero, List.set_cons_succ, Nat.zero_add, Nat.reduceAdd, List.cons_append, List.nil_append] at S); ((try clear F); have F := S.all; (try simp only [all_cons, all_nil, says_cell, and_true] at F)))
  have S := (tim_new S).nilO (enc := tmE) (sz := 2) (T := 30)
  clear F
  (try simp (maxSteps := 1000000) (disch := first | omega | assumption | exact Nat.le_of_ble_eq_true rfl) only [go_sem, ↓mwp_block, simprocAttr])
  refine loop_intro (fun ρ h' => ρ 0 = .slice A s.length c ∧ ρ 3 = .pointer (some ⟨t, 0, none⟩) ∧ ρ 23 = .int .i64 s.length ∧ ∃ (i : Nat) (L : List Tm) (Aw : Option Addr) (cw : Nat), ρ 24 = .int .i64 i ∧ ρ 4 = .slice Aw L.length cw ∧ i ≤ s.length ∧ GoodT L ∧ L.length ≤ i ∧ St h0 h' [offA tmE 2 30 (.slice Aw L.length cw) L, timA t L]) (fun ρ _ => s.length - (iv (ρ 24)).toNat) ?_ ?_
  · (try simp (maxSteps := 1000000) (disch := first | omega | assumption | exact Nat.le_of_ble_eq_true rfl) only [go_sem, ↓mwp_block, simprocAttr])
    exact ⟨0, [], none, 0, rfl, rfl, by omega, good_nil, by simp, S⟩
  · clear S
    rintro ρ h J hJ ⟨e0, e3, e23, i, L, Aw, cw, e24, e4, hi, hg, hlL, S⟩
    (try simp (maxSteps := 1000000) (disch := first | omega | assumption | exact Nat.le_of_ble_eq_true rfl) only [go_sem, ↓mwp_block, simprocAttr, e23, e24])
    refine cond_dec (fun hlt => ?_) (fun hlt => ?_)
    · have his : i < s.length := by omega
      obtain ⟨b, off, rfl, hr⟩ := arr1 ha his
      have hr := hr h ⟨_, S⟩
      simp only [TA.enc] at hr
      have hJ2 : ∀ {ρ' : Env} {h' : Heap} (L' : List Tm) (Aw' : Option Addr) (cw' : Nat), ρ' 0 = ρ 0 → ρ' 3 = ρ 3 → ρ' 23 = ρ 23 → ρ' 24 = .int .i64 ((i : Int) + 1) → ρ' 4 = .slice Aw' L'.length cw' → GoodT L' → L'.length ≤ i + 1 → St h0 h' [offA tmE 2 30 (.slice Aw' L'.length cw') L', timA t L'] → J ρ' h' := by
        intro ρ' h' L' Aw' cw' q0 q3 q23 q24 q4 hg' hl' S'
        refine hJ _ _ ⟨q0.trans e0, q3.trans e3, q23.trans e23, i + 1, L', Aw', cw', by rw [q24]; rfl, q4, by omega, hg', hl', S'⟩ ?_
        rw [q24, e24]
        simp only [iv]
        omega
      have hsame : ∀ {h' : Heap} {l' : List HP} {Aw' : Option Addr} {cw' : Nat} {L' : List Tm}, L'.length ≤ i + 1 → GoodT L' → St h0 h' (timA t L' :: offA tmE 2 30 (.slice Aw' L'.length cw') L' :: l') → CallsH Try.prog 22 [.pointer (some ⟨t, 0, none⟩), .slice Aw' L'.length cw'] h' fun v h'' => v = .bool true ∧ St h0 h'' (timA t L' :: offA tmE 2 30 (.slice Aw' L'.length cw') L' :: l') := fun hl hg S' => Same12_ok S' (fun h' s => s.offArr tmE_len) (by omega) hg
      (try simp (maxSteps := 1000000) (disch := first | omega | assumption | exact Nat.le_of_ble_eq_true rfl) only [go_sem, ↓mwp_block, simprocAttr, e0, e24, hr])
      (refine st_alloc S ?_; clear S; intro p h S; (try simp only [splice_cons, splice_nil, List.set_cons_zero, List.set_cons_succ, Nat.zero_add, Nat.reduceAdd, List.cons_append, List.nil_append] at S); ((try clear F); have F := S.all; (try simp only [all_cons, all_nil, says_cell, and_true] at F)))
      (try simp (maxSteps := 1000000) (disch := first | omega | assumption | exact Nat.le_of_ble_eq_true rfl) only [go_sem, ↓mwp_block, simprocAttr, F])
      (refine st_store (by first | exact S | exact S.p1 | exact S.p2 | exact S.p3 | exact S.p4 | exact S.p5 | exact S.p6 | exact S.p7 | exact S.p8 | exact S.p9 | exact S.p10 | exact S.p11) (by rfl) (by rfl) (Nat.le_of_ble_eq_true rfl) ?_; clear S; intro h S; (try simp only [splice_cons, splice_nil, List.set_cons_zero, List.set_cons_succ, Nat.zero_add, Nat.reduceAdd, List.cons_append, List.nil_append] at S); ((try clear F); have F := S.all; (try simp only [all_cons, all_nil, says_cell, and_true] at F)))
      (try simp (maxSteps := 1000000) (disch := first | omega | assumption | exact Nat.le_of_ble_eq_true rfl) only [go_sem, ↓mwp_block, simprocAttr, F])
      by_cases hk : s[i].kind < 3
      · (try simp (maxSteps := 1000000) (disch := first | omega | assumption | exact Nat.le_of_ble_eq_true rfl) only [go_sem, ↓mwp_block, simprocAttr, F, hk, e3])
        refine call_intro (SetT_ok _ _ S.p2 (by omega) hg) ?_
        clear S F
        intro _ h S
        have S := S.p1
        ((try clear F); have F := S.all; (try simp only [all_cons, all_nil, says_cell, and_true] at F))
        (try simp (maxSteps := 1000000) (disch := first | omega | assumption | exact Nat.le_of_ble_eq_true rfl) only [go_sem, ↓mwp_block, simprocAttr, F])
        (refine st_alloc S ?_; clear S; intro q h S; (try simp only [splice_cons, splice_nil, List.set_cons_zero, List.set_cons_succ, Nat.zero_add, Nat.reduceAdd, List.cons_append, List.nil_append] at S); ((try clear F); have F := S.all; (try simp only [all_cons, all_nil, says_cell, and_true] at F)))
        (try simp (maxSteps := 1000000) (disch := first | omega | assumption | exact Nat.le_of_ble_eq_true rfl) only [go_sem, ↓mwp_block, simprocAttr, F])
        (refine st_store (by first | exact S | exact S.p1 | exact S.p2 | exact S.p3 | exact S.p4 | exact S.p5 | exact S.p6 | exact S.p7 | exact S.p8 | exact S.p9 | exact S.p10 | exact S.p11) (by rfl) (by rfl) (Nat.le_of_ble_eq_true rfl) ?_; clear S; intro h S; (try simp only [splice_cons, splice_nil, List.set_cons_zero, List.set_cons_succ, Nat.zero_add, Nat.reduceAdd, List.cons_append, List.nil_append] at S); ((try clear F); have F := S.all; (try simp only [all_cons, all_nil, says_cell, and_true] at F)))
        (try simp (maxSteps := 1000000) (disch := first | omega | assumption | exact Nat.le_of_ble_eq_true rfl) only [go_sem, ↓mwp_block, simprocAttr, F, e4])
        refine call_intro (without_ok _ S (fun h' s => s.p3.offArr tmE_len) (by omega)) ?_
        clear S F
        intro v h S
        obtain ⟨Av, cv, rfl⟩ := S.sl
        have hwo : (without L s[i].num).Pairwise aheadT := (good_without hg _).1
        have hwl := without_len L s[i].num
        have hset : setT L s[i].num s[i].day = insT (without L s[i].num) ⟨s[i].day, s[i].num⟩ := rfl
        have hgs := good_set hg s[i].num s[i].day
        have hsl := set_len L s[i].num s[i].day
        generalize without L s[i].num = W at S hwo hwl hset
        (try simp (maxSteps := 1000000) (disch := first | omega | assumption | exact Nat.le_of_ble_eq_true rfl) only [go_sem, ↓mwp_block, simprocAttr])
        refine loop_intro (fun ρ' h' => ρ' 0 = ρ 0 ∧ ρ' 3 = ρ 3 ∧ ρ' 23 = ρ 23 ∧ ρ' 24 = ρ 24 ∧ ρ' 4 = .slice Av W.length cv ∧ ρ' 7 = .pointer (some ⟨q, 0, none⟩) ∧ ∃ k : Nat, ρ' 8 = .int .i64 k ∧ k ≤ W.length ∧ (∀ j (hj : j < W.length), j < k → aheadT W[j] ⟨s[i].day, s[i].num⟩) ∧ St h0 h' [ownA tmE 2 30 (.slice Av W.length cv) W, cellA q (tmE ⟨s[i].day, s[i].num⟩) 30, timA t (setT L s[i].num s[i].day)]) (fun ρ' _ => W.length - (iv (ρ' 8)).toNat) ?_ ?_
        · (try simp (maxSteps := 1000000) (disch := first | omega | assumption | exact Nat.le_of_ble_eq_true rfl) only [go_sem, ↓mwp_block, simprocAttr, e3])
          exact ⟨0, rfl, by omega, fun j hj h => by omega, S.p3.p2.p2.two3⟩
        · clear S
          rintro ρ' h J' hJ' ⟨q0, q3, q23, q24, q4, q7, k, q8, hkW, hall, S⟩
          have hmono : ∀ j k (hj : j < W.length) (hk : k < W.length), j < k → aheadT W[j] W[k] := fun j k hj hk hjk => List.pairwise_iff_getElem.1 hwo j k hj hk hjk
          have rq : ∀ K u, readT (fun h' => St h0 h' [ownA tmE 2 30 (.slice Av W.length cv) W, cellA q (tmE ⟨s[i].day, s[i].num⟩) 30, timA t (setT L s[i].num s[i].day)]) (fun h' => bindV (rdN h' q 0 2) fun cs => some (.agg cs.toArray)) K u = bindT (some (.agg (tmE ⟨s[i].day, s[i].num⟩).toArray)) K ⟨⟩ := fun K u => reads_of S fun h' s => by rw [st_rdN s.p1 (by simp [tmE])]; rfl
          (try simp (maxSteps := 1000000) (disch := first | omega | assumption | exact Nat.le_of_ble_eq_true rfl) only [go_sem, ↓mwp_block, simprocAttr])
          refine draw_join S (fun ρ'' h'' => ρ'' 0 = ρ 0 ∧ ρ'' 3 = ρ 3 ∧ ρ'' 23 = ρ 23 ∧ ρ'' 24 = ρ 24 ∧ ρ'' 4 = .slice Av W.length cv ∧ ρ'' 7 = .pointer (some ⟨q, 0, none⟩) ∧ ρ'' 8 = .int .i64 k ∧ ρ'' 104 = .bool (dcd (∃ hk : k < W.length, aheadT W[k] ⟨s[i].day, s[i].num⟩)) ∧ St h0 h'' [ownA tmE 2 30 (.slice Av W.length cv) W, cellA q (tmE ⟨s[i].day, s[i].num⟩) 30, timA t (setT L s[i].num s[i].day)]) ?_ ?_
          · intro J3 hJ3
            by_cases hkl : (k : Int) < W.length
            · have hkl' : k < W.length := by omega
              obtain ⟨b4, o4, hA4, _⟩ := S.arr tmE_len k hkl'
              subst hA4
              have rx : ∀ K u, readT (fun h' => St h0 h' [ownA tmE 2 30 (.slice (some ⟨b4, o4, none⟩) W.length cv) W, cellA q (tmE ⟨s[i].day, s[i].num⟩) 30, timA t (setT L s[i].num s[i].day)]) (fun h' => bindV (rdN h' b4 (o4 + k * 2) 2) fun cs => some (.agg cs.toArray)) K u = bindT (some (.agg (tmE W[k]).toArray)) K ⟨⟩ := fun K u => reads_of S fun h' s => by
                obtain ⟨b5, o5, hA5, hr5⟩ := s.arr tmE_len k hkl'
                cases hA5
                rw [hr5]; rfl
              (try simp (maxSteps := 1000000) (disch := first | omega | assumption | exact Nat.le_of_ble_eq_true rfl) only [go_sem, ↓mwp_block, simprocAttr, q4, q7, q8, hkl, rx, rq])
              refine call_intro (ahead_ok _ _ S) ?_
              clear S
              rintro _ h ⟨rfl, S⟩
              (try simp (maxSteps := 1000000) (disch := first | omega | assumption | exact Nat.le_of_ble_eq_true rfl) only [go_sem, ↓mwp_block, simprocAttr])
              refine ⟨S, ?_⟩
              (try simp (maxSteps := 1000000) (disch := first | omega | assumption | exact Nat.le_of_ble_eq_true rfl) only [go_sem, ↓mwp_block, simprocAttr])
              refine hJ3 _ _ ?_
              (try simp (maxSteps := 1000000) (disch := first | omega | assumption | exact Nat.le_of_ble_eq_true rfl) only [go_sem, ↓mwp_block, simprocAttr, q0, q3, q23, q24, q4, q7, q8])
              exact ⟨congrArg Value.bool (congrArg dcd (propext ⟨fun h => ⟨hkl', h⟩, fun ⟨_, h⟩ => h⟩)), S⟩
            · (try simp (maxSteps := 1000000) (disch := first | omega | assumption | exact Nat.le_of_ble_eq_true rfl) only [go_sem, ↓mwp_block, simprocAttr, q4, q7, q8, hkl])
              refine hJ3 _ _ ?_
              (try simp (maxSteps := 1000000) (disch := first | omega | assumption | exact Nat.le_of_ble_eq_true rfl) only [go_sem, ↓mwp_block, simprocAttr, q0, q3, q23, q24, q4, q7, q8])
              exact ⟨by rw [dcd_false]; rintro ⟨hx, _⟩; omega, S⟩
          have o8 := q8
          clear S q0 q3 q23 q24 q4 q7 q8 rq
          rintro ρ' h ⟨q0, q3, q23, q24, q4, q7, q8, q104, S⟩
          (try simp (maxSteps := 1000000) (disch := first | omega | assumption | exact Nat.le_of_ble_eq_true rfl) only [go_sem, ↓mwp_block, simprocAttr, q104])
          refine cond_dec (fun had => ?_) (fun had => ?_)
          · obtain ⟨hkl, had⟩ := had
            (try simp (maxSteps := 1000000) (disch := first | omega | assumption | exact Nat.le_of_ble_eq_true rfl) only [go_sem, ↓mwp_block, simprocAttr, q8])
            refine hJ' _ _ ?_ ?_
            · (try simp (maxSteps := 1000000) (disch := first | omega | assumption | exact Nat.le_of_ble_eq_true rfl) only [go_sem, ↓mwp_block, simprocAttr, q0, q3, q23, q24, q4, q7])
              exact ⟨k + 1, rfl, by omega, fun j hj hjk => by
                by_cases e : j = k
                · subst e; exact had
                · exact hall j hj (by omega), S⟩
            · (try simp (maxSteps := 1000000) (disch := first | omega | assumption | exact Nat.le_of_ble_eq_true rfl) only [go_sem, ↓mwp_block, simprocAttr, o8])
              omega
          · have hpos : posT W ⟨s[i].day, s[i].num⟩ = k := posT_eq hkW hall (fun j hj hjk => by
              by_cases e : j = k
              · subst e; exact fun hx => had ⟨hj, hx⟩
              · exact fun hx => had ⟨by omega, aheadT_trans (hmono k j (by omega) hj (by omega)) hx⟩)
            (try simp (maxSteps := 1000000) (disch := first | omega | assumption | exact Nat.le_of_ble_eq_true rfl) only [go_sem, ↓mwp_block, simprocAttr])
            refine draw_join S (fun ρ'' h'' => ρ'' 0 = ρ 0 ∧ ρ'' 3 = ρ 3 ∧ ρ'' 23 = ρ 23 ∧ ρ'' 24 = ρ 24 ∧ ∃ A3 c3, ρ'' 4 = .slice A3 (setT L s[i].num s[i].day).length c3 ∧ St h0 h'' [ownA tmE 2 30 (.slice A3 (setT L s[i].num s[i].day).length c3) (setT L s[i].num s[i].day), timA t (setT L s[i].num s[i].day)]) ?_ ?_
            · intro J3 hJ3
              obtain ⟨_, hcap, hcap2⟩ := S.cap
              obtain ⟨A5, c5, hcut, hsrc⟩ := cut_src (h := h) tmE_len (S.arr tmE_len) (by omega) hkW
              have rq : ∀ K u, readT (fun h' => St h0 h' [ownA tmE 2 30 (.slice Av W.length cv) W, cellA q (tmE ⟨s[i].day, s[i].num⟩) 30, timA t (setT L s[i].num s[i].day)]) (fun h' => bindV (rdN h' q 0 2) fun cs => some (.agg cs.toArray)) K u = bindT (some (.agg [Value.int .i64 s[i].day, .int .i64 s[i].num].toArray)) K ⟨⟩ := fun K u => reads_of S fun h' s => by rw [st_rdN s.p1 (by simp [tmE])]; rfl
              have htk : (W.take k).length = k := by rw [List.length_take]; omega
              have hfin : ∀ {h' : Heap} {v : Value} {ρ'' : Env}, St h0 h' [ownA tmE 2 30 v ([] ++ W.take k ++ [⟨s[i].day, s[i].num⟩] ++ W.drop k), ownA tmE 2 30 (.slice Av W.length cv) W, cellA q (tmE ⟨s[i].day, s[i].num⟩) 30, timA t (setT L s[i].num s[i].day)] → ρ'' 0 = ρ 0 → ρ'' 3 = ρ 3 → ρ'' 23 = ρ 23 → ρ'' 24 = ρ 24 → ρ'' 4 = v → J3 ρ'' h' := by
                intro h' v ρ'' S p0 p3 p23 p24 p4
                have e : [] ++ W.take k ++ [⟨s[i].day, s[i].num⟩] ++ W.drop k = setT L s[i].num s[i].day := by rw [hset, insT, hpos]; simp
                rw [e] at S
                obtain ⟨A3, c3, rfl⟩ := S.sl
                exact hJ3 _ _ ⟨p0, p3, p23, p24, A3, c3, p4, S.d1.d1⟩
              (try simp (maxSteps := 1000000) (disch := first | omega | assumption | exact Nat.le_of_ble_eq_true rfl) only [go_sem, ↓mwp_block, simprocAttr, q4, q8, q7, hcut, rq])
              refine ⟨?_, ?_⟩
              · (refine st_alloc S ?_; clear S; intro g h S; (try simp only [splice_cons, splice_nil, List.set_cons_zero, List.set_cons_succ, Nat.zero_add, Nat.reduceAdd, List.cons_append, List.nil_append] at S); ((try clear F); have F := S.all; (try simp only [all_cons, all_nil, says_cell, and_true] at F)))
                refine ⟨S.tl, ?_⟩
                have S := S.ownE (enc := tmE) (sz := 2)
                (try simp (maxSteps := 1000000) (disch := first | omega | assumption | exact Nat.le_of_ble_eq_true rfl) only [go_sem, ↓mwp_block, simprocAttr])
                refine ⟨?_, ?_⟩
                · refine st_append (bytes := 16) (ys := W.take k) tmE_len (by omega) tmE_plain rfl S (by rw [htk]; rfl) (src_arr tmE_len (arr_takeG (S.p1.arr tmE_len) k) htk.symm) (by simp only [List.length_nil]; omega) (by simp only [List.length_nil]; omega) ?_
                  clear S F
                  intro v h S
                  obtain ⟨A1, c1, rfl⟩ := S.sl
                  refine ⟨S.tl, ?_⟩
                  (try simp (maxSteps := 1000000) (disch := first | omega | assumption | exact Nat.le_of_ble_eq_true rfl) only [go_sem, ↓mwp_block, simprocAttr, splice_cons, splice_nil])
                  (refine st_alloc S ?_; clear S; intro x h S; (try simp only [splice_cons, splice_nil, List.set_cons_zero, List.set_cons_succ, Nat.zero_add, Nat.reduceAdd, List.cons_append, List.nil_append] at S); ((try clear F); have F := S.all; (try simp only [all_cons, all_nil, says_cell, and_true] at F)))
                  refine ⟨S.tl.tl, ?_⟩
                  (try simp (maxSteps := 1000000) (disch := first | omega | assumption | exact Nat.le_of_ble_eq_true rfl) only [go_sem, ↓mwp_block, simprocAttr])
                  refine st_append1 (bytes := 16) (x := ⟨s[i].day, s[i].num⟩) tmE_len (by omega) tmE_plain rfl rfl S (by (try simp only [List.length_append, List.length_nil]); omega) (by (try simp only [List.length_append, List.length_nil]); omega) ?_
                  clear S F
                  intro v h S
                  obtain ⟨A2, c2, rfl⟩ := S.sl
                  refine ⟨S.tl, ?_⟩
                  (try simp (maxSteps := 1000000) (disch := first | omega | assumption | exact Nat.le_of_ble_eq_true rfl) only [go_sem, ↓mwp_block, simprocAttr])
                  refine st_append (bytes := 16) (ys := W.drop k) tmE_len (by omega) tmE_plain rfl S rfl (hsrc _ (S.p1.arr tmE_len)) (by (try simp only [List.length_append, List.length_nil, List.length_cons, List.length_drop]); omega) (by (try simp only [List.length_append, List.length_nil, List.length_cons, List.length_drop]); omega) ?_
                  clear S
                  intro v h S
                  refine ⟨S.tl, ?_⟩
                  (try simp (maxSteps := 1000000) (disch := first | omega | assumption | exact Nat.le_of_ble_eq_true rfl) only [go_sem, ↓mwp_block, simprocAttr])
                  exact hfin S (by (try simp (maxSteps := 1000000) (disch := first | omega | assumption | exact Nat.le_of_ble_eq_true rfl) only [go_sem, ↓mwp_block, simprocAttr, q0])) (by (try simp (maxSteps := 1000000) (disch := first | omega | assumption | exact Nat.le_of_ble_eq_true rfl) only [go_sem, ↓mwp_block, simprocAttr, q3])) (by (try simp (maxSteps := 1000000) (disch := first | omega | assumption | exact Nat.le_of_ble_eq_true rfl) only [go_sem, ↓mwp_block, simprocAttr, q23])) (by (try simp (maxSteps := 1000000) (disch := first | omega | assumption | exact Nat.le_of_ble_eq_true rfl) only [go_sem, ↓mwp_block, simprocAttr, q24])) (by (try simp (maxSteps := 1000000) (disch := first | omega | assumption | exact Nat.le_of_ble_eq_true rfl) only [go_sem, ↓mwp_block, simprocAttr]))
                · (try simp (maxSteps := 1000000) (disch := first | omega | assumption | exact Nat.le_of_ble_eq_true rfl) only [go_sem, ↓mwp_block, simprocAttr, splice_cons, splice_nil])
                  (refine st_alloc S ?_; clear S; intro x h S; (try simp only [splice_cons, splice_nil, List.set_cons_zero, List.set_cons_succ, Nat.zero_add, Nat.reduceAdd, List.cons_append, List.nil_append] at S); ((try clear F); have F := S.all; (try simp only [all_cons, all_nil, says_cell, and_true] at F)))
                  refine ⟨S.tl.tl, ?_⟩
                  (try simp (maxSteps := 1000000) (disch := first | omega | assumption | exact Nat.le_of_ble_eq_true rfl) only [go_sem, ↓mwp_block, simprocAttr])
                  have S := S.p1
                  refine st_append (bytes := 16) (ys := W.take k) tmE_len (by omega) tmE_plain rfl S (by rw [htk]; rfl) (src_arr tmE_len (arr_takeG (S.p2.arr tmE_len) k) htk.symm) (by simp only [List.length_nil]; omega) (by simp only [List.length_nil]; omega) ?_
                  clear S
                  intro v h S
                  obtain ⟨A1, c1, rfl⟩ := S.sl
                  refine ⟨S.tl.tl, ?_⟩
                  (try simp (maxSteps := 1000000) (disch := first | omega | assumption | exact Nat.le_of_ble_eq_true rfl) only [go_sem, ↓mwp_block, simprocAttr])
                  have S := S.p1
                  have F := S.all
                  refine st_append1 (bytes := 16) (x := ⟨s[i].day, s[i].num⟩) tmE_len (by omega) tmE_plain rfl rfl S (by (try simp only [List.length_append, List.length_nil]); omega) (by (try simp only [List.length_append, List.length_nil]); omega) ?_
                  clear S F
                  intro v h S
                  obtain ⟨A2, c2, rfl⟩ := S.sl
                  refine ⟨S.tl, ?_⟩
                  (try simp (maxSteps := 1000000) (disch := first | omega | assumption | exact Nat.le_of_ble_eq_true rfl) only [go_sem, ↓mwp_block, simprocAttr])
                  refine st_append (bytes := 16) (ys := W.drop k) tmE_len (by omega) tmE_plain rfl S rfl (hsrc _ (S.p1.arr tmE_len)) (by (try simp only [List.length_append, List.length_nil, List.length_cons, List.length_drop]); omega) (by (try simp only [List.length_append, List.length_nil, List.length_cons, List.length_drop]); omega) ?_
                  clear S
                  intro v h S
                  refine ⟨S.tl, ?_⟩
                  (try simp (maxSteps := 1000000) (disch := first | omega | assumption | exact Nat.le_of_ble_eq_true rfl) only [go_sem, ↓mwp_block, simprocAttr])
                  exact hfin S (by (try simp (maxSteps := 1000000) (disch := first | omega | assumption | exact Nat.le_of_ble_eq_true rfl) only [go_sem, ↓mwp_block, simprocAttr, q0])) (by (try simp (maxSteps := 1000000) (disch := first | omega | assumption | exact Nat.le_of_ble_eq_true rfl) only [go_sem, ↓mwp_block, simprocAttr, q3])) (by (try simp (maxSteps := 1000000) (disch := first | omega | assumption | exact Nat.le_of_ble_eq_true rfl) only [go_sem, ↓mwp_block, simprocAttr, q23])) (by (try simp (maxSteps := 1000000) (disch := first | omega | assumption | exact Nat.le_of_ble_eq_true rfl) only [go_sem, ↓mwp_block, simprocAttr, q24])) (by (try simp (maxSteps := 1000000) (disch := first | omega | assumption | exact Nat.le_of_ble_eq_true rfl) only [go_sem, ↓mwp_block, simprocAttr]))
              · (refine st_alloc S ?_; clear S; intro x h S; (try simp only [splice_cons, splice_nil, List.set_cons_zero, List.set_cons_succ, Nat.zero_add, Nat.reduceAdd, List.cons_append, List.nil_append] at S); ((try clear F); have F := S.all; (try simp only [all_cons, all_nil, says_cell, and_true] at F)))
                refine ⟨S.tl, ?_⟩
                (try simp (maxSteps := 1000000) (disch := first | omega | assumption | exact Nat.le_of_ble_eq_true rfl) only [go_sem, ↓mwp_block, simprocAttr])
                (refine st_alloc S ?_; clear S; intro g h S; (try simp only [splice_cons, splice_nil, List.set_cons_zero, List.set_cons_succ, Nat.zero_add, Nat.reduceAdd, List.cons_append, List.nil_append] at S); ((try clear F); have F := S.all; (try simp only [all_cons, all_nil, says_cell, and_true] at F)))
                refine ⟨S.tl.tl, ?_⟩
                have S := S.ownE (enc := tmE) (sz := 2)
                (try simp (maxSteps := 1000000) (disch := first | omega | assumption | exact Nat.le_of_ble_eq_true rfl) only [go_sem, ↓mwp_block, simprocAttr])
                refine st_append (bytes := 16) (ys := W.take k) tmE_len (by omega) tmE_plain rfl S (by rw [htk]; rfl) (src_arr tmE_len (arr_takeG (S.p2.arr tmE_len) k) htk.symm) (by simp only [List.length_nil]; omega) (by simp only [List.length_nil]; omega) ?_
                clear S
                intro v h S
                obtain ⟨A1, c1, rfl⟩ := S.sl
                refine ⟨S.tl.tl, ?_⟩
                (try simp (maxSteps := 1000000) (disch := first | omega | assumption | exact Nat.le_of_ble_eq_true rfl) only [go_sem, ↓mwp_block, simprocAttr])
                have S := S.p1
                have F := S.all
                refine st_append1 (bytes := 16) (x := ⟨s[i].day, s[i].num⟩) tmE_len (by omega) tmE_plain rfl rfl S (by (try simp only [List.length_append, List.length_nil]); omega) (by (try simp only [List.length_append, List.length_nil]); omega) ?_
                clear S F
                intro v h S
                obtain ⟨A2, c2, rfl⟩ := S.sl
                refine ⟨S.tl, ?_⟩
                (try simp (maxSteps := 1000000) (disch := first | omega | assumption | exact Nat.le_of_ble_eq_true rfl) only [go_sem, ↓mwp_block, simprocAttr])
                refine st_append (bytes := 16) (ys := W.drop k) tmE_len (by omega) tmE_plain rfl S rfl (hsrc _ (S.p1.arr tmE_len)) (by (try simp only [List.length_append, List.length_nil, List.length_cons, List.length_drop]); omega) (by (try simp only [List.length_append, List.length_nil, List.length_cons, List.length_drop]); omega) ?_
                clear S
                intro v h S
                refine ⟨S.tl, ?_⟩
                (try simp (maxSteps := 1000000) (disch := first | omega | assumption | exact Nat.le_of_ble_eq_true rfl) only [go_sem, ↓mwp_block, simprocAttr])
                exact hfin S (by (try simp (maxSteps := 1000000) (disch := first | omega | assumption | exact Nat.le_of_ble_eq_true rfl) only [go_sem, ↓mwp_block, simprocAttr, q0])) (by (try simp (maxSteps := 1000000) (disch := first | omega | assumption | exact Nat.le_of_ble_eq_true rfl) only [go_sem, ↓mwp_block, simprocAttr, q3])) (by (try simp (maxSteps := 1000000) (disch := first | omega | assumption | exact Nat.le_of_ble_eq_true rfl) only [go_sem, ↓mwp_block, simprocAttr, q23])) (by (try simp (maxSteps := 1000000) (disch := first | omega | assumption | exact Nat.le_of_ble_eq_true rfl) only [go_sem, ↓mwp_block, simprocAttr, q24])) (by (try simp (maxSteps := 1000000) (disch := first | omega | assumption | exact Nat.le_of_ble_eq_true rfl) only [go_sem, ↓mwp_block, simprocAttr]))
            · clear S q0 q3 q23 q24 q4 q7 q8 q104
              rintro ρ' h ⟨q0, q3, q23, q24, A3, c3, q4, S⟩
              (try simp (maxSteps := 1000000) (disch := first | omega | assumption | exact Nat.le_of_ble_eq_true rfl) only [go_sem, ↓mwp_block, simprocAttr, q3, e3, q4])
              refine call_intro (hsame (l' := []) (by omega) hgs S.toOff.p1) ?_
              clear S
              rintro _ h ⟨rfl, S⟩
              (try simp (maxSteps := 1000000) (disch := first | omega | assumption | exact Nat.le_of_ble_eq_true rfl) only [go_sem, ↓mwp_block, simprocAttr, q24, e24])
              exact hJ2 _ _ _ (by (try simp (maxSteps := 1000000) (disch := first | omega | assumption | exact Nat.le_of_ble_eq_true rfl) only [go_sem, ↓mwp_block, simprocAttr, q0])) (by (try simp (maxSteps := 1000000) (disch := first | omega | assumption | exact Nat.le_of_ble_eq_true rfl) only [go_sem, ↓mwp_block, simprocAttr, q3])) (by (try simp (maxSteps := 1000000) (disch := first | omega | assumption | exact Nat.le_of_ble_eq_true rfl) only [go_sem, ↓mwp_block, simprocAttr, q23])) (by (try simp (maxSteps := 1000000) (disch := first | omega | assumption | exact Nat.le_of_ble_eq_true rfl) only [go_sem, ↓mwp_block, simprocAttr])) (by (try simp (maxSteps := 1000000) (disch := first | omega | assumption | exact Nat.le_of_ble_eq_true rfl) only [go_sem, ↓mwp_block, simprocAttr, q4])) hgs (by omega) S.p1
      · by_cases hk3 : s[i].kind = 3
        · (try simp (maxSteps := 1000000) (disch := first | omega | assumption | exact Nat.le_of_ble_eq_true rfl) only [go_sem, ↓mwp_block, simprocAttr, F, hk, hk3, e4])
          refine call_intro (without_ok _ S (fun h' s => s.p1.offArr tmE_len) (by omega)) ?_
          clear S F
          intro v h S
          obtain ⟨Aw', cw', rfl⟩ := S.sl
          ((try clear F); have F := S.all; (try simp only [all_cons, all_nil, says_cell, and_true] at F))
          (try simp (maxSteps := 1000000) (disch := first | omega | assumption | exact Nat.le_of_ble_eq_true rfl) only [go_sem, ↓mwp_block, simprocAttr, F, e3])
          refine call_intro (StopT_ok _ S.p3 (by omega) hg) ?_
          clear S F
          rintro _ h ⟨rfl, S⟩
          have hb : ((L.find? (isNum s[i].num)).isSome == dcd (((without L s[i].num).length : Int) < L.length)) = true := by rw [find_len, beq_self_eq_true]
          (try simp (maxSteps := 1000000) (disch := first | omega | assumption | exact Nat.le_of_ble_eq_true rfl) only [go_sem, ↓mwp_block, simprocAttr, hb, Bool.not_true])
          have S := S.p1.toOff.p1
          have hwl := without_len L s[i].num
          (try simp (maxSteps := 1000000) (disch := first | omega | assumption | exact Nat.le_of_ble_eq_true rfl) only [go_sem, ↓mwp_block, simprocAttr, e3])
          refine call_intro (hsame (by omega) (good_without hg _) S) ?_
          clear S
          rintro _ h ⟨rfl, S⟩
          (try simp (maxSteps := 1000000) (disch := first | omega | assumption | exact Nat.le_of_ble_eq_true rfl) only [go_sem, ↓mwp_block, simprocAttr, e24])
          exact hJ2 _ _ _ (by (try simp (maxSteps := 1000000) (disch := first | omega | assumption | exact Nat.le_of_ble_eq_true rfl) only [go_sem, ↓mwp_block, simprocAttr])) (by (try simp (maxSteps := 1000000) (disch := first | omega | assumption | exact Nat.le_of_ble_eq_true rfl) only [go_sem, ↓mwp_block, simprocAttr, e3])) (by (try simp (maxSteps := 1000000) (disch := first | omega | assumption | exact Nat.le_of_ble_eq_true rfl) only [go_sem, ↓mwp_block, simprocAttr])) (by (try simp (maxSteps := 1000000) (disch := first | omega | assumption | exact Nat.le_of_ble_eq_true rfl) only [go_sem, ↓mwp_block, simprocAttr])) (by (try simp (maxSteps := 1000000) (disch := first | omega | assumption | exact Nat.le_of_ble_eq_true rfl) only [go_sem, ↓mwp_block, simprocAttr])) (good_without hg _) (by omega) S.p1.two
        · (try simp (maxSteps := 1000000) (disch := first | omega | assumption | exact Nat.le_of_ble_eq_true rfl) only [go_sem, ↓mwp_block, simprocAttr, F, hk, hk3, e4, e3])
          refine call_intro (DueT_ok _ S.p2 (by omega)) ?_
          clear S F
          intro v h S
          obtain ⟨Av, cv, rfl⟩ := S.sl
          (try simp (maxSteps := 1000000) (disch := first | omega | assumption | exact Nat.le_of_ble_eq_true rfl) only [go_sem, ↓mwp_block, simprocAttr])
          refine loop_intro (fun ρ' h' => h' = h ∧ ρ' 0 = ρ 0 ∧ ρ' 3 = ρ 3 ∧ ρ' 23 = ρ 23 ∧ ρ' 24 = ρ 24 ∧ ρ' 4 = .slice Aw L.length cw ∧ ρ' 6 = .pointer (some ⟨p, 0, none⟩) ∧ ρ' 10 = .slice Av ((dueT L s[i].day).map Tm.num).length cv ∧ ∃ k : Nat, ρ' 11 = .int .i64 k ∧ k ≤ L.length ∧ ∀ j (hj : j < L.length), j < k → L[j].day ≤ s[i].day) (fun ρ' _ => L.length - (iv (ρ' 11)).toNat) ?_ ?_
          · (try simp (maxSteps := 1000000) (disch := first | omega | assumption | exact Nat.le_of_ble_eq_true rfl) only [go_sem, ↓mwp_block, simprocAttr, e3, e4])
            exact ⟨0, rfl, by omega, fun j hj h => by omega⟩
          · rintro ρ' h2 J' hJ' ⟨e2, q0, q3, q23, q24, q4, q6, q10, k, q11, hkL, hall⟩
            subst e2
            have F := S.all
            simp only [all_cons, all_nil, says_cell, and_true] at F
            have hend : ¬ (k < L.length ∧ ∃ hk : k < L.length, L[k].day ≤ s[i].day) → dueT L s[i].day = L.take k ∧ lateT L s[i].day = L.drop k := fun hn => Due_len k hall (fun hk hd => hn ⟨hk, hk, hd⟩) hkL
            by_cases hkl : (k : Int) < L.length
            · have hkl' : k < L.length := by omega
              obtain ⟨b4, o4, rfl, hr4⟩ := S.p3.offArr tmE_len k hkl'
              have r40 : rd1 _ (.pointer (some ⟨b4, o4 + k * 2, none⟩)) = some (.int .i64 L[k].day) := rd1_part hr4 0 (by omega)
              have r41 : rd1 _ (.pointer (some ⟨b4, o4 + k * 2 + 1, none⟩)) = some (.int .i64 L[k].num) := rd1_part hr4 1 (by omega)
              by_cases hkd : L[k].day ≤ s[i].day
              · (try simp (maxSteps := 1000000) (disch := first | omega | assumption | exact Nat.le_of_ble_eq_true rfl) only [go_sem, ↓mwp_block, simprocAttr])
                refine draw_eq ?_
                (try simp (maxSteps := 1000000) (disch := first | omega | assumption | exact Nat.le_of_ble_eq_true rfl) only [go_sem, ↓mwp_block, simprocAttr, q4, q6, q11, hkl, r40, F, hkd])
                have hall' : ∀ j (hj : j < L.length), j < k + 1 → L[j].day ≤ s[i].day := fun j hj hjk => by
                  by_cases e : j = k
                  · subst e; exact hkd
                  · exact hall j hj (by omega)
                obtain ⟨hdl, hdg⟩ := due_get (L := L) (d := s[i].day) k hkl' (fun j hj hjk => hall' j hj (by omega))
                obtain ⟨b5, o5, rfl, hr5⟩ := S.arr iEnc_len k hdl
                have r5 : rd1 h2 (.pointer (some ⟨b5, o5 + k * 1, none⟩)) = some (.int .i64 L[k].num) := by
                  rw [hdg] at hr5
                  have := rd1_part (h := h2) hr5 0 (by omega)
                  simpa [iEnc] using this
                refine draw_eq ?_
                (try simp (maxSteps := 1000000) (disch := first | omega | assumption | exact Nat.le_of_ble_eq_true rfl) only [go_sem, ↓mwp_block, simprocAttr, q4, q6, q10, q11, hdl, r5, r41])
                refine hJ' _ _ ?_ ?_
                · (try simp (maxSteps := 1000000) (disch := first | omega | assumption | exact Nat.le_of_ble_eq_true rfl) only [go_sem, ↓mwp_block, simprocAttr, q0, q3, q23, q24, q4, q6, q10])
                  exact ⟨k + 1, rfl, by omega, hall'⟩
                · (try simp (maxSteps := 1000000) (disch := first | omega | assumption | exact Nat.le_of_ble_eq_true rfl) only [go_sem, ↓mwp_block, simprocAttr, q11])
                  omega
              · (try simp (maxSteps := 1000000) (disch := first | omega | assumption | exact Nat.le_of_ble_eq_true rfl) only [go_sem, ↓mwp_block, simprocAttr])
                refine draw_eq ?_
                (try simp (maxSteps := 1000000) (disch := first | omega | assumption | exact Nat.le_of_ble_eq_true rfl) only [go_sem, ↓mwp_block, simprocAttr, q4, q6, q11, hkl, r40, F, hkd])
                have hde := hend (fun ⟨_, _, hx⟩ => hkd hx)
                have hln : ((dueT L s[i].day).map Tm.num).length = k := by rw [hde.1, List.length_map, List.length_take]; omega
                rw [hln] at q10
                have S := S
                rw [hde.2] at S
                obtain ⟨A3, c3, hcut, ho3, hb3⟩ := S.p3.off.dropK tmE_len hkL
                have S := (S.p3.offUp (Fr.refl _ _) ho3 (fun b hm => .inl (by rw [← hb3]; exact hm))).p2
                (try simp (maxSteps := 1000000) (disch := first | omega | assumption | exact Nat.le_of_ble_eq_true rfl) only [go_sem, ↓mwp_block, simprocAttr, q4, q10, q11, q3, e3, hcut])
                have hg' : GoodT (L.drop k) := good_sub hg (List.drop_sublist k L)
                have hl' : (L.drop k).length ≤ i + 1 := by rw [List.length_drop]; omega
                refine call_intro (hsame hl' hg' S) ?_
                clear S
                rintro _ h ⟨rfl, S⟩
                (try simp (maxSteps := 1000000) (disch := first | omega | assumption | exact Nat.le_of_ble_eq_true rfl) only [go_sem, ↓mwp_block, simprocAttr, q24, e24])
                exact hJ2 _ _ _ (by (try simp (maxSteps := 1000000) (disch := first | omega | assumption | exact Nat.le_of_ble_eq_true rfl) only [go_sem, ↓mwp_block, simprocAttr, q0])) (by (try simp (maxSteps := 1000000) (disch := first | omega | assumption | exact Nat.le_of_ble_eq_true rfl) only [go_sem, ↓mwp_block, simprocAttr, q3])) (by (try simp (maxSteps := 1000000) (disch := first | omega | assumption | exact Nat.le_of_ble_eq_true rfl) only [go_sem, ↓mwp_block, simprocAttr, q23])) (by (try simp (maxSteps := 1000000) (disch := first | omega | assumption | exact Nat.le_of_ble_eq_true rfl) only [go_sem, ↓mwp_block, simprocAttr])) (by (try simp (maxSteps := 1000000) (disch := first | omega | assumption | exact Nat.le_of_ble_eq_true rfl) only [go_sem, ↓mwp_block, simprocAttr])) hg' hl' S.p1.two
            · (try simp (maxSteps := 1000000) (disch := first | omega | assumption | exact Nat.le_of_ble_eq_true rfl) only [go_sem, ↓mwp_block, simprocAttr])
              refine draw_eq ?_
              (try simp (maxSteps := 1000000) (disch := first | omega | assumption | exact Nat.le_of_ble_eq_true rfl) only [go_sem, ↓mwp_block, simprocAttr, q4, q6, q11, hkl])
              have hde := hend (fun ⟨hx, _⟩ => hkl (by omega))
              have hln : ((dueT L s[i].day).map Tm.num).length = k := by rw [hde.1, List.length_map, List.length_take]; omega
              rw [hln] at q10
              have S := S
              rw [hde.2] at S
              obtain ⟨A3, c3, hcut, ho3, hb3⟩ := S.p3.off.dropK tmE_len hkL
              have S := (S.p3.offUp (Fr.refl _ _) ho3 (fun b hm => .inl (by rw [← hb3]; exact hm))).p2
              (try simp (maxSteps := 1000000) (disch := first | omega | assumption | exact Nat.le_of_ble_eq_true rfl) only [go_sem, ↓mwp_block, simprocAttr, q4, q10, q11, q3, e3, hcut])
              have hg' : GoodT (L.drop k) := good_sub hg (List.drop_sublist k L)
              have hl' : (L.drop k).length ≤ i + 1 := by rw [List.length_drop]; omega
              refine call_intro (hsame hl' hg' S) ?_
              clear S
              rintro _ h ⟨rfl, S⟩
              (try simp (maxSteps := 1000000) (disch := first | omega | assumption | exact Nat.le_of_ble_eq_true rfl) only [go_sem, ↓mwp_block, simprocAttr, q24, e24])
              exact hJ2 _ _ _ (by (try simp (maxSteps := 1000000) (disch := first | omega | assumption | exact Nat.le_of_ble_eq_true rfl) only [go_sem, ↓mwp_block, simprocAttr, q0])) (by (try simp (maxSteps := 1000000) (disch := first | omega | assumption | exact Nat.le_of_ble_eq_true rfl) only [go_sem, ↓mwp_block, simprocAttr, q3])) (by (try simp (maxSteps := 1000000) (disch := first | omega | assumption | exact Nat.le_of_ble_eq_true rfl) only [go_sem, ↓mwp_block, simprocAttr, q23])) (by (try simp (maxSteps := 1000000) (disch := first | omega | assumption | exact Nat.le_of_ble_eq_true rfl) only [go_sem, ↓mwp_block, simprocAttr])) (by (try simp (maxSteps := 1000000) (disch := first | omega | assumption | exact Nat.le_of_ble_eq_true rfl) only [go_sem, ↓mwp_block, simprocAttr])) hg' hl' S.p1.two
    · (try simp (maxSteps := 1000000) (disch := first | omega | assumption | exact Nat.le_of_ble_eq_true rfl) only [go_sem, ↓mwp_block, simprocAttr])
      exact hK _ _ ⟨rfl, S.fr⟩
end
end Go.Proofs.Ytnjjdpeglkiifaa.MX
