/- Timers, part 2: the order of two, and where one belongs. -/
import Derived.Test.YtnjjdpeglkiifaaTi1
namespace Go.Proofs.Ytnjjdpeglkiifaa.MX
open Go Go.Proofs
set_option linter.unusedSimpArgs false
set_option linter.unusedVariables false
set_option maxHeartbeats 4000000
def cmpI (a b : Int) : Int := if a < b then -1 else if b < a then 1 else 0
def ordT (a b : Tm) : Int := if cmpI a.day b.day = 0 then cmpI a.num b.num else cmpI a.day b.day
def aheadT (a b : Tm) : Prop := a.day < b.day ∨ (a.day = b.day ∧ a.num < b.num)
instance (a b : Tm) : Decidable (aheadT a b) := by unfold aheadT; exact inferInstance
theorem ordT_lt (a b : Tm) : ordT a b < 0 ↔ aheadT a b := by
  unfold ordT cmpI aheadT
  split <;> (rename_i h; revert h; repeat' split) <;> omega
theorem isNaNI_ok (a : Int) (h : Heap) : CallsH Try.prog 112 [.int .i64 a] h fun v h' => v = .bool false ∧ h' = h := by
  (refine enterK c_cmp_isNaN_int (Nat.le_of_ble_eq_true rfl) fun K hK => ?_; (try simp (maxSteps := 1000000) (disch := first | omega | assumption | exact Nat.le_of_ble_eq_true rfl) only [go_sem, ↓mwp_block, simprocAttr, ir_cmp_isNaN_int]))
  exact hK _ _ ⟨rfl, rfl⟩
theorem CompareI_ok (a b : Int) (h : Heap) : CallsH Try.prog 93 [.int .i64 a, .int .i64 b] h fun v h' => v = .int .i64 (cmpI a b) ∧ h' = h := by
  unfold cmpI
  by_cases h1 : a < b
  · (refine enterK c_cmp_Compare_int (Nat.le_of_ble_eq_true rfl) fun K hK => ?_; (try simp (maxSteps := 1000000) (disch := first | omega | assumption | exact Nat.le_of_ble_eq_true rfl) only [go_sem, ↓mwp_block, simprocAttr, ir_cmp_Compare_int]))
    refine call_intro (isNaNI_ok _ _) ?_
    rintro _ _ ⟨rfl, rfl⟩
    (try simp (maxSteps := 1000000) (disch := first | omega | assumption | exact Nat.le_of_ble_eq_true rfl) only [go_sem, ↓mwp_block, simprocAttr])
    refine call_intro (isNaNI_ok _ _) ?_
    rintro _ _ ⟨rfl, rfl⟩
    (try simp (maxSteps := 1000000) (disch := first | omega | assumption | exact Nat.le_of_ble_eq_true rfl) only [go_sem, ↓mwp_block, simprocAttr, h1])
    exact hK _ _ ⟨by simp [h1], rfl⟩
  · by_cases h2 : b < a
    · (refine enterK c_cmp_Compare_int (Nat.le_of_ble_eq_true rfl) fun K hK => ?_; (try simp (maxSteps := 1000000) (disch := first | omega | assumption | exact Nat.le_of_ble_eq_true rfl) only [go_sem, ↓mwp_block, simprocAttr, ir_cmp_Compare_int]))
      refine call_intro (isNaNI_ok _ _) ?_
      rintro _ _ ⟨rfl, rfl⟩
      (try simp (maxSteps := 1000000) (disch := first | omega | assumption | exact Nat.le_of_ble_eq_true rfl) only [go_sem, ↓mwp_block, simprocAttr])
      refine call_intro (isNaNI_ok _ _) ?_
      rintro _ _ ⟨rfl, rfl⟩
      (try simp (maxSteps := 1000000) (disch := first | omega | assumption | exact Nat.le_of_ble_eq_true rfl) only [go_sem, ↓mwp_block, simprocAttr, h1, h2])
      exact hK _ _ ⟨by simp [h1, h2], rfl⟩
    · (refine enterK c_cmp_Compare_int (Nat.le_of_ble_eq_true rfl) fun K hK => ?_; (try simp (maxSteps := 1000000) (disch := first | omega | assumption | exact Nat.le_of_ble_eq_true rfl) only [go_sem, ↓mwp_block, simprocAttr, ir_cmp_Compare_int]))
      refine call_intro (isNaNI_ok _ _) ?_
      rintro _ _ ⟨rfl, rfl⟩
      (try simp (maxSteps := 1000000) (disch := first | omega | assumption | exact Nat.le_of_ble_eq_true rfl) only [go_sem, ↓mwp_block, simprocAttr])
      refine call_intro (isNaNI_ok _ _) ?_
      rintro _ _ ⟨rfl, rfl⟩
      (try simp (maxSteps := 1000000) (disch := first | omega | assumption | exact Nat.le_of_ble_eq_true rfl) only [go_sem, ↓mwp_block, simprocAttr, h1, h2])
      exact hK _ _ ⟨by simp [h1, h2], rfl⟩
theorem OrI_ok (a b : Int) {h : Heap} {g c : Nat} (r0 : rd1 h (.pointer (some ⟨g, 0, none⟩)) = some (.int .i64 a)) (r1 : rd1 h (.pointer (some ⟨g, 1, none⟩)) = some (.int .i64 b)) :
    CallsH Try.prog 92 [.slice (some ⟨g, 0, none⟩) 2 c] h fun v h' => v = .int .i64 (if a = 0 then b else a) ∧ h' = h := by
  by_cases ha : a = 0
  · by_cases hb : b = 0
    · (refine enterK c_cmp_Or_int (Nat.le_of_ble_eq_true rfl) fun K hK => ?_; (try simp (maxSteps := 1000000) (disch := first | omega | assumption | exact Nat.le_of_ble_eq_true rfl) only [go_sem, ↓mwp_block, simprocAttr, ir_cmp_Or_int]))
      refine loop_unroll 3 ?_
      (try simp (maxSteps := 1000000) (disch := first | omega | assumption | exact Nat.le_of_ble_eq_true rfl) only [go_sem, ↓mwp_block, simprocAttr, r0, r1, ha, hb])
      exact hK _ _ ⟨by simp [ha, hb], rfl⟩
    · (refine enterK c_cmp_Or_int (Nat.le_of_ble_eq_true rfl) fun K hK => ?_; (try simp (maxSteps := 1000000) (disch := first | omega | assumption | exact Nat.le_of_ble_eq_true rfl) only [go_sem, ↓mwp_block, simprocAttr, ir_cmp_Or_int]))
      refine loop_unroll 3 ?_
      (try simp (maxSteps := 1000000) (disch := first | omega | assumption | exact Nat.le_of_ble_eq_true rfl) only [go_sem, ↓mwp_block, simprocAttr, r0, r1, ha, hb])
      exact hK _ _ ⟨by simp [ha, hb], rfl⟩
  · (refine enterK c_cmp_Or_int (Nat.le_of_ble_eq_true rfl) fun K hK => ?_; (try simp (maxSteps := 1000000) (disch := first | omega | assumption | exact Nat.le_of_ble_eq_true rfl) only [go_sem, ↓mwp_block, simprocAttr, ir_cmp_Or_int]))
    refine loop_unroll 3 ?_
    (try simp (maxSteps := 1000000) (disch := first | omega | assumption | exact Nat.le_of_ble_eq_true rfl) only [go_sem, ↓mwp_block, simprocAttr, r0, r1, ha])
    exact hK _ _ ⟨by simp [ha], rfl⟩
section
variable {h0 h : Heap} {l : List HP}
theorem order_ok (a b : Tm) (S : St h0 h l) : CallsH Try.prog 59 [.agg (tmE a).toArray, .agg (tmE b).toArray] h fun v h' => v = .int .i64 (ordT a b) ∧ St h0 h' l := by
  simp only [tmE]
  (refine enterK c_timer_order (Nat.le_of_ble_eq_true rfl) fun K hK => ?_; (try simp (maxSteps := 1000000) (disch := first | omega | assumption | exact Nat.le_of_ble_eq_true rfl) only [go_sem, ↓mwp_block, simprocAttr, ir_timer_order]))
  (refine st_alloc S ?_; clear S; intro p h S; (try simp only [splice_cons, splice_nil, List.set_cons_zero, List.set_cons_succ, Nat.zero_add, Nat.reduceAdd, List.cons_append, List.nil_append] at S); ((try clear F); have F := S.all; (try simp only [all_cons, all_nil, says_cell, and_true] at F)))
  (try simp (maxSteps := 1000000) (disch := first | omega | assumption | exact Nat.le_of_ble_eq_true rfl) only [go_sem, ↓mwp_block, simprocAttr, F])
  (refine st_alloc S ?_; clear S; intro q h S; (try simp only [splice_cons, splice_nil, List.set_cons_zero, List.set_cons_succ, Nat.zero_add, Nat.reduceAdd, List.cons_append, List.nil_append] at S); ((try clear F); have F := S.all; (try simp only [all_cons, all_nil, says_cell, and_true] at F)))
  (try simp (maxSteps := 1000000) (disch := first | omega | assumption | exact Nat.le_of_ble_eq_true rfl) only [go_sem, ↓mwp_block, simprocAttr, F])
  have rq : ∀ off K t, readT (fun h' => St h0 h' _) (fun h' => rd1 h' (.pointer (some ⟨q, off, none⟩))) K t = bindT ([Value.int .i64 b.day, Value.int .i64 b.num][off]?) K ⟨⟩ := fun off K t => reads_of S (fun h' s => st_rd1 s)
  have rp : ∀ off K t, readT (fun h' => St h0 h' _) (fun h' => rd1 h' (.pointer (some ⟨p, off, none⟩))) K t = bindT ([Value.int .i64 a.day, Value.int .i64 a.num][off]?) K ⟨⟩ := fun off K t => reads_of S (fun h' s => st_rd1 s.p1)
  refine draw_st S ?_
  (try simp (maxSteps := 1000000) (disch := first | omega | assumption | exact Nat.le_of_ble_eq_true rfl) only [go_sem, ↓mwp_block, simprocAttr, rp, rq])
  refine call_intro (CompareI_ok _ _ _) ?_
  rintro _ _ ⟨rfl, rfl⟩
  (try simp (maxSteps := 1000000) (disch := first | omega | assumption | exact Nat.le_of_ble_eq_true rfl) only [go_sem, ↓mwp_block, simprocAttr, rp, rq])
  refine ⟨S, ?_⟩
  (try simp (maxSteps := 1000000) (disch := first | omega | assumption | exact Nat.le_of_ble_eq_true rfl) only [go_sem, ↓mwp_block, simprocAttr, rp, rq])
  refine call_intro (CompareI_ok _ _ _) ?_
  rintro _ _ ⟨rfl, rfl⟩
  (try simp (maxSteps := 1000000) (disch := first | omega | assumption | exact Nat.le_of_ble_eq_true rfl) only [go_sem, ↓mwp_block, simprocAttr, rp, rq])
  refine ⟨S, ?_⟩
  (try simp (maxSteps := 1000000) (disch := first | omega | assumption | exact Nat.le_of_ble_eq_true rfl) only [go_sem, ↓mwp_block, simprocAttr, rp, rq, zerosL])
  (refine st_alloc S ?_; clear S; intro g h S; (try simp only [splice_cons, splice_nil, List.set_cons_zero, List.set_cons_succ, Nat.zero_add, Nat.reduceAdd, List.cons_append, List.nil_append] at S); ((try clear F); have F := S.all; (try simp only [all_cons, all_nil, says_cell, and_true] at F)))
  refine ⟨S.tl, ?_⟩
  (try simp (maxSteps := 1000000) (disch := first | omega | assumption | exact Nat.le_of_ble_eq_true rfl) only [go_sem, ↓mwp_block, simprocAttr, F])
  refine call_intro (OrI_ok _ _ (st_rd1 S) (st_rd1 S)) ?_
  rintro _ _ ⟨rfl, rfl⟩
  (try simp (maxSteps := 1000000) (disch := first | omega | assumption | exact Nat.le_of_ble_eq_true rfl) only [go_sem, ↓mwp_block, simprocAttr])
  refine ⟨S.tl, ?_⟩
  (try simp (maxSteps := 1000000) (disch := first | omega | assumption | exact Nat.le_of_ble_eq_true rfl) only [go_sem, ↓mwp_block, simprocAttr])
  exact hK _ _ ⟨rfl, S.tl.tl.tl⟩
/-- How many stand ahead. -/
def posT (xs : List Tm) (x : Tm) : Nat := (xs.takeWhile (fun y => decide (aheadT y x))).length
theorem posT_eq {xs : List Tm} {x : Tm} {i : Nat} (hi : i ≤ xs.length) (h1 : ∀ k (hk : k < xs.length), k < i → aheadT xs[k] x) (h2 : ∀ k (hk : k < xs.length), i ≤ k → ¬ aheadT xs[k] x) : posT xs x = i := by
  unfold posT
  induction xs generalizing i with
  | nil => simp at hi; simp [hi]
  | cons y ys ih =>
    rw [List.takeWhile_cons]
    cases i with
    | zero =>
      have := h2 0 (by simp) (by omega)
      simp only [List.getElem_cons_zero] at this
      simp [this]
    | succ i =>
      have := h1 0 (by simp) (by omega)
      simp only [List.getElem_cons_zero] at this
      simp only [this, decide_true, if_true, List.length_cons]
      rw [ih (i := i) (by simpa using hi) (fun k hk hki => h1 (k + 1) (by simpa using hk) (by omega)) (fun k hk hki => h2 (k + 1) (by simpa using hk) (by omega))]
theorem aheadT_trans {a b c : Tm} (h1 : aheadT a b) (h2 : aheadT b c) : aheadT a c := by
  unfold aheadT at *
  omega
theorem order_call {a b : Tm} {K : Value → Heap → Prop} {s : Tag h} {t : Tag K} (S : St h0 h l) (hk : ∀ h', St h0 h' l → K (.int .i64 (ordT a b)) h') : callvT Try.prog (.func (.func 59) #[] #[]) [.agg (tmE a).toArray, .agg (tmE b).toArray] h K s t :=
  callv_ok' (a := []) (b := []) ok_timer_order ((order_ok a b S).mono fun v h' ⟨e, S'⟩ => e ▸ hk h' S')
theorem Search_ok {xs : List Tm} {x : Tm} {A : Option Addr} {c : Nat} (S : St h0 h l) (ha : ∀ h', St h0 h' l → Arr tmE 2 h' A xs) (hs : xs.Pairwise aheadT) (hn : xs.length < 1000000) :
    CallsH Try.prog 58 [.slice A xs.length c, .agg (tmE x).toArray, .func (.func 59) #[] #[]] h fun v h' => (∃ b, v = .tuple #[.int .i64 (posT xs x), .bool b]) ∧ St h0 h' l := by
  have hmono : ∀ j k (hj : j < xs.length) (hk : k < xs.length), j < k → aheadT xs[j] xs[k] := fun j k hj hk hjk => List.pairwise_iff_getElem.1 hs j k hj hk hjk
  (refine enterK c_slices_BinarySearchFunc_timer_Timer_timer_Timer_timer_Timer (Nat.le_of_ble_eq_true rfl) fun K hK => ?_; (try simp (maxSteps := 1000000) (disch := first | omega | assumption | exact Nat.le_of_ble_eq_true rfl) only [go_sem, ↓mwp_block, simprocAttr, ir_slices_BinarySearchFunc_timer_Timer_timer_Timer_timer_Timer]))
  (refine st_alloc S ?_; clear S; intro p h S; (try simp only [splice_cons, splice_nil, List.set_cons_zero, List.set_cons_succ, Nat.zero_add, Nat.reduceAdd, List.cons_append, List.nil_append] at S); ((try clear F); have F := S.all; (try simp only [all_cons, all_nil, says_cell, and_true] at F)))
  (try simp (maxSteps := 1000000) (disch := first | omega | assumption | exact Nat.le_of_ble_eq_true rfl) only [go_sem, ↓mwp_block, simprocAttr, F])
  have hrx : ∀ {h : Heap} (S : St h0 h (cellA p (tmE x) 30 :: l)) (m : Nat) (hml : m < xs.length), ∃ bk off, A = some ⟨bk, off, none⟩ ∧ ∀ K t, readT (fun h' => St h0 h' (cellA p (tmE x) 30 :: l)) (fun h' => bindV (rdN h' bk (off + m * 2) 2) fun cs => some (.agg cs.toArray)) K t = bindT (some (.agg (tmE xs[m]).toArray)) K ⟨⟩ := by
    intro h S m hml
    obtain ⟨b0, o0, hA, _⟩ := ha h S.tl m hml
    refine ⟨b0, o0, hA, fun K t => reads_of S fun h' s => ?_⟩
    obtain ⟨b1, o1, hA1, hr1⟩ := ha h' s.tl m hml
    rw [hA] at hA1
    cases hA1
    rw [hr1]; rfl
  have hrp : ∀ {h : Heap} (S : St h0 h (cellA p (tmE x) 30 :: l)), ∀ K t, readT (fun h' => St h0 h' (cellA p (tmE x) 30 :: l)) (fun h' => bindV (rdN h' p 0 2) fun cs => some (.agg cs.toArray)) K t = bindT (some (.agg (tmE x).toArray)) K ⟨⟩ := by
    intro h S K t
    exact reads_of S fun h' s => by rw [st_rdN s (by simp [tmE])]; rfl
  refine loop_intro (fun ρ h' => St h0 h' (cellA p (tmE x) 30 :: l) ∧ ρ 0 = .slice A xs.length c ∧ ρ 2 = .func (.func 59) #[] #[] ∧ ρ 4 = .pointer (some ⟨p, 0, none⟩) ∧ ρ 8 = .int .i64 xs.length ∧ ∃ i j : Nat, ρ 9 = .int .i64 i ∧ ρ 10 = .int .i64 j ∧ i ≤ j ∧ j ≤ xs.length ∧ (∀ k (hk : k < xs.length), k < i → aheadT xs[k] x) ∧ (∀ k (hk : k < xs.length), j ≤ k → ¬ aheadT xs[k] x)) (fun ρ _ => (iv (ρ 10)).toNat - (iv (ρ 9)).toNat) ?_ ?_
  · (try simp (maxSteps := 1000000) (disch := first | omega | assumption | exact Nat.le_of_ble_eq_true rfl) only [go_sem, ↓mwp_block, simprocAttr])
    exact ⟨S, 0, xs.length, rfl, rfl, by omega, by omega, fun k hk h => by omega, fun k hk h => by omega⟩
  · clear S F
    rintro ρ h J hJ ⟨S, e0, e2, e4, e8, i, j, e9, e10, hij, hj, h1, h2⟩
    (try simp (maxSteps := 1000000) (disch := first | omega | assumption | exact Nat.le_of_ble_eq_true rfl) only [go_sem, ↓mwp_block, simprocAttr, e9, e10])
    refine cond_dec (fun hlt => ?_) (fun hlt => ?_)
    · have hm : IntKind.i64.wrap (((i : Int) + j).fdiv (2 ^ min 1 64)) = (((i + j) / 2 : Nat) : Int) := by
        rw [show (2 : Int) ^ min 1 64 = 2 from rfl, Int.fdiv_eq_ediv_of_nonneg _ (by omega), show ((i : Int) + j) / 2 = (((i + j) / 2 : Nat) : Int) by omega]
        exact wrap_i64 (by omega) (by omega)
      generalize hmd : (i + j) / 2 = m at hm
      have hml : m < xs.length := by omega
      (try simp (maxSteps := 1000000) (disch := first | omega | assumption | exact Nat.le_of_ble_eq_true rfl) only [go_sem, ↓mwp_block, simprocAttr, e9, e10, hm])
      obtain ⟨bk, off, rfl, rx⟩ := hrx S m hml
      have rp := hrp S
      refine draw_st S ?_
      (try simp (maxSteps := 1000000) (disch := first | omega | assumption | exact Nat.le_of_ble_eq_true rfl) only [go_sem, ↓mwp_block, simprocAttr, e0, e2, e4, rx, rp])
      refine order_call S fun h' S => ?_
      (try simp (maxSteps := 1000000) (disch := first | omega | assumption | exact Nat.le_of_ble_eq_true rfl) only [go_sem, ↓mwp_block, simprocAttr])
      refine ⟨S, ?_⟩
      (try simp (maxSteps := 1000000) (disch := first | omega | assumption | exact Nat.le_of_ble_eq_true rfl) only [go_sem, ↓mwp_block, simprocAttr])
      refine cond_dec (fun ho => ?_) (fun ho => ?_)
      · have ho := (ordT_lt _ _).1 ho
        (try simp (maxSteps := 1000000) (disch := first | omega | assumption | exact Nat.le_of_ble_eq_true rfl) only [go_sem, ↓mwp_block, simprocAttr])
        refine hJ _ _ ⟨S, ?_⟩ ?_
        · (try simp (maxSteps := 1000000) (disch := first | omega | assumption | exact Nat.le_of_ble_eq_true rfl) only [go_sem, ↓mwp_block, simprocAttr, e0, e2, e4, e8, e10])
          exact ⟨m + 1, j, rfl, rfl, by omega, hj, fun k hk hkm => by
            by_cases hkm' : k = m
            · subst hkm'; exact ho
            · exact aheadT_trans (hmono k m hk hml (by omega)) ho, h2⟩
        · (try simp (maxSteps := 1000000) (disch := first | omega | assumption | exact Nat.le_of_ble_eq_true rfl) only [go_sem, ↓mwp_block, simprocAttr, e9, e10])
          omega
      · have ho := fun h => ho ((ordT_lt _ _).2 h)
        (try simp (maxSteps := 1000000) (disch := first | omega | assumption | exact Nat.le_of_ble_eq_true rfl) only [go_sem, ↓mwp_block, simprocAttr])
        refine hJ _ _ ⟨S, ?_⟩ ?_
        · (try simp (maxSteps := 1000000) (disch := first | omega | assumption | exact Nat.le_of_ble_eq_true rfl) only [go_sem, ↓mwp_block, simprocAttr, e0, e2, e4, e8, e9])
          exact ⟨i, m, rfl, rfl, by omega, by omega, h1, fun k hk hkm => by
            by_cases hkm' : k = m
            · subst hkm'; exact ho
            · exact fun h => ho (aheadT_trans (hmono m k hml hk (by omega)) h)⟩
        · (try simp (maxSteps := 1000000) (disch := first | omega | assumption | exact Nat.le_of_ble_eq_true rfl) only [go_sem, ↓mwp_block, simprocAttr, e9, e10])
          omega
    · obtain rfl : i = j := by omega
      have hpos : posT xs x = i := posT_eq hj h1 h2
      by_cases hin : (i : Int) < xs.length
      · obtain ⟨bk, off, rfl, rx⟩ := hrx S i (by omega)
        have rp := hrp S
        (try simp (maxSteps := 1000000) (disch := first | omega | assumption | exact Nat.le_of_ble_eq_true rfl) only [go_sem, ↓mwp_block, simprocAttr, e9, e8])
        refine draw_st S ?_
        (try simp (maxSteps := 1000000) (disch := first | omega | assumption | exact Nat.le_of_ble_eq_true rfl) only [go_sem, ↓mwp_block, simprocAttr, e0, e2, e4, e8, e9, rx, rp, hin])
        refine order_call S fun h' S => ?_
        (try simp (maxSteps := 1000000) (disch := first | omega | assumption | exact Nat.le_of_ble_eq_true rfl) only [go_sem, ↓mwp_block, simprocAttr])
        refine ⟨S, ?_⟩
        (try simp (maxSteps := 1000000) (disch := first | omega | assumption | exact Nat.le_of_ble_eq_true rfl) only [go_sem, ↓mwp_block, simprocAttr])
        exact hK _ _ ⟨⟨_, by rw [hpos]⟩, S.tl⟩
      · (try simp (maxSteps := 1000000) (disch := first | omega | assumption | exact Nat.le_of_ble_eq_true rfl) only [go_sem, ↓mwp_block, simprocAttr, e9, e8])
        refine draw_st S ?_
        (try simp (maxSteps := 1000000) (disch := first | omega | assumption | exact Nat.le_of_ble_eq_true rfl) only [go_sem, ↓mwp_block, simprocAttr, e0, e2, e4, e8, e9, hin])
        exact hK _ _ ⟨⟨_, by rw [hpos]⟩, S.tl⟩
end
end Go.Proofs.Ytnjjdpeglkiifaa.MX
