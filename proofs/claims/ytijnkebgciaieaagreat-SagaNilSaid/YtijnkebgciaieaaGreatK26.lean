import Derived.Test.YtijnkebgciaieaaGreatK25
namespace Go.Proofs.YtijnkebgciaieaaGreat.MX
open Go Go.Proofs
set_option linter.unusedSimpArgs false
set_option linter.unusedVariables false
section
set_option maxHeartbeats 4000000
def cmpI (a b : Int) : Int := if a < b then -1 else if b < a then 1 else 0
def ordT (a b : Tm) : Int := if cmpI a.day b.day = 0 then cmpI a.num b.num else cmpI a.day b.day
def aheadT (a b : Tm) : Prop := a.day < b.day ∨ (a.day = b.day ∧ a.num < b.num)
instance (a b : Tm) : Decidable (aheadT a b) := by unfold aheadT; exact inferInstance
theorem ordT_lt (a b : Tm) : ordT a b < 0 ↔ aheadT a b := by
 unfold ordT cmpI aheadT
 split <;> (rename_i h; revert h; repeat' split) <;> omega
theorem isNaNI_ok (a : Int) (h : Heap) : CallsH Tryz.prog 158 [.int .i64 a] h fun v h' => v = .bool false ∧ h' = h := by
 (refine eK c_cmp_isNaN_int (l_a rfl) fun K hK => ?_; (try simp (disch := first|omega|assumption|exact l_a rfl) only [go_sem, ↓wBk, simprocAttr, ir_cmp_isNaN_int]))
 exact hK _ _ ⟨rfl, rfl⟩
theorem CompareI_ok (a b : Int) (h : Heap) : CallsH Tryz.prog 141 [.int .i64 a, .int .i64 b] h fun v h' => v = .int .i64 (cmpI a b) ∧ h' = h := by
 unfold cmpI
 by_cases h1 : a < b
 ·(refine eK c_cmp_Compare_int (l_a rfl) fun K hK => ?_; (try simp (disch := first|omega|assumption|exact l_a rfl) only [go_sem, ↓wBk, simprocAttr, ir_cmp_Compare_int]))
  refine cI (isNaNI_ok _ _) ?_
  rintro _ _ ⟨rfl, rfl⟩
  (try simp (disch := first|omega|assumption|exact l_a rfl) only [go_sem, ↓wBk, simprocAttr])
  refine cI (isNaNI_ok _ _) ?_
  rintro _ _ ⟨rfl, rfl⟩
  (try simp (disch := first|omega|assumption|exact l_a rfl) only [go_sem, ↓wBk, simprocAttr, h1])
  exact hK _ _ ⟨by simp [h1], rfl⟩
 ·by_cases h2 : b < a
  ·(refine eK c_cmp_Compare_int (l_a rfl) fun K hK => ?_; (try simp (disch := first|omega|assumption|exact l_a rfl) only [go_sem, ↓wBk, simprocAttr, ir_cmp_Compare_int]))
   refine cI (isNaNI_ok _ _) ?_
   rintro _ _ ⟨rfl, rfl⟩
   (try simp (disch := first|omega|assumption|exact l_a rfl) only [go_sem, ↓wBk, simprocAttr])
   refine cI (isNaNI_ok _ _) ?_
   rintro _ _ ⟨rfl, rfl⟩
   (try simp (disch := first|omega|assumption|exact l_a rfl) only [go_sem, ↓wBk, simprocAttr, h1, h2])
   exact hK _ _ ⟨by simp [h1, h2], rfl⟩
  ·(refine eK c_cmp_Compare_int (l_a rfl) fun K hK => ?_; (try simp (disch := first|omega|assumption|exact l_a rfl) only [go_sem, ↓wBk, simprocAttr, ir_cmp_Compare_int]))
   refine cI (isNaNI_ok _ _) ?_
   rintro _ _ ⟨rfl, rfl⟩
   (try simp (disch := first|omega|assumption|exact l_a rfl) only [go_sem, ↓wBk, simprocAttr])
   refine cI (isNaNI_ok _ _) ?_
   rintro _ _ ⟨rfl, rfl⟩
   (try simp (disch := first|omega|assumption|exact l_a rfl) only [go_sem, ↓wBk, simprocAttr, h1, h2])
   exact hK _ _ ⟨by simp [h1, h2], rfl⟩
theorem OrI_ok (a b : Int) {h : Heap} {g c : Nat} (r0 : rd1 h (.pointer (some ⟨g, 0, none⟩)) = some (.int .i64 a)) (r1 : rd1 h (.pointer (some ⟨g, 1, none⟩)) = some (.int .i64 b)) :
  CallsH Tryz.prog 140 [.slice (some ⟨g, 0, none⟩) 2 c] h fun v h' => v = .int .i64 (if a = 0 then b else a) ∧ h' = h := by
 by_cases ha : a = 0
 ·by_cases hb : b = 0
  ·(refine eK c_cmp_Or_int (l_a rfl) fun K hK => ?_; (try simp (disch := first|omega|assumption|exact l_a rfl) only [go_sem, ↓wBk, simprocAttr, ir_cmp_Or_int]))
   refine loop_unroll 3 ?_
   (try simp (disch := first|omega|assumption|exact l_a rfl) only [go_sem, ↓wBk, simprocAttr, r0, r1, ha, hb])
   exact hK _ _ ⟨by simp [ha, hb], rfl⟩
  ·(refine eK c_cmp_Or_int (l_a rfl) fun K hK => ?_; (try simp (disch := first|omega|assumption|exact l_a rfl) only [go_sem, ↓wBk, simprocAttr, ir_cmp_Or_int]))
   refine loop_unroll 3 ?_
   (try simp (disch := first|omega|assumption|exact l_a rfl) only [go_sem, ↓wBk, simprocAttr, r0, r1, ha, hb])
   exact hK _ _ ⟨by simp [ha, hb], rfl⟩
 ·(refine eK c_cmp_Or_int (l_a rfl) fun K hK => ?_; (try simp (disch := first|omega|assumption|exact l_a rfl) only [go_sem, ↓wBk, simprocAttr, ir_cmp_Or_int]))
  refine loop_unroll 3 ?_
  (try simp (disch := first|omega|assumption|exact l_a rfl) only [go_sem, ↓wBk, simprocAttr, r0, r1, ha])
  exact hK _ _ ⟨by simp [ha], rfl⟩
section
variable {h0 h : Heap} {l : List HP}
theorem order_ok (a b : Tm) (S : St h0 h l) : CallsH Tryz.prog 101 [.agg (tmE a).toArray, .agg (tmE b).toArray] h fun v h' => v = .int .i64 (ordT a b) ∧ St h0 h' l := by
 simp only [tmE]
 (refine eK c_timer_order (l_a rfl) fun K hK => ?_; (try simp (disch := first|omega|assumption|exact l_a rfl) only [go_sem, ↓wBk, simprocAttr, ir_timer_order]))
 (refine tA S ?_; clear S; intro p h S; (try simp only [sC, sN, l_h, l_i, Nat.zero_add, Nat.reduceAdd, l_j, l_k] at S); ((try clear F); have F := S.all; (try simp only [aC, aN, yC, and_true] at F)))
 (try simp (disch := first|omega|assumption|exact l_a rfl) only [go_sem, ↓wBk, simprocAttr, F])
 (refine tA S ?_; clear S; intro q h S; (try simp only [sC, sN, l_h, l_i, Nat.zero_add, Nat.reduceAdd, l_j, l_k] at S); ((try clear F); have F := S.all; (try simp only [aC, aN, yC, and_true] at F)))
 (try simp (disch := first|omega|assumption|exact l_a rfl) only [go_sem, ↓wBk, simprocAttr, F])
 have rq : ∀ off K t, readT (fun h' => St h0 h' _) (fun h' => rd1 h' (.pointer (some ⟨q, off, none⟩))) K t = bindT ([Value.int .i64 b.day, Value.int .i64 b.num][off]?) K ⟨⟩ := fun off K t => reads_of S (fun h' s => st_rd1 s)
 have rp : ∀ off K t, readT (fun h' => St h0 h' _) (fun h' => rd1 h' (.pointer (some ⟨p, off, none⟩))) K t = bindT ([Value.int .i64 a.day, Value.int .i64 a.num][off]?) K ⟨⟩ := fun off K t => reads_of S (fun h' s => st_rd1 s.p1)
 refine draw_st S ?_
 (try simp (disch := first|omega|assumption|exact l_a rfl) only [go_sem, ↓wBk, simprocAttr, rp, rq])
 refine cI (CompareI_ok _ _ _) ?_
 rintro _ _ ⟨rfl, rfl⟩
 (try simp (disch := first|omega|assumption|exact l_a rfl) only [go_sem, ↓wBk, simprocAttr, rp, rq])
 try refine ⟨S, ?_⟩
 (try simp (disch := first|omega|assumption|exact l_a rfl) only [go_sem, ↓wBk, simprocAttr, rp, rq])
 refine cI (CompareI_ok _ _ _) ?_
 rintro _ _ ⟨rfl, rfl⟩
 (try simp (disch := first|omega|assumption|exact l_a rfl) only [go_sem, ↓wBk, simprocAttr, rp, rq])
 try refine ⟨S, ?_⟩
 (try simp (disch := first|omega|assumption|exact l_a rfl) only [go_sem, ↓wBk, simprocAttr, rp, rq, zerosL])
 (refine tA S ?_; clear S; intro g h S; (try simp only [sC, sN, l_h, l_i, Nat.zero_add, Nat.reduceAdd, l_j, l_k] at S); ((try clear F); have F := S.all; (try simp only [aC, aN, yC, and_true] at F)))
 try refine ⟨S.tl, ?_⟩
 (try simp (disch := first|omega|assumption|exact l_a rfl) only [go_sem, ↓wBk, simprocAttr, F])
 refine cI (OrI_ok _ _ (st_rd1 S) (st_rd1 S)) ?_
 rintro _ _ ⟨rfl, rfl⟩
 (try simp (disch := first|omega|assumption|exact l_a rfl) only [go_sem, ↓wBk, simprocAttr])
 try refine ⟨S.tl, ?_⟩
 (try simp (disch := first|omega|assumption|exact l_a rfl) only [go_sem, ↓wBk, simprocAttr])
 exact hK _ _ ⟨rfl, S.tl.tl.tl⟩
def posT (xs : List Tm) (x : Tm) : Nat := (xs.takeWhile (fun y => decide (aheadT y x))).length
theorem posT_eq {xs : List Tm} {x : Tm} {i : Nat} (hi : i ≤ xs.length) (h1 : ∀ k (hk : k < xs.length), k < i → aheadT xs[k] x) (h2 : ∀ k (hk : k < xs.length), i ≤ k → ¬ aheadT xs[k] x) : posT xs x = i := by
 unfold posT
 induction xs generalizing i with
 | nil => simp at hi; simp [hi]
 | cons y ys ih =>
  rw [List.takeWhile_cons]
  cases i with
  | zero =>
   have := h2 0 (by simp) (by omega)
   simp only [List.getElem_cons_zero] at this
   simp [this]
  | succ i =>
   have := h1 0 (by simp) (by omega)
   simp only [List.getElem_cons_zero] at this
   simp only [this, decide_true, if_true, l_f]
   rw [ih (i := i) (by simpa using hi) (fun k hk hki => h1 (k + 1) (by simpa using hk) (by omega)) (fun k hk hki => h2 (k + 1) (by simpa using hk) (by omega))]
theorem aheadT_trans {a b c : Tm} (h1 : aheadT a b) (h2 : aheadT b c) : aheadT a c := by
 unfold aheadT at *
 omega
theorem order_call {a b : Tm} {K : Value → Heap → Prop} {s : Tag h} {t : Tag K} (S : St h0 h l) (hk : ∀ h', St h0 h' l → K (.int .i64 (ordT a b)) h') : callvT Tryz.prog (.func (.func 101) #[] #[]) [.agg (tmE a).toArray, .agg (tmE b).toArray] h K s t :=
 callv_ok' (a := []) (b := []) ok_timer_order ((order_ok a b S).mono fun v h' ⟨e, S'⟩ => e ▸ hk h' S')
theorem Search_ok {xs : List Tm} {x : Tm} {A : Option Addr} {c : Nat} (S : St h0 h l) (ha : ∀ h', St h0 h' l → Arr tmE 2 h' A xs) (hs : xs.Pairwise aheadT) (hn : xs.length < 1000000) :
  CallsH Tryz.prog 100 [.slice A xs.length c, .agg (tmE x).toArray, .func (.func 101) #[] #[]] h fun v h' => (∃ b, v = .tuple #[.int .i64 (posT xs x), .bool b]) ∧ St h0 h' l := by
 have hmono : ∀ j k (hj : j < xs.length) (hk : k < xs.length), j < k → aheadT xs[j] xs[k] := fun j k hj hk hjk => List.pairwise_iff_getElem.1 hs j k hj hk hjk
 (refine eK c_slices_BinarySearchFunc_timer_Timer_timer_Timer_timer_Timer (l_a rfl) fun K hK => ?_; (try simp (disch := first|omega|assumption|exact l_a rfl) only [go_sem, ↓wBk, simprocAttr, ir_slices_BinarySearchFunc_timer_Timer_timer_Timer_timer_Timer]))
 (refine tA S ?_; clear S; intro p h S; (try simp only [sC, sN, l_h, l_i, Nat.zero_add, Nat.reduceAdd, l_j, l_k] at S); ((try clear F); have F := S.all; (try simp only [aC, aN, yC, and_true] at F)))
 (try simp (disch := first|omega|assumption|exact l_a rfl) only [go_sem, ↓wBk, simprocAttr, F])
 have hrx : ∀ {h : Heap} (S : St h0 h (cellA p (tmE x) 113 :: l)) (m : Nat) (hml : m < xs.length), ∃ bk off, A = some ⟨bk, off, none⟩ ∧ ∀ K t, readT (fun h' => St h0 h' (cellA p (tmE x) 113 :: l)) (fun h' => bindV (rdN h' bk (off + m * 2) 2) fun cs => some (.agg cs.toArray)) K t = bindT (some (.agg (tmE xs[m]).toArray)) K ⟨⟩ := by
  intro h S m hml
  obtain ⟨b0, o0, hA, _⟩ := ha h S.tl m hml
  refine ⟨b0, o0, hA, fun K t => reads_of S fun h' s => ?_⟩
  obtain ⟨b1, o1, hA1, hr1⟩ := ha h' s.tl m hml
  rw [hA] at hA1
  cases hA1
  rw [hr1]; rfl
 have hrp : ∀ {h : Heap} (S : St h0 h (cellA p (tmE x) 113 :: l)), ∀ K t, readT (fun h' => St h0 h' (cellA p (tmE x) 113 :: l)) (fun h' => bindV (rdN h' p 0 2) fun cs => some (.agg cs.toArray)) K t = bindT (some (.agg (tmE x).toArray)) K ⟨⟩ := by
  intro h S K t
  exact reads_of S fun h' s => by rw [st_rdN s (by simp [tmE])]; rfl
 refine lI (fun ρ h' => St h0 h' (cellA p (tmE x) 113 :: l) ∧ ρ 0 = .slice A xs.length c ∧ ρ 2 = .func (.func 101) #[] #[] ∧ ρ 4 = .pointer (some ⟨p, 0, none⟩) ∧ ρ 8 = .int .i64 xs.length ∧ ∃ i j : Nat, ρ 9 = .int .i64 i ∧ ρ 10 = .int .i64 j ∧ i ≤ j ∧ j ≤ xs.length ∧ (∀ k (hk : k < xs.length), k < i → aheadT xs[k] x) ∧ (∀ k (hk : k < xs.length), j ≤ k → ¬ aheadT xs[k] x)) (fun ρ _ => (iv (ρ 10)).toNat - (iv (ρ 9)).toNat) ?_ ?_
 ·(try simp (disch := first|omega|assumption|exact l_a rfl) only [go_sem, ↓wBk, simprocAttr])
  exact ⟨S, 0, xs.length, rfl, rfl, by omega, by omega, fun k hk h => by omega, fun k hk h => by omega⟩
 ·clear S F
  rintro ρ h J hJ ⟨S, e0, e2, e4, e8, i, j, e9, e10, hij, hj, h1, h2⟩
  (try simp (disch := first|omega|assumption|exact l_a rfl) only [go_sem, ↓wBk, simprocAttr, e9, e10])
  refine cD (fun hlt => ?_) (fun hlt => ?_)
  ·have hm : IntKind.i64.wrap (((i : Int) + j).fdiv (2 ^ min 1 64)) = (((i + j) / 2 : Nat) : Int) := by
    rw [show (2 : Int) ^ min 1 64 = 2 from rfl, Int.fdiv_eq_ediv_of_nonneg _ (by omega), show ((i : Int) + j) / 2 = (((i + j) / 2 : Nat) : Int) by omega]
    exact wrap_i64 (by omega) (by omega)
   generalize hmd : (i + j) / 2 = m at hm
   have hml : m < xs.length := by omega
   (try simp (disch := first|omega|assumption|exact l_a rfl) only [go_sem, ↓wBk, simprocAttr, e9, e10, hm])
   obtain ⟨bk, off, rfl, rx⟩ := hrx S m hml
   have rp := hrp S
   refine draw_st S ?_
   (try simp (disch := first|omega|assumption|exact l_a rfl) only [go_sem, ↓wBk, simprocAttr, e0, e2, e4, rx, rp])
   refine order_call S fun h' S => ?_
   (try simp (disch := first|omega|assumption|exact l_a rfl) only [go_sem, ↓wBk, simprocAttr])
   try refine ⟨S, ?_⟩
   (try simp (disch := first|omega|assumption|exact l_a rfl) only [go_sem, ↓wBk, simprocAttr])
   refine cD (fun ho => ?_) (fun ho => ?_)
   ·have ho := (ordT_lt _ _).1 ho
    (try simp (disch := first|omega|assumption|exact l_a rfl) only [go_sem, ↓wBk, simprocAttr])
    refine hJ _ _ ⟨S, ?_⟩ ?_
    ·(try simp (disch := first|omega|assumption|exact l_a rfl) only [go_sem, ↓wBk, simprocAttr, e0, e2, e4, e8, e10])
     exact ⟨m + 1, j, rfl, rfl, by omega, hj, fun k hk hkm => by
      by_cases hkm' : k = m
      ·subst hkm'; exact ho
      ·exact aheadT_trans (hmono k m hk hml (by omega)) ho, h2⟩
    ·(try simp (disch := first|omega|assumption|exact l_a rfl) only [go_sem, ↓wBk, simprocAttr, e9, e10])
     omega
   ·have ho := fun h => ho ((ordT_lt _ _).2 h)
    (try simp (disch := first|omega|assumption|exact l_a rfl) only [go_sem, ↓wBk, simprocAttr])
    refine hJ _ _ ⟨S, ?_⟩ ?_
    ·(try simp (disch := first|omega|assumption|exact l_a rfl) only [go_sem, ↓wBk, simprocAttr, e0, e2, e4, e8, e9])
     exact ⟨i, m, rfl, rfl, by omega, by omega, h1, fun k hk hkm => by
      by_cases hkm' : k = m
      ·subst hkm'; exact ho
      ·exact fun h => ho (aheadT_trans (hmono m k hml hk (by omega)) h)⟩
    ·(try simp (disch := first|omega|assumption|exact l_a rfl) only [go_sem, ↓wBk, simprocAttr, e9, e10])
     omega
  ·obtain rfl : i = j := by omega
   have hpos : posT xs x = i := posT_eq hj h1 h2
   by_cases hin : (i : Int) < xs.length
   ·obtain ⟨bk, off, rfl, rx⟩ := hrx S i (by omega)
    have rp := hrp S
    (try simp (disch := first|omega|assumption|exact l_a rfl) only [go_sem, ↓wBk, simprocAttr, e9, e8])
    refine draw_st S ?_
    (try simp (disch := first|omega|assumption|exact l_a rfl) only [go_sem, ↓wBk, simprocAttr, e0, e2, e4, e8, e9, rx, rp, hin])
    refine order_call S fun h' S => ?_
    (try simp (disch := first|omega|assumption|exact l_a rfl) only [go_sem, ↓wBk, simprocAttr])
    try refine ⟨S, ?_⟩
    (try simp (disch := first|omega|assumption|exact l_a rfl) only [go_sem, ↓wBk, simprocAttr])
    exact hK _ _ ⟨⟨_, by rw [hpos]⟩, S.tl⟩
   ·(try simp (disch := first|omega|assumption|exact l_a rfl) only [go_sem, ↓wBk, simprocAttr, e9, e8])
    refine draw_st S ?_
    (try simp (disch := first|omega|assumption|exact l_a rfl) only [go_sem, ↓wBk, simprocAttr, e0, e2, e4, e8, e9, hin])
    exact hK _ _ ⟨⟨_, by rw [hpos]⟩, S.tl⟩
end
end
section
set_option maxHeartbeats 4000000
def timA (t : Nat) (L : List Tm) : HP := exA fun s => starA (cellA t [s] 85) (offA tmE 2 113 s L)
def GoodT (L : List Tm) : Prop := L.Pairwise aheadT ∧ L.Pairwise (fun a b => a.num ≠ b.num)
def isNum (n : Int) (x : Tm) : Bool := decide (x.num = n)
def without (L : List Tm) (n : Int) : List Tm := L.filter fun x => !isNum n x
section
variable {h0 h : Heap} {l : List HP} {t : Nat} {L : List Tm}
theorem St.tim : St h0 h (timA t L :: l) ↔ ∃ s, St h0 h (cellA t [s] 85 :: offA tmE 2 113 s L :: l) := by
 unfold timA
 rw [St.ex]
 simp only [St.star]
theorem St.timO {s : Value} (S : St h0 h (cellA t [s] 85 :: offA tmE 2 113 s L :: l)) : ∃ A c, s = .slice A L.length c := S.p1.offSl
theorem numAsk {h : Heap} {q : Nat} {n : Int} (hq : blk h q = some ([.int .i64 n], 3, (0, 0))) :
  Asks Tryz.prog tmE h [] (.func (.func 145) #[] (List.toArray [.pointer (some ⟨q, 0, none⟩)])) (isNum n) := by
 refine ⟨_, _, rfl, ok_timer_Timers_at_1, fun x h' hf => ?_⟩
 have hr : rd1 h' (.pointer (some ⟨q, 0, none⟩)) = some (.int .i64 n) := by rw [hf.rd1 (blk_lt hq) (by simp), rd1_blk hq]; rfl
 have S := St.nil h'
 simp only [tmE]
 (refine eK c_timer_Timers_at_1 (l_a rfl) fun K hK => ?_; (try simp (disch := first|omega|assumption|exact l_a rfl) only [go_sem, ↓wBk, simprocAttr, ir_timer_Timers_at_1]))
 (refine tA S ?_; clear S; intro p h S; (try simp only [sC, sN, l_h, l_i, Nat.zero_add, Nat.reduceAdd, l_j, l_k] at S); ((try clear F); have F := S.all; (try simp only [aC, aN, yC, and_true] at F)))
 have hr : rd1 h (.pointer (some ⟨q, 0, none⟩)) = some (.int .i64 n) := by rw [S.fr.rd1 (Nat.lt_of_lt_of_le (blk_lt hq) hf.size) (by simp)]; exact hr
 (try simp (disch := first|omega|assumption|exact l_a rfl) only [go_sem, ↓wBk, simprocAttr, F, hr])
 exact hK _ _ ⟨by rw [dcd_eq]; rfl, S.fr⟩
theorem at_ok (n : Int) (S : St h0 h (timA t L :: l)) (hL : L.length < 1000000) : CallsH Tryz.prog 104 [.pointer (some ⟨t, 0, none⟩), .int .i64 n] h fun v h' => v = .int .i64 (idxOf (isNum n) L 0) ∧ St h0 h' (timA t L :: l) := by
 obtain ⟨s, S⟩ := St.tim.1 S
 obtain ⟨A, c, rfl⟩ := S.timO
 (refine eK c_timer_Timers_at (l_a rfl) fun K hK => ?_; (try simp (disch := first|omega|assumption|exact l_a rfl) only [go_sem, ↓wBk, simprocAttr, ir_timer_Timers_at]))
 (refine tA S ?_; clear S; intro q h S; (try simp only [sC, sN, l_h, l_i, Nat.zero_add, Nat.reduceAdd, l_j, l_k] at S); ((try clear F); have F := S.all; (try simp only [aC, aN, yC, and_true] at F)))
 (try simp (disch := first|omega|assumption|exact l_a rfl) only [go_sem, ↓wBk, simprocAttr, F])
 refine cI (indexFunc_ok c_slices_IndexFunc_timer_Timer_timer_Timer (S.p2.offArr tmE_len) rfl (by omega) (numAsk S.blk)) ?_
 rintro v h' ⟨rfl, hf⟩
 (try simp (disch := first|omega|assumption|exact l_a rfl) only [go_sem, ↓wBk, simprocAttr])
 exact hK _ _ ⟨rfl, St.tim.2 ⟨_, (S.frame hf).tl⟩⟩
theorem CloneT_ok (S : St h0 h (timA t L :: l)) (hL : L.length < 1000000) : CallsH Tryz.prog 23 [.pointer (some ⟨t, 0, none⟩)] h fun v h' => ∃ t', v = .pointer (some ⟨t', 0, none⟩) ∧ St h0 h' (timA t' L :: timA t L :: l) := by
 obtain ⟨s, S⟩ := St.tim.1 S
 obtain ⟨A, c, rfl⟩ := S.timO
 ((try clear F); have F := S.all; (try simp only [aC, aN, yC, and_true] at F))
 (refine eK c_timer_Timers_Clone (l_a rfl) fun K hK => ?_; (try simp (disch := first|omega|assumption|exact l_a rfl) only [go_sem, ↓wBk, simprocAttr, ir_timer_Timers_Clone]))
 (try simp (disch := first|omega|assumption|exact l_a rfl) only [go_sem, ↓wBk, simprocAttr, F])
 refine cI (clone_ok (T := 113) (sz := 2) (bytes := 16) c_slices_Clone_timer_Timer_timer_Timer tmE_len (by omega) tmE_plain rfl (S.p1.offArr tmE_len) rfl ?_ (by omega) (by omega)) ?_
 ·rintro rfl
  rcases S.p1.off with ⟨_, h1⟩ | ⟨b, cap, pre, cs, post, h1, _⟩
  ·exact h1
  ·cases h1
 rintro v h' ⟨ho, hf, _⟩
 (try simp (disch := first|omega|assumption|exact l_a rfl) only [go_sem, ↓wBk, simprocAttr])
 have S := (S.ownNew hf ho).toOff
 obtain ⟨A', c', rfl⟩ := S.offSl
 (try simp (disch := first|omega|assumption|exact l_a rfl) only [go_sem, ↓wBk, simprocAttr])
 (refine tA S ?_; clear S; intro u h S; (try simp only [sC, sN, l_h, l_i, Nat.zero_add, Nat.reduceAdd, l_j, l_k] at S); ((try clear F); have F := S.all; (try simp only [aC, aN, yC, and_true] at F)))
 (try simp (disch := first|omega|assumption|exact l_a rfl) only [go_sem, ↓wBk, simprocAttr])
 exact hK _ _ ⟨u, rfl, St.tim.2 ⟨_, (St.tim.2 ⟨_, S.p3.p3⟩).p2.p2⟩⟩
end
end
section
set_option maxHeartbeats 4000000
theorem find_no {p : Tm → Bool} {L : List Tm} (hp : ∀ x ∈ L, p x = false) : L.find? p = none := List.find?_eq_none.2 fun x hx => by simp [hp x hx]
theorem find_at {p : Tm → Bool} : ∀ {L : List Tm} {i : Nat} (hi : i < L.length), (∀ x ∈ L.take i, p x = false) → p L[i] = true → L.find? p = some L[i]
 | [], i, hi, _, _ => by simp at hi
 | x :: L, 0, hi, _, h => by simpa using by simp [List.find?_cons, show p x = true from h]
 | x :: L, i + 1, hi, h1, h2 => by
  rw [List.find?_cons, show p x = false from h1 x (by simp)]
  exact find_at (by simpa using hi) (fun y hy => h1 y (by simp [hy])) h2
theorem without_no {n : Int} {L : List Tm} (hp : ∀ x ∈ L, isNum n x = false) : without L n = L := List.filter_eq_self.2 fun x hx => by simp [hp x hx]
theorem without_at {n : Int} {L : List Tm} {i : Nat} (hi : i < L.length) (h1 : ∀ x ∈ L.take i, isNum n x = false) (h2 : isNum n L[i] = true) (hg : L.Pairwise (fun a b => a.num ≠ b.num)) : without L n = L.take i ++ L.drop (i + 1) := by
 have hd : ∀ x ∈ L.drop (i + 1), isNum n x = false := by
  intro x hx
  obtain ⟨k, hk, rfl⟩ := List.mem_iff_getElem.1 hx
  rw [List.length_drop] at hk
  rw [List.getElem_drop]
  have := List.pairwise_iff_getElem.1 hg i (i + 1 + k) hi (by omega) (by omega)
  simp only [isNum, decide_eq_true_eq] at h2
  simp only [isNum, decide_eq_false_iff_not]
  rw [← h2]
  exact fun e => this e.symm
 unfold without
 conv => lhs; rw [← List.take_append_drop i L, List.drop_eq_getElem_cons hi, List.filter_append, List.filter_cons]
 rw [if_neg (by simp [h2])]
 congr 1
 ·exact List.filter_eq_self.2 fun x hx => by simp [h1 x hx]
 ·exact List.filter_eq_self.2 fun x hx => by simp [hd x hx]
def insT (L : List Tm) (x : Tm) : List Tm := L.take (posT L x) ++ x :: L.drop (posT L x)
def setT (L : List Tm) (n d : Int) : List Tm := insT (without L n) ⟨d, n⟩
def dueT (L : List Tm) (d : Int) : List Tm := L.takeWhile fun x => decide (x.day ≤ d)
def lateT (L : List Tm) (d : Int) : List Tm := L.dropWhile fun x => decide (x.day ≤ d)
def slN : Value → Nat
 | .slice _ n _ => n
 | _ => 0
def iEnc (x : Int) : List Value := [.int .i64 x]
theorem iEnc_len (x : Int) : (iEnc x).length = 1 := rfl
theorem iEnc_plain (x : Int) : pC (iEnc x) = true := rfl
section
variable {h0 h : Heap} {l : List HP} {t : Nat} {L : List Tm}
theorem St.timO' {s v : Value} {L' : List Tm} (S : St h0 h (cellA t [s] 85 :: offA tmE 2 113 v L' :: l)) : ∃ A c, v = .slice A L'.length c := S.p1.offSl
theorem St.apart {b : Nat} {cs : List Value} {T T' sz : Nat} {α : Type} {enc : α → List Value} {v : Value} {xs : List α} (S : St h0 h (cellA b cs T :: offA enc sz T' v xs :: l)) : b ∉ blkOf v := by
 obtain ⟨_, C, hp, _, D, hq, hd, _⟩ := S
 obtain ⟨rfl, _⟩ := hp
 obtain ⟨rfl, _⟩ := hq
 exact fun hm => (hd b hm).2 (by simp)
theorem OwnO.keepPush {α : Type} {enc : α → List Value} {sz T : Nat} {v : Value} {xs : List α} {o : Obj} (ho : OwnO enc sz T h v xs) : OwnO enc sz T (h.push o) v xs := ho.keep fun b hb => blk_push_old (ho.lt b hb)
theorem StopT_ok (n : Int) (S : St h0 h (timA t L :: l)) (hL : L.length < 1000000) (hg : GoodT L) : CallsH Tryz.prog 70 [.pointer (some ⟨t, 0, none⟩), .int .i64 n] h fun v h' => v = .bool (L.find? (isNum n)).isSome ∧ St h0 h' (timA t (without L n) :: l) := by
 (refine eK c_timer_Timers_Stop (l_a rfl) fun K hK => ?_; (try simp (disch := first|omega|assumption|exact l_a rfl) only [go_sem, ↓wBk, simprocAttr, ir_timer_Timers_Stop]))
 refine cI (at_ok n S hL) ?_
 clear S
 rintro _ h ⟨rfl, S⟩
 rcases idxOf_spec (isNum n) L 0 with ⟨h1, h2⟩ | ⟨i, h1, hi, h3, h4⟩
 ·simp only [Int.natCast_zero] at h1
  rw [h1]
  (try simp (disch := first|omega|assumption|exact l_a rfl) only [go_sem, ↓wBk, simprocAttr])
  exact hK _ _ ⟨by rw [find_no h2]; rfl, by rw [without_no h2]; exact S⟩
 ·simp only [Nat.zero_add, Int.natCast_zero] at h1
  have hp := h4 _ (l_r hi)
  have hf := find_at hi h3 hp
  obtain ⟨s, S⟩ := St.tim.1 S
  obtain ⟨A, c, rfl⟩ := S.timO
  ((try clear F); have F := S.all; (try simp only [aC, aN, yC, and_true] at F))
  rw [h1]
  (try simp (disch := first|omega|assumption|exact l_a rfl) only [go_sem, ↓wBk, simprocAttr, F])
  rw [show ((i : Int) + 1) = ((i + 1 : Nat) : Int) by omega]
  refine cI (deleteO_ok (T := 113) (sz := 2) (bytes := 16) c_slices_Delete_timer_Timer_timer_Timer tmE_len (by omega) tmE_plain rfl tmz_plain S.p1.off (by omega) (by omega) (by omega)) ?_
  rintro v h' ⟨ho, hfr, hb⟩
  have S := (S.p1.offUp hfr ho (fun b hm => .inl (hb b hm))).p1
  obtain ⟨A', c', rfl⟩ := S.timO'
  ((try clear F); have F := S.all; (try simp only [aC, aN, yC, and_true] at F))
  (try simp (disch := first|omega|assumption|exact l_a rfl) only [go_sem, ↓wBk, simprocAttr, F])
  (refine tS (by first | exact S | exact S.p1 | exact S.p2 | exact S.p3 | exact S.p4 | exact S.p5 | exact S.p6 | exact S.p7 | exact S.p8 | exact S.p9 | exact S.p10 | exact S.p11) (by rfl) (by rfl) (l_a rfl) ?_; clear S; intro h S; (try simp only [sC, sN, l_h, l_i, Nat.zero_add, Nat.reduceAdd, l_j, l_k] at S); ((try clear F); have F := S.all; (try simp only [aC, aN, yC, and_true] at F)))
  (try simp (disch := first|omega|assumption|exact l_a rfl) only [go_sem, ↓wBk, simprocAttr])
  rw [← without_at hi h3 hp hg.2] at S
  exact hK _ _ ⟨by rw [hf]; rfl, St.tim.2 ⟨_, S⟩⟩
theorem SetT_ok (n d : Int) (S : St h0 h (timA t L :: l)) (hL : L.length < 900000) (hg : GoodT L) : CallsH Tryz.prog 65 [.pointer (some ⟨t, 0, none⟩), .int .i64 n, .int .i64 d] h fun v h' => St h0 h' (timA t (setT L n d) :: l) := by
 (refine eK c_timer_Timers_Set (l_a rfl) fun K hK => ?_; (try simp (disch := first|omega|assumption|exact l_a rfl) only [go_sem, ↓wBk, simprocAttr, ir_timer_Timers_Set]))
 refine cI (StopT_ok n S (by omega) hg) ?_
 clear S
 rintro _ h ⟨rfl, S⟩
 (try simp (disch := first|omega|assumption|exact l_a rfl) only [go_sem, ↓wBk, simprocAttr])
 (refine tA S ?_; clear S; intro q h S; (try simp only [sC, sN, l_h, l_i, Nat.zero_add, Nat.reduceAdd, l_j, l_k] at S); ((try clear F); have F := S.all; (try simp only [aC, aN, yC, and_true] at F)))
 (try simp (disch := first|omega|assumption|exact l_a rfl) only [go_sem, ↓wBk, simprocAttr, F])
 (refine tS (by first | exact S | exact S.p1 | exact S.p2 | exact S.p3 | exact S.p4 | exact S.p5 | exact S.p6 | exact S.p7 | exact S.p8 | exact S.p9 | exact S.p10 | exact S.p11) (by rfl) (by rfl) (l_a rfl) ?_; clear S; intro h S; (try simp only [sC, sN, l_h, l_i, Nat.zero_add, Nat.reduceAdd, l_j, l_k] at S); ((try clear F); have F := S.all; (try simp only [aC, aN, yC, and_true] at F)))
 (try simp (disch := first|omega|assumption|exact l_a rfl) only [go_sem, ↓wBk, simprocAttr, F])
 have hwl : (without L n).length ≤ L.length := List.length_filter_le _ _
 have hso : (without L n).Pairwise aheadT := hg.1.sublist List.filter_sublist
 generalize hW : without L n = W at S hwl hso
 obtain ⟨s, S⟩ := St.tim.1 S.p1
 obtain ⟨A, c, rfl⟩ := S.timO
 ((try clear F); have F := S.all; (try simp only [aC, aN, yC, and_true] at F))
 have hs1 := hso
 have rt : ∀ K u, readT (fun h' => St h0 h' _) (fun h' => rd1 h' (.pointer (some ⟨t, 0, none⟩))) K u = bindT (some (.slice A W.length c)) K ⟨⟩ := fun K u => reads_of S (fun h' s => st_rd1 s)
 have rq : ∀ K u, readT (fun h' => St h0 h' _) (fun h' => bindV (rdN h' q 0 2) fun cs => some (.agg cs.toArray)) K u = bindT (some (.agg (tmE ⟨d, n⟩).toArray)) K ⟨⟩ := fun K u => reads_of S (fun h' s => by rw [st_rdN s.p2 (by simp)]; rfl)
 refine draw_st S ?_
 (try simp (disch := first|omega|assumption|exact l_a rfl) only [go_sem, ↓wBk, simprocAttr, rt, rq])
 refine cI (Search_ok (x := ⟨d, n⟩) S (fun h' s => s.p1.offArr tmE_len) hs1 (by omega)) ?_
 rintro _ h1 ⟨⟨fnd, rfl⟩, S1⟩
 (try simp (disch := first|omega|assumption|exact l_a rfl) only [go_sem, ↓wBk, simprocAttr])
 try refine ⟨S1, ?_⟩
 (try simp (disch := first|omega|assumption|exact l_a rfl) only [go_sem, ↓wBk, simprocAttr])
 clear rt rq
 refine draw_fr (blkOf (.slice A W.length c)) ?_
 have r1 : rd1 h1 (.pointer (some ⟨t, 0, none⟩)) = some (.slice A W.length c) := st_rd1 S1
 have htm : t < h1.size := blk_lt S1.blk
 have htv : t ∉ blkOf (.slice A W.length c) := S1.apart
 have rq : ∀ K u, readT (fun h' => Fr h1 h' (blkOf (.slice A W.length c))) (fun h' => bindV (rdN h' q 0 2) fun cs => some (.agg cs.toArray)) K u = bindT (some (.agg [Value.int .i64 d, .int .i64 n].toArray)) K ⟨⟩ := fun K u => by
  rw [readT_N (blk_lt S1.p2.blk) (S1.p2.d1).apart, st_rdN S1.p2 (by simp)]; rfl
 (try simp (disch := first|omega|assumption|exact l_a rfl) only [go_sem, ↓wBk, simprocAttr, r1, rq, sC, sN])
 simp only [allocT, mkSl_eq]
 have S2 : St h0 (h1.push (.cells [Value.int .i64 d, .int .i64 n].toArray 113 (0, 0))) _ := S1.alloc
 have hf2 : Fr h1 (h1.push (.cells [Value.int .i64 d, .int .i64 n].toArray 113 (0, 0))) (blkOf (.slice A W.length c)) := (Fr.refl _ _).push _
 (try simp (disch := first|omega|assumption|exact l_a rfl) only [go_sem, ↓wBk, simprocAttr, hf2, sC, sN])
 have hpl : posT W ⟨d, n⟩ ≤ W.length := List.IsPrefix.length_le (List.takeWhile_prefix _)
 refine cI (Insert_ok (x := ⟨d, n⟩) S1.p1.off.keepPush hpl (by omega) (blk_push_new rfl) (fun hm => by have := S1.p1.off.lt _ hm; omega)) ?_
 rintro v h3 ⟨ho, hf3, hb⟩
 have S3 := (S2.p2.offUp hf3 ho hb).p2
 obtain ⟨A', c', rfl⟩ := S3.timO'
 have hf4 := hf2.trans hf3
 (try simp (disch := first|omega|assumption|exact l_a rfl) only [go_sem, ↓wBk, simprocAttr, hf4])
 refine tS S3 (by rfl) (by rfl) (l_a rfl) ?_
 intro h4 S4
 simp only [sC, sN, l_h] at S4
 (try simp (disch := first|omega|assumption|exact l_a rfl) only [go_sem, ↓wBk, simprocAttr])
 refine hK _ _ ?_
 unfold setT insT
 rw [hW]
 exact (St.tim.2 ⟨_, S4⟩).d1.d1
theorem DueT_ok (d : Int) (S : St h0 h (timA t L :: l)) (hL : L.length < 1000000) : CallsH Tryz.prog 80 [.pointer (some ⟨t, 0, none⟩), .int .i64 d] h fun v h' => St h0 h' (ownA iEnc 1 3 v ((dueT L d).map Tm.num) :: timA t (lateT L d) :: l) := by
 have S0 : St h0 h (ownA iEnc 1 3 (.slice none 0 0) [] :: timA t L :: l) := S.nilS
 (refine eK c_timer_Timers_Due (l_a rfl) fun K hK => ?_; (try simp (disch := first|omega|assumption|exact l_a rfl) only [go_sem, ↓wBk, simprocAttr, ir_timer_Timers_Due]))
 refine lI (fun ρ h' => ρ 0 = .pointer (some ⟨t, 0, none⟩) ∧ ρ 1 = .int .i64 d ∧ ∃ v D M, ρ 5 = v ∧ St h0 h' (ownA iEnc 1 3 v D :: timA t M :: l) ∧ M.length ≤ L.length ∧ D.length + M.length = L.length ∧ D ++ (dueT M d).map Tm.num = (dueT L d).map Tm.num ∧ lateT M d = lateT L d) (fun ρ _ => L.length - slN (ρ 5)) ?_ ?_
 ·(try simp (disch := first|omega|assumption|exact l_a rfl) only [go_sem, ↓wBk, simprocAttr])
  exact ⟨_, [], L, rfl, S0, by omega, by simp, rfl, rfl⟩
 ·clear S S0
  rintro ρ h J hJ ⟨e0, e1, v, D, M, e5, S, hML, hDM, hD, hM⟩
  obtain ⟨Av, cv, rfl⟩ := S.sl
  obtain ⟨s, S⟩ := St.tim.1 S.p1
  obtain ⟨A, c, rfl⟩ := S.timO
  ((try clear F); have F := S.all; (try simp only [aC, aN, yC, and_true] at F))
  cases M with
  | nil =>
   simp only [l_g] at S F
   (try simp (disch := first|omega|assumption|exact l_a rfl) only [go_sem, ↓wBk, simprocAttr, e0, e1, F])
   refine hK _ _ ?_
   simp only [dueT, lateT, List.takeWhile_nil, List.dropWhile_nil, List.map_nil, l_am] at hD hM
   (try simp (disch := first|omega|assumption|exact l_a rfl) only [go_sem, ↓wBk, simprocAttr, e5])
   rw [dueT, ← hD, lateT, ← hM]
   exact (St.tim.2 ⟨_, S⟩).p1
  | cons x M =>
   obtain ⟨b, off, rfl, hr⟩ := S.p1.offArr tmE_len 0 (by simp)
   simp only [Nat.zero_mul, Nat.add_zero, List.getElem_cons_zero] at hr
   have hr0 : rd1 h (.pointer (some ⟨b, off, none⟩)) = some (.int .i64 x.day) := rP hr 0 (by omega)
   have hr1 : rd1 h (.pointer (some ⟨b, off + 1, none⟩)) = some (.int .i64 x.num) := rP hr 1 (by omega)
   generalize hn : (x :: M).length = n at S F hML hDM
   have hn1 : n = M.length + 1 := by rw [← hn]; simp
   by_cases hx : x.day ≤ d
   ·(try simp (disch := first|omega|assumption|exact l_a rfl) only [go_sem, ↓wBk, simprocAttr, e0, e1, e5, F, hr0, hr1, hx])
    (refine tA S ?_; clear S; intro g h S; (try simp only [sC, sN, l_h, l_i, Nat.zero_add, Nat.reduceAdd, l_j, l_k] at S); ((try clear F); have F := S.all; (try simp only [aC, aN, yC, and_true] at F)))
    (try simp (disch := first|omega|assumption|exact l_a rfl) only [go_sem, ↓wBk, simprocAttr])
    refine tA1 (bytes := 8) (x := x.num) iEnc_len (by omega) iEnc_plain rfl rfl S.p3.p1 (by omega) (by omega) ?_
    clear S
    intro v h S
    ((try clear F); have F := S.all; (try simp only [aC, aN, yC, and_true] at F))
    obtain ⟨A', c', hcut, hoff, hblk⟩ := S.p2.off.pop tmE_len
    (try simp (disch := first|omega|assumption|exact l_a rfl) only [go_sem, ↓wBk, simprocAttr, e0, F, hcut])
    have S := (S.p2.offUp (Fr.refl _ _) hoff (fun b hm => .inl (by rw [← hblk]; exact hm))).p2
    refine tS S (by rfl) (by rfl) (l_a rfl) ?_
    clear S
    intro h S
    simp only [sC, sN, l_h] at S
    (try simp (disch := first|omega|assumption|exact l_a rfl) only [go_sem, ↓wBk, simprocAttr])
    have S := (St.tim.2 ⟨_, S⟩).p1
    obtain ⟨Av', cv', rfl⟩ := S.sl
    rw [dueT, List.takeWhile_cons, if_pos (by simpa using hx)] at hD
    rw [lateT, List.dropWhile_cons, if_pos (by simpa using hx)] at hM
    refine hJ _ _ ?_ ?_
    ·(try simp (disch := first|omega|assumption|exact l_a rfl) only [go_sem, ↓wBk, simprocAttr, e0, e1])
     exact ⟨_, _, M, rfl, S, by omega, by simp only [l_m, l_f, l_g]; omega, by rw [← hD]; simp [dueT], hM⟩
    ·(try simp (disch := first|omega|assumption|exact l_a rfl) only [go_sem, ↓wBk, simprocAttr, e5, slN])
     simp only [l_m, l_f, l_g]
     omega
   ·(try simp (disch := first|omega|assumption|exact l_a rfl) only [go_sem, ↓wBk, simprocAttr, e0, e1, e5, F, hr0, hr1, hx])
    refine hK _ _ ?_
    rw [dueT, List.takeWhile_cons, if_neg (by simpa using hx)] at hD
    rw [lateT, List.dropWhile_cons, if_neg (by simpa using hx)] at hM
    rw [← hD, ← hM, List.map_nil, l_am]
    subst hn
    exact (St.tim.2 ⟨_, S⟩).p1
end
end
section
set_option maxHeartbeats 4000000
theorem tim_new {h0 h : Heap} {l : List HP} {t : Nat} (S : St h0 h (cellA t [.slice none 0 0] 85 :: l)) : St h0 h (timA t [] :: l) := St.tim.2 ⟨_, S.nilO.p1⟩
theorem good_nil : GoodT [] := ⟨.nil, .nil⟩
end
end Go.Proofs.YtijnkebgciaieaaGreat.MX
